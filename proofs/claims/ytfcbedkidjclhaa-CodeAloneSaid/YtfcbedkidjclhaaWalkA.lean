/-
  The walks of CodeNames, CodeForth, CodeBack: they answer true.
  Conditions: the lists can be read, no more than may be handed in.
-/
import Derived.Test.YtfcbedkidjclhaaCode17
namespace Go.Proofs.Ytfcbedkidjclhaa
open Go.RowKit
set_option maxRecDepth 100000
set_option linter.unusedSimpArgs false
set_option linter.unusedVariables false

theorem Cd.wid_two (l : List Cd.Ins) : Cd.wid l ≤ 2 * l.length := by
  induction l with
  | nil => simp [Cd.wid]
  | cons x l ih => simp only [Cd.wid, List.length_cons]; unfold Cd.width; split <;> omega
theorem own_cap {w : World} {base n c sz : Nat} {e : TypeId} {A : Option Addr} {xs : List Value} (h : w.ownsRow base e sz (.slice A n c) n xs) : n ≤ c := by
  rcases h.2 with ⟨h1, h0⟩ | ⟨g, cap, cur, hv, _, _, hle, _⟩
  · injection h1; omega
  · injection hv; omega

theorem CodeNames_any (w : World) : Calls Try.prog 8 #[] w fun e w' => e = .returned (.bool true) ∧ Ext w w' := by
  go_enter Try.func8, Try.ntmps8
  go_wp2_with (go_at_call 40; (with_reducible refine (known_any _).mono ?_); rintro e v ⟨rfl, hX⟩)
  go_ret
  exact ⟨rfl, hX⟩

set_option maxHeartbeats 1000000 in
theorem CodeForth_any (A : Option Addr) (N c : Nat) (bs : List UInt8) (w : World) (hR : Rd w 1 A N (bv bs)) (hc : N ≤ c) (hN : N ≤ 140737488355328) :
    Calls Try.prog 12 #[.slice A N c] w fun e w' => e = .returned (.bool true) ∧ Ext w w' := by
  have hl : bs.length = N := by have := hR.1; rw [bv_length] at this; omega
  obtain ⟨l, p, e, hD⟩ : ∃ l p e, Cd.decode bs = (l, p, e) := ⟨_, _, _, rfl⟩
  by_cases he : e = 0
  · subst he
    obtain ⟨rfl, h1, h2, h3, h4⟩ := Cd.decode_ok hD
    have HD := hd hD
    have HE := hd (show Cd.encode l = (bs, 0, 0) by rw [Cd.encode_ok h1 h4, h3])
    have HC := hd (Cd.check_zero h1 h4)
    have H4 := hd h4
    clear hD h1 h2 h3 h4 hl
    go_enter Try.func12, Try.ntmps12
    go_wp2_with (first | (go_at_call 40; (with_reducible refine (known_any _).mono ?_); rintro e v1 ⟨rfl, hX1⟩) | (go_at_call 42; (with_reducible refine (CDecode_any A N c bs _ (hR.ext hX1) hc (by omega)).mono ?_); rw [HD.out]; rintro e v2 ⟨B, n, d, rfl, rfl, own2, hX2⟩) | (go_at_call 49; (with_reducible refine (Check_any B l.length d l _ (Rd.of_own own2) (by have := H4.out; omega)).mono ?_); rw [HC.out]; rintro e v3 ⟨rfl, hX3⟩) | (go_at_call 50; (with_reducible refine (CEncode_any B l.length d l _ ((Rd.of_own own2).ext hX3) (by have := H4.out; omega)).mono ?_); rw [HE.out]; rintro e v4 ⟨A4, c4, rfl, own4, hX4⟩) | (go_at_call 45; (with_reducible refine (sameBytes_any _ _ _ _ _ _ bs bs _ (hR.ext (((hX1.trans hX2).trans hX3).trans hX4)) (Rd.of_own own4)).mono ?_); rw [beq_self_eq_true]; rintro e v5 ⟨rfl, rfl⟩))
    go_ret
    exact ⟨rfl, ((hX1.trans hX2).trans hX3).trans hX4⟩
  · obtain ⟨rfl, h1, h2, h3, -⟩ := Cd.decode_bad hD he
    have HD := hd hD
    have eb : (e != 0) = true := by simpa using he
    have e8 : 8 * (p : Int) < (N : Int) := by omega
    clear hD he h2 h3 hl
    go_enter Try.func12, Try.ntmps12
    go_wp2_with (first | (go_at_call 40; (with_reducible refine (known_any _).mono ?_); rintro e v1 ⟨rfl, hX1⟩) | (go_at_call 42; (with_reducible refine (CDecode_any A N c bs _ (hR.ext hX1) hc (by omega)).mono ?_); rw [HD.out]; rintro e v2 ⟨B, n, d, rfl, rfl, own2, hX2⟩))
    go_ret
    exact ⟨rfl, hX1.trans hX2⟩

set_option maxHeartbeats 1000000 in
theorem CodeBack_any (A : Option Addr) (n c : Nat) (l : List Cd.Ins) (w : World) (hR : Rd w 8 A n (cv l)) (hn : n * 56 ≤ 140737488355328) (hi : Cd.AllIn l) :
    Calls Try.prog 11 #[.slice A n c] w fun e w' => e = .returned (.bool true) ∧ Ext w w' := by
  have hl : l.length = n := by have := hR.1; rw [cv_length] at this; omega
  subst hl
  obtain ⟨i, e, hC⟩ : ∃ i e, Cd.check l = (i, e) := ⟨_, _, rfl⟩
  by_cases he : e = 0
  · subst he
    have hz : (Cd.check l).2 = 0 := by rw [hC]
    obtain ⟨h1, h2⟩ := Cd.check_ok.mp hz
    have HE := hd (Cd.encode_ok h1 h2)
    have HC := hd (Cd.check_zero h1 h2)
    have HD := hd (Cd.decode_flat h1 hi h2)
    have hfl := Cd.flat_length l
    have hwl : Cd.wid l ≤ 2 * l.length := Cd.wid_two l
    have HW := hd (show (Cd.flat l).length = 8 * Cd.wid l ∧ Cd.wid l ≤ 8192 from ⟨hfl, by omega⟩)
    have hU := Cd.units_last l
    have hUl := Cd.units_length l
    have HU := hd (show (nv (Cd.units l))[l.length]? = some (.int .i64 (Cd.wid l : Int)) by simp [nv, iv, hU])
    have e4 : (l.length : Int) ≤ 4096 := by omega
    clear hC hz h1 hi hfl hwl hU hUl
    go_enter Try.func11, Try.ntmps11
    go_upto_region 11 with (first | (go_at_call 40; (with_reducible refine (known_any _).mono ?_); rintro e v1 ⟨rfl, hX1⟩) | (go_at_call 50; (with_reducible refine (CEncode_any A l.length c l _ (hR.ext hX1) hn).mono ?_); rw [HE.out]; rintro e v2 ⟨A2, c2, rfl, own2, hX2⟩) | (go_at_call 49; (with_reducible refine (Check_any A l.length c l _ (hR.ext (hX1.trans hX2)) hn).mono ?_); rw [HC.out]; rintro e v3 ⟨rfl, hX3⟩) | (go_at_call 42; (with_reducible refine (CDecode_any A2 (Cd.flat l).length c2 (Cd.flat l) _ ((Rd.of_own own2).ext hX3) (own_cap own2) (by have := HW.out; omega)).mono ?_); rw [HD.out]; rintro e v4 ⟨B4, n4, d4, rfl, rfl, own4, hX4⟩) | (go_at_call 51; (with_reducible refine (Units_any A l.length c l _ (hR.ext (((hX1.trans hX2).trans hX3).trans hX4)) hn).mono ?_); rintro e v5 ⟨B5, d5, rfl, own5, hX5⟩))
    obtain ⟨b5, o5, rfl, hc5⟩ := (Rd.of_own own5).form (by omega) (by omega)
    have cu := hc5 _ _ HU.out
    have hw8 : (Cd.wid l : Int) ≤ 8192 := by have := HW.out.2; omega
    have e9 : (((Cd.flat l).length : Int) == 8 * (Cd.wid l : Int)) = true := by have := HW.out.1; simp; omega
    have hL5 := hR.ext ((((hX1.trans hX2).trans hX3).trans hX4).trans hX5)
    have hD5 := (Rd.of_own own4).ext hX5
    have X5 := (((hX1.trans hX2).trans hX3).trans hX4).trans hX5
    clear HE HC HD HU HW hc5 own5 own4 own2 hX1 hX2 hX3 hX4 hX5 hR
    go_wp2_with (go_at_call 44; (with_reducible refine (same_any _ _ l.length l.length _ _ l l _ hL5 hD5 hn hn).mono ?_); rintro e v6 ⟨r, hr, rfl, hX6⟩; obtain rfl : r = true := hr.mpr rfl; have cu6 := hX6.cell cu)
    go_ret
    exact ⟨ret_bool (by simp), X5.trans hX6⟩
  · obtain ⟨h1, h2, h3⟩ := Cd.check_bad hC he
    have HE := hd (Cd.encode_bad hC he)
    have HC := hd hC
    have eb : (e != 0) = true := by simpa using he
    have ei : (i : Int) < (l.length : Int) := by omega
    clear hC he h1 h2 h3
    go_enter Try.func11, Try.ntmps11
    go_wp2_with (first | (go_at_call 40; (with_reducible refine (known_any _).mono ?_); rintro e v1 ⟨rfl, hX1⟩) | (go_at_call 50; (with_reducible refine (CEncode_any A l.length c l _ (hR.ext hX1) hn).mono ?_); rw [HE.out]; rintro e v2 ⟨A2, c2, rfl, own2, hX2⟩) | (go_at_call 49; (with_reducible refine (Check_any A l.length c l _ (hR.ext (hX1.trans hX2)) hn).mono ?_); rw [HC.out]; rintro e v3 ⟨rfl, hX3⟩))
    go_ret
    exact ⟨rfl, (hX1.trans hX2).trans hX3⟩

end Go.Proofs.Ytfcbedkidjclhaa
