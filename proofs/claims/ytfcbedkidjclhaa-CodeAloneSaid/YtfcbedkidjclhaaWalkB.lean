/-
  The walks of CodeUnlike, CodeFirst: they answer true.
  Conditions: the lists can be read, no more than may be handed in.
-/
import Derived.Test.YtfcbedkidjclhaaWalkA
namespace Go.Proofs.Ytfcbedkidjclhaa
open Go.RowKit
set_option maxRecDepth 100000
set_option linter.unusedSimpArgs false
set_option linter.unusedVariables false

theorem enc_two (l : List Cd.Ins) : (∃ i e, e ≠ 0 ∧ Cd.encode l = ([], i, e)) ∨ (Cd.AllRight l ∧ l.length ≤ 4096 ∧ Cd.encode l = (Cd.flat l, 0, 0)) := by
  by_cases h : (Cd.check l).2 = 0
  · obtain ⟨h1, h2⟩ := Cd.check_ok.mp h
    exact .inr ⟨h1, h2, Cd.encode_ok h1 h2⟩
  · exact .inl ⟨_, _, h, Cd.encode_bad rfl h⟩

theorem enc_same {l k : List Cd.Ins} {x y : List UInt8} {i j : Nat} {e f : Int} (h1 : Cd.encode l = (x, i, e)) (h2 : Cd.encode k = (y, j, f)) (h : l = k) : e = f := by
  subst h
  rw [h1] at h2
  injection h2 with _ h3
  injection h3
theorem beq_of {l k : List Cd.Ins} {r : Bool} (h : r = true ↔ l = k) (h2 : Cd.flat l = Cd.flat k → l = k) : (Cd.flat l == Cd.flat k) = r := by
  rw [Bool.eq_iff_iff, beq_iff_eq, h]
  exact ⟨h2, fun h => by rw [h]⟩

set_option maxHeartbeats 1000000 in
theorem Unlike_bad (A B : Option Addr) (c d : Nat) (l k : List Cd.Ins) (w : World) (hR : Rd w 8 A l.length (cv l)) (hS : Rd w 8 B k.length (cv k)) (hn : l.length * 56 ≤ 140737488355328) (hm : k.length * 56 ≤ 140737488355328)
    (x y : List UInt8) (i j : Nat) (e f : Int) (hE : Cd.encode l = (x, i, e)) (hF : Cd.encode k = (y, j, f)) (h : ((e != 0) = true) ∨ ((e != 0) = false ∧ (f != 0) = true)) :
    Calls Try.prog 16 #[.slice A l.length c, .slice B k.length d] w fun e w' => e = .returned (.bool true) ∧ Ext w w' := by
  have HE := hd hE
  have HF := hd hF
  clear hE hF
  rcases h with h | ⟨h, h'⟩
  all_goals go_enter Try.func16, Try.ntmps16
  all_goals go_wp2_with (first | (go_at_call 40; (with_reducible refine (known_any _).mono ?_); rintro e v1 ⟨rfl, hX1⟩) | (go_at_call 50; (with_reducible refine (CEncode_any A l.length c l _ (hR.ext hX1) hn).mono ?_); rw [HE.out]; rintro e v2 ⟨A2, c2, rfl, own2, hX2⟩) | (go_at_call 50; (with_reducible refine (CEncode_any B k.length d k _ (hS.ext (hX1.trans hX2)) hm).mono ?_); rw [HF.out]; rintro e v3 ⟨A3, c3, rfl, own3, hX3⟩) | (go_at_call 44; (with_reducible refine (same_any _ _ l.length k.length _ _ l k _ (hR.ext ((hX1.trans hX2).trans hX3)) (hS.ext ((hX1.trans hX2).trans hX3)) hn hm).mono ?_); rintro e' v4 ⟨r, hr, rfl, hX4⟩; have HR := hd (show r = true → e = f from fun hq => enc_same HE.out HF.out (hr.mp hq)); clear hr))
  all_goals go_ret
  all_goals refine ⟨?_, ((hX1.trans hX2).trans hX3).trans hX4⟩
  all_goals first
    | rfl
    | (refine ret_bool ?_
       have h := HR.out
       simp at h ⊢
       first | exact h | (apply h; assumption))

set_option maxHeartbeats 1000000 in
theorem CodeUnlike_any (A B : Option Addr) (n m c d : Nat) (l k : List Cd.Ins) (w : World) (hR : Rd w 8 A n (cv l)) (hS : Rd w 8 B m (cv k)) (hn : n * 56 ≤ 140737488355328) (hm : m * 56 ≤ 140737488355328) (hi : Cd.AllIn l) (hj : Cd.AllIn k) :
    Calls Try.prog 16 #[.slice A n c, .slice B m d] w fun e w' => e = .returned (.bool true) ∧ Ext w w' := by
  have hl : l.length = n := by have := hR.1; rw [cv_length] at this; omega
  have hk : k.length = m := by have := hS.1; rw [cv_length] at this; omega
  subst hl hk
  rcases enc_two l with ⟨i, e, he, hE⟩ | ⟨h1, h2, hE⟩
  · exact Unlike_bad A B c d l k w hR hS hn hm _ _ _ _ _ _ hE rfl (.inl (by simpa using he))
  · rcases enc_two k with ⟨j, f, hf, hF⟩ | ⟨h3, h4, hF⟩
    · exact Unlike_bad A B c d l k w hR hS hn hm _ _ _ _ _ _ hE hF (.inr ⟨rfl, by simpa using hf⟩)
    · have HI := hd (fun h => Cd.flat_inj h1 h3 hi hj h2 h4 h : Cd.flat l = Cd.flat k → l = k)
      have HE := hd hE
      have HF := hd hF
      clear hE hF h1 h2 h3 h4 hi hj
      go_enter Try.func16, Try.ntmps16
      go_wp2_with (first | (go_at_call 40; (with_reducible refine (known_any _).mono ?_); rintro e v1 ⟨rfl, hX1⟩) | (go_at_call 50; (with_reducible refine (CEncode_any A l.length c l _ (hR.ext hX1) hn).mono ?_); rw [HE.out]; rintro e v2 ⟨A2, c2, rfl, own2, hX2⟩) | (go_at_call 50; (with_reducible refine (CEncode_any B k.length d k _ (hS.ext (hX1.trans hX2)) hm).mono ?_); rw [HF.out]; rintro e v3 ⟨A3, c3, rfl, own3, hX3⟩) | (go_at_call 45; (with_reducible refine (sameBytes_any _ _ _ _ _ _ (Cd.flat l) (Cd.flat k) _ ((Rd.of_own own2).ext hX3) (Rd.of_own own3)).mono ?_); rintro e v5 ⟨rfl, rfl⟩) | (go_at_call 44; (with_reducible refine (same_any _ _ l.length k.length _ _ l k _ (hR.ext ((hX1.trans hX2).trans hX3)) (hS.ext ((hX1.trans hX2).trans hX3)) hn hm).mono ?_); rintro e' v4 ⟨r, hr, rfl, hX4⟩; have HR := hd (show (Cd.flat l == Cd.flat k) = r from beq_of hr HI.out); clear hr))
      go_ret
      exact ⟨ret_bool (by rw [HR.out]; simp), ((hX1.trans hX2).trans hX3).trans hX4⟩

theorem Rd.tail1 {w : World} {b o N k : Nat} {bs : List UInt8} (h : Rd w 1 (some ⟨b, o, none⟩) N (bv bs)) : Rd w 1 (some ⟨b, o + k, none⟩) (N - k) (bv (bs.drop k)) := by
  refine ⟨by have := h.1; rw [bv_length] at this ⊢; rw [List.length_drop]; omega, fun _ => ⟨_, rfl, fun j u hu => ?_⟩⟩
  have h1 := h.cells (k + j) u (by rw [← hu, ← bv_drop, List.getElem?_drop])
  rw [show (⟨b, o, none⟩ : Addr).add (k + j) = ⟨b, o + (k + j), none⟩ by unfold Addr.add; split <;> simp_all] at h1
  rw [show (⟨b, o + k, none⟩ : Addr).add j = ⟨b, o + (k + j), none⟩ by unfold Addr.add; split <;> simp_all [Nat.add_assoc]]
  exact h1

set_option maxHeartbeats 1000000 in
theorem CodeFirst_any (A : Option Addr) (N c : Nat) (bs : List UInt8) (w : World) (hR : Rd w 1 A N (bv bs)) (hc : N ≤ c) (hN : N ≤ 140737488355328) :
    Calls Try.prog 14 #[.slice A N c] w fun e w' => e = .returned (.bool true) ∧ Ext w w' := by
  have hl : bs.length = N := by have := hR.1; rw [bv_length] at this; omega
  obtain ⟨l, p, e, hD⟩ : ∃ l p e, Cd.decode bs = (l, p, e) := ⟨_, _, _, rfl⟩
  by_cases he : e = 0
  · subst he
    obtain ⟨rfl, -⟩ := Cd.decode_ok hD
    have HD := hd hD
    clear hD hl
    go_enter Try.func14, Try.ntmps14
    go_wp2_with (first | (go_at_call 40; (with_reducible refine (known_any _).mono ?_); rintro e v1 ⟨rfl, hX1⟩) | (go_at_call 42; (with_reducible refine (CDecode_any A N c bs _ (hR.ext hX1) hc (by omega)).mono ?_); rw [HD.out]; rintro e v2 ⟨B, n, d, rfl, rfl, own2, hX2⟩))
    go_ret
    exact ⟨rfl, hX1.trans hX2⟩
  · obtain ⟨h1, t, h2, h3, h4⟩ := Cd.first_law hD he
    rw [hl] at h1
    obtain ⟨b, o, rfl, -⟩ := hR.form (by omega) (by omega)
    have eb : (e == 0) = false := by simpa using he
    have e8 : ¬ (8 * (p : Int) ≥ (N : Int)) := by omega
    have hT : Rd w 1 (some ⟨b, o, none⟩) (8 * p) (bv (bs.take (8 * p))) := by have := hR.take (k := 8 * p) (by omega); rwa [Nat.mul_one, bv_take] at this
    have hU : Rd w 1 (some ⟨b, o + 8 * p, none⟩) (N - 8 * p) (bv (bs.drop (8 * p))) := hR.tail1
    have HD := hd hD
    have HT := hd h2
    have H3 := hd h3
    have H4 := hd h4
    clear hD he h2 h3 h4 hl
    go_enter Try.func14, Try.ntmps14
    go_upto_region 11 with (first | (go_at_call 40; (with_reducible refine (known_any _).mono ?_); rintro e v1 ⟨rfl, hX1⟩) | (go_at_call 42; (with_reducible refine (CDecode_any (some ⟨b, o, none⟩) N c bs _ (hR.ext hX1) hc (by omega)).mono ?_); rw [HD.out]; rintro e v2 ⟨B, n, d, rfl, rfl, own2, hX2⟩) | (go_at_call 42; (with_reducible refine (CDecode_any (some ⟨b, o, none⟩) (8 * p) c (bs.take (8 * p)) _ (hT.ext (hX1.trans hX2)) (by omega) (by omega)).mono ?_); rw [HT.out]; rintro e v3 ⟨B3, n3, d3, rfl, rfl, own3, hX3⟩))
    have X3 := (hX1.trans hX2).trans hX3
    by_cases h25 : e = 25
    · have e5 : (e == 25) = true := by simpa using h25
      have e6 : ((t.length : Int) == 4096) = true := by have := H3.out h25; simp; omega
      go_wp2
      go_ret
      exact ⟨ret_bool (by simp), X3⟩
    · have e5 : (e == 25) = false := by simpa using h25
      have h5 := H4.out h25
      have H5 := hd h5
      clear h5 H4 H3 h25
      go_wp2_with (go_at_call 42; (with_reducible refine (CDecode_any (some ⟨b, o + 8 * p, none⟩) (N - 8 * p) (c - 8 * p) (bs.drop (8 * p)) _ (hU.ext X3) (by omega) (by omega)).mono ?_); rw [H5.out]; rintro e v4 ⟨B4, n4, d4, rfl, rfl, own4, hX4⟩)
      go_ret
      exact ⟨ret_bool (by simp), X3.trans hX4⟩

end Go.Proofs.Ytfcbedkidjclhaa
