/-
  The walk of CodeTurned: it answers true.
  Conditions: the list can be read, no more than may be handed in.
-/
import Derived.Test.YtfcbedkidjclhaaWalkB
namespace Go.Proofs.Ytfcbedkidjclhaa
open Go.RowKit
set_option maxRecDepth 100000
set_option linter.unusedSimpArgs false
set_option linter.unusedVariables false

theorem wf_u8 {z : Int} (h : (Lit.int .u8 z).wf = true) : 0 ≤ z ∧ z < 256 := by
  simp only [Lit.wf, Bool.and_eq_true, decide_eq_true_eq] at h
  have a1 : IntKind.min .u8 = 0 := by decide
  have a2 : IntKind.max .u8 = 255 := by decide
  rw [a1, a2] at h
  omega
/-- a row that is owned: its block -/
theorem own_block' {w : World} {base n c : Nat} {e : TypeId} {A : Option Addr} {xs : List Value} (h : w.ownsRow base e 1 (.slice A n c) n xs) (hn : 0 < n) : ∃ g cs, A = some ⟨g, 0, none⟩ ∧ Blk w g e cs ∧ base ≤ g := by
  rcases h.2 with ⟨h1, h2⟩ | ⟨g, cap, cur, h1, hb, hh, _⟩
  · omega
  · injection h1 with h1
    exact ⟨g, cur, h1, hh, hb⟩
/-- one cell of a list turned -/
theorem Rd.upd' {w : World} {b o n i : Nat} {xs : List Value} (h : Rd w 1 (some ⟨b, o, none⟩) n xs) (hi : i < n) (u : Value) : Rd (w.setCell ⟨b, o + i, none⟩ u) 1 (some ⟨b, o, none⟩) n (xs.set i u) := by
  obtain ⟨b', o', he, hc⟩ := h.form (by omega) (by omega)
  injection he with he
  injection he with hb ho _
  subst hb ho
  have hl := h.1
  refine ⟨by simpa using hl, fun _ => ⟨_, rfl, fun j v hj => ?_⟩⟩
  have e : (⟨b, o, none⟩ : Addr).add j = ⟨b, o + j, none⟩ := by unfold Addr.add; split <;> simp_all
  rw [e]
  by_cases hij : j = i
  · subst hij
    rw [List.getElem?_set_self (by omega)] at hj
    have := hc j _ (List.getElem?_eq_getElem (by omega))
    rw [World.cell?_setCell_same _ _ _ this]
    exact hj
  · rw [List.getElem?_set_ne (Ne.symm hij)] at hj
    rw [World.cell?_setCell_other]
    · exact hc j v hj
    · intro hh
      injection hh with _ h2 _
      omega
theorem bv_set' (l : List UInt8) (i : Nat) (x : UInt8) : bv (l.set i x) = (bv l).set i (.int .u8 (x.toNat : Int)) := by simp [bv]

set_option maxHeartbeats 1000000 in
/-- nothing is turned: the list is refused, or empty, or the number is 0 -/
theorem Turned_none (A : Option Addr) (c : Nat) (l : List Cd.Ins) (t y : Int) (w : World) (hR : Rd w 8 A l.length (cv l)) (hn : l.length * 56 ≤ 140737488355328)
    (x : List UInt8) (i : Nat) (e : Int) (hE : Cd.encode l = (x, i, e)) (h : ((e != 0) = true) ∨ ((e != 0) = false ∧ (((x.length : Int) == 0) = ((l.length : Int) == 0)) ∧ (((x.length : Int) == 0) = true ∨ (((x.length : Int) == 0) = false ∧ (y == 0) = true)))) :
    Calls Try.prog 17 #[.slice A l.length c, .int .i64 t, .int .u8 y] w fun e w' => e = .returned (.bool true) ∧ Ext w w' := by
  have HE := hd hE
  clear hE
  rcases h with h | ⟨h, h2, h3 | ⟨h3, h4⟩⟩
  · go_enter Try.func17, Try.ntmps17
    go_wp2_with (first | (go_at_call 40; (with_reducible refine (known_any _).mono ?_); rintro e v1 ⟨rfl, hX1⟩) | (go_at_call 50; (with_reducible refine (CEncode_any A l.length c l _ (hR.ext hX1) hn).mono ?_); rw [HE.out]; rintro e v2 ⟨A2, c2, rfl, own2, hX2⟩))
    go_ret
    exact ⟨rfl, hX1.trans hX2⟩
  · have h5 : ((l.length : Int) == 0) = true := by rw [← h2, h3]
    clear h2
    go_enter Try.func17, Try.ntmps17
    go_wp2_with (first | (go_at_call 40; (with_reducible refine (known_any _).mono ?_); rintro e v1 ⟨rfl, hX1⟩) | (go_at_call 50; (with_reducible refine (CEncode_any A l.length c l _ (hR.ext hX1) hn).mono ?_); rw [HE.out]; rintro e v2 ⟨A2, c2, rfl, own2, hX2⟩))
    go_ret
    exact ⟨ret_bool (by simp), hX1.trans hX2⟩
  · have h5 : ((l.length : Int) == 0) = false := by rw [← h2, h3]
    clear h2
    go_enter Try.func17, Try.ntmps17
    go_wp2_with (first | (go_at_call 40; (with_reducible refine (known_any _).mono ?_); rintro e v1 ⟨rfl, hX1⟩) | (go_at_call 50; (with_reducible refine (CEncode_any A l.length c l _ (hR.ext hX1) hn).mono ?_); rw [HE.out]; rintro e v2 ⟨A2, c2, rfl, own2, hX2⟩))
    go_ret
    exact ⟨ret_bool (by simp), hX1.trans hX2⟩

theorem getElem_flat {l : List UInt8} {k : Nat} (h : k < l.length) {z : UInt8} (hz : z ≠ l[k]) : l[k]? ≠ some z := by
  rw [List.getElem?_eq_getElem h]
  intro e
  injection e with e
  exact hz e.symm

/-- a number's place among so many -/
theorem place_of (t : Int) (N : Nat) (hN : 0 < N) : ∃ K : Nat, K < N ∧ ((Int.tmod t (N : Int) = (K : Int)) ∨ (Int.tmod t (N : Int) = (K : Int) - (N : Int) ∧ (K : Int) - (N : Int) < 0)) := by
  have h1 := Int.tmod_lt_of_pos t (show (0 : Int) < N by omega)
  have h2 : -(N : Int) < Int.tmod t N := by
    have h3 := Int.tmod_lt_of_pos (-t) (show (0 : Int) < N by omega)
    rw [Int.neg_tmod] at h3
    omega
  by_cases h : 0 ≤ Int.tmod t N
  · exact ⟨(Int.tmod t N).toNat, by omega, .inl (by omega)⟩
  · exact ⟨(Int.tmod t N + N).toNat, by omega, .inr ⟨by omega, by omega⟩⟩

set_option maxHeartbeats 2000000 in
theorem Turned_some (A : Option Addr) (c : Nat) (l : List Cd.Ins) (t y : Int) (w : World) (hR : Rd w 8 A l.length (cv l)) (hn : l.length * 56 ≤ 140737488355328) (hr : Cd.AllRight l) (hi : Cd.AllIn l) (h4 : l.length ≤ 4096)
    (N K : Nat) (hN : (Cd.flat l).length = N) (hK : K < N) (hN8 : N ≤ 65536) (y0 : 0 < y) (y1 : y < 256) (z : UInt8) (hv : ∀ h : K < (Cd.flat l).length, (((Cd.flat l)[K].toNat : Int) + y) % 256 = (z.toNat : Int))
    (ht : (Int.tmod t (N : Int) = (K : Int)) ∨ (Int.tmod t (N : Int) = (K : Int) - (N : Int) ∧ (K : Int) - (N : Int) < 0)) :
    Calls Try.prog 17 #[.slice A l.length c, .int .i64 t, .int .u8 y] w fun e w' => e = .returned (.bool true) ∧ Ext w w' := by
  have hKl : K < (Cd.flat l).length := by omega
  have hvz := hv hKl
  have hz : z ≠ (Cd.flat l)[K] := by
    intro e
    have := (Cd.flat l)[K].toNat_lt
    rw [← e] at hvz this
    omega
  obtain ⟨m, u, f, hD⟩ : ∃ m u f, Cd.decode ((Cd.flat l).set K z) = (m, u, f) := ⟨_, _, _, rfl⟩
  have hlaw := Cd.turned_law hr hi h4 hKl (getElem_flat hKl hz) hD
  have hml : m.length ≤ 4096 := by have := @decode_length ((Cd.flat l).set K z); rw [hD] at this; exact this
  have HE := hd (Cd.encode_ok hr h4)
  have HD := hd hD
  have HL := hd hlaw
  have HN := hd hN
  have HM := hd hml
  obtain ⟨x, hx⟩ : ∃ x, (Cd.flat l)[K] = x := ⟨_, rfl⟩
  have hgx := bv_get (Cd.flat l) K hKl
  rw [hx] at hgx hvz
  have HG := hd hgx
  have hwz : IntKind.u8.wrap ((x.toNat : Int) + y) = (z.toNat : Int) := by rw [IntKind.wrap_u8, hvz]
  have e1 : ((N : Int) == 0) = false := by simp; omega
  have e2 : (y == 0) = false := by simp; omega
  clear hD hlaw hml hN hv hz hr hi hgx hx hKl
  have HT := hd ht
  clear ht
  go_enter Try.func17, Try.ntmps17
  go_upto_region 4 with (first | (go_at_call 40; (with_reducible refine (known_any _).mono ?_); rintro e v1 ⟨rfl, hX1⟩) | (go_at_call 50; (with_reducible refine (CEncode_any A l.length c l _ (hR.ext hX1) hn).mono ?_); rw [HE.out]; rintro e v2 ⟨A2, c2, rfl, own2, hX2⟩))
  rw [HN.out] at own2 ⊢
  obtain ⟨g, cs, rfl, hB, hg⟩ := own_block' own2 (by omega)
  have rd2 := Rd.of_own own2
  obtain ⟨b, o, he, hcc⟩ := rd2.form (by omega) (by omega)
  injection he with he
  injection he with hb ho _
  subst hb ho
  have ci := hcc K _ HG.out
  clear hcc
  have fi := hB.free (0 + K)
  have rd3 := rd2.upd' hK (.int .u8 (z.toNat : Int))
  rw [← bv_set'] at rd3
  rw [Nat.zero_add] at ci fi rd3
  have X3 : Ext w (v2.setCell ⟨g, K, none⟩ (.int .u8 (z.toNat : Int))) := (hX1.trans hX2).set (p := ⟨g, K, none⟩) (by have := hX1.size; simp only; omega) _
  have hc2 := own_cap own2
  have hR3 := hR.ext X3
  clear own2 rd2 hB hX1 hX2 HG
  rcases HT.out with ht | ⟨ht, hneg⟩
  · have hKp : ¬ ((K : Int) < 0) := by omega
    go_upto_region 10 with (fail)
    have hu0 : (u : Int) ≥ 0 := by omega
    rcases HL.out with ⟨hf, hm⟩ | ⟨hf, hm, hu⟩
    · have eb : (f != 0) = false := by simpa using hf
      go_wp2_with (first | (go_at_call 42; (with_reducible refine (CDecode_any (some ⟨g, 0, none⟩) N c2 ((Cd.flat l).set K z) _ rd3 hc2 (by omega)).mono ?_); rw [HD.out]; rintro e v3 ⟨B3, n3, d3, rfl, rfl, own3, hX3⟩) | (go_at_call 44; (with_reducible refine (same_any _ _ l.length m.length _ _ l m _ (hR3.ext hX3) (Rd.of_own own3) hn (by have := HM.out; omega)).mono ?_); rintro e v4 ⟨r, hr, rfl, hX4⟩; obtain rfl : r = false := (by cases r; rfl; exact absurd (hr.mp rfl).symm hm)))
      go_ret
      exact ⟨rfl, (X3.trans hX3).trans hX4⟩
    · have eb : (f != 0) = true := by simpa using hf
      have hu1 : (u : Int) ≤ (K : Int) / 8 + 1 := by omega
      subst hm
      go_wp2_with (go_at_call 42; (with_reducible refine (CDecode_any (some ⟨g, 0, none⟩) N c2 ((Cd.flat l).set K z) _ rd3 hc2 (by omega)).mono ?_); rw [HD.out]; rintro e v3 ⟨B3, n3, d3, rfl, rfl, own3, hX3⟩)
      go_ret
      exact ⟨ret_bool (by simp), X3.trans hX3⟩
  · go_upto_region 10 with (fail)
    have hu0 : (u : Int) ≥ 0 := by omega
    rcases HL.out with ⟨hf, hm⟩ | ⟨hf, hm, hu⟩
    · have eb : (f != 0) = false := by simpa using hf
      go_wp2_with (first | (go_at_call 42; (with_reducible refine (CDecode_any (some ⟨g, 0, none⟩) N c2 ((Cd.flat l).set K z) _ rd3 hc2 (by omega)).mono ?_); rw [HD.out]; rintro e v3 ⟨B3, n3, d3, rfl, rfl, own3, hX3⟩) | (go_at_call 44; (with_reducible refine (same_any _ _ l.length m.length _ _ l m _ (hR3.ext hX3) (Rd.of_own own3) hn (by have := HM.out; omega)).mono ?_); rintro e v4 ⟨r, hr, rfl, hX4⟩; obtain rfl : r = false := (by cases r; rfl; exact absurd (hr.mp rfl).symm hm)))
      go_ret
      exact ⟨rfl, (X3.trans hX3).trans hX4⟩
    · have eb : (f != 0) = true := by simpa using hf
      have hu1 : (u : Int) ≤ (K : Int) / 8 + 1 := by omega
      subst hm
      go_wp2_with (go_at_call 42; (with_reducible refine (CDecode_any (some ⟨g, 0, none⟩) N c2 ((Cd.flat l).set K z) _ rd3 hc2 (by omega)).mono ?_); rw [HD.out]; rintro e v3 ⟨B3, n3, d3, rfl, rfl, own3, hX3⟩)
      go_ret
      exact ⟨ret_bool (by simp), X3.trans hX3⟩

theorem CodeTurned_any (A : Option Addr) (n c : Nat) (l : List Cd.Ins) (t y : Int) (w : World) (hR : Rd w 8 A n (cv l)) (hn : n * 56 ≤ 140737488355328) (hi : Cd.AllIn l) (y0 : 0 ≤ y) (y1 : y < 256) :
    Calls Try.prog 17 #[.slice A n c, .int .i64 t, .int .u8 y] w fun e w' => e = .returned (.bool true) ∧ Ext w w' := by
  have hl : l.length = n := by have := hR.1; rw [cv_length] at this; omega
  subst hl
  rcases enc_two l with ⟨i, e, he, hE⟩ | ⟨h1, h2, hE⟩
  · exact Turned_none A c l t y w hR hn _ _ _ hE (.inl (by simpa using he))
  · have hfl := Cd.flat_length l
    have hw1 := Cd.wid_le l
    have hw2 := Cd.wid_two l
    by_cases h0 : (Cd.flat l).length = 0
    · have hl0 : l.length = 0 := by omega
      exact Turned_none A c l t y w hR hn _ _ _ hE (.inr ⟨rfl, by rw [h0, hl0], .inl (by rw [h0]; rfl)⟩)
    · have hl0 : l.length ≠ 0 := by
        intro h
        have hnil := List.eq_nil_of_length_eq_zero h
        rw [hnil] at h0
        exact h0 rfl
      have f1 : (((Cd.flat l).length : Int) == 0) = false := by rw [beq_eq_false_iff_ne]; omega
      have f2 : ((l.length : Int) == 0) = false := by rw [beq_eq_false_iff_ne]; omega
      by_cases hy : y = 0
      · exact Turned_none A c l t y w hR hn _ _ _ hE (.inr ⟨rfl, by rw [f1, f2], .inr ⟨f1, by simpa using hy⟩⟩)
      · obtain ⟨K, hK, ht⟩ := place_of t (Cd.flat l).length (by omega)
        obtain ⟨z, hz⟩ : ∃ z : UInt8, (((Cd.flat l)[K].toNat : Int) + y) % 256 = (z.toNat : Int) := by
          have q0 : 0 ≤ (((Cd.flat l)[K].toNat : Int) + y) % 256 := Int.emod_nonneg _ (by decide)
          have q1 : (((Cd.flat l)[K].toNat : Int) + y) % 256 < 256 := Int.emod_lt_of_pos _ (by decide)
          generalize (((Cd.flat l)[K].toNat : Int) + y) % 256 = q at q0 q1 ⊢
          exact ⟨UInt8.ofNat q.toNat, by rw [UInt8.toNat_ofNat_of_lt' (by simp only [UInt8.size]; omega)]; omega⟩
        exact Turned_some A c l t y w hR hn h1 hi h2 _ K rfl hK (by omega) (by omega) y1 z (fun h => hz) ht

end Go.Proofs.Ytfcbedkidjclhaa
