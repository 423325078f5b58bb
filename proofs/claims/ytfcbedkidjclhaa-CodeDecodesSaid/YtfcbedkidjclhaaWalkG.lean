/-
  The walk of CodeDecodes: it answers true.
  Conditions: the bytes can be read, no more than may be handed in.
-/
import Derived.Test.YtfcbedkidjclhaaRef9
import Derived.Test.YtfcbedkidjclhaaCode17
import Derived.Test.YtfcbedkidjclhaaLent
namespace Go.Proofs.Ytfcbedkidjclhaa
open Go.RowKit
set_option maxRecDepth 100000
set_option linter.unusedSimpArgs false
set_option linter.unusedVariables false

theorem Lent.rd {w : World} {base g n c : Nat} {bs : List UInt8} (h : Lent w base g n c bs) : Rd w 1 (some ⟨g, 0, none⟩) n (bv bs) := by
  have h1 := (Rd.of_own h.own).take (k := n) (by omega)
  rw [bv_append, Nat.mul_one, List.take_left' (by rw [bv_length, h.len])] at h1
  exact h1
theorem Lent.cap {w : World} {base g n c : Nat} {bs : List UInt8} (h : Lent w base g n c bs) : n + 3 ≤ c := by
  obtain ⟨g', c', e, h1, _⟩ := own_some h.own (by omega)
  injection e with _ _ e
  omega
theorem Lent.ge {w : World} {base g n c : Nat} {bs : List UInt8} (h : Lent w base g n c bs) : base ≤ g := by
  obtain ⟨g', c', e, _, h1⟩ := own_some h.own (by omega)
  injection e with e
  injection e with e
  injection e with e
  omega
theorem Lent.ext {w w' : World} {base g n c : Nat} {bs : List UInt8} (h : Lent w base g n c bs) (k : Ext w w') : Lent w' base g n c bs := ⟨k.own h.own, h.len⟩
theorem Lent.put {w : World} {base g n c : Nat} {bs : List UInt8} (h : Lent w base g n c bs) {j : Nat} (hj : j < n) (x : UInt8) :
    Lent (w.setCell ⟨g, j, none⟩ (.int .u8 ((x.toNat : Nat) : Int))) base g n c (bs.set j x) := by
  have hl := h.len
  refine ⟨?_, by rw [List.length_set]; exact h.len⟩
  have h1 := own_put h.own (j := j) (by omega) (.int .u8 ((x.toNat : Nat) : Int))
  rw [bv_set, List.set_append_left _ _ (by omega)] at h1
  exact h1
theorem Lent.free {w : World} {base g n c : Nat} {bs : List UInt8} (h : Lent w base g n c bs) (j : Nat) : w.frozen? ⟨g, j, none⟩ = false := by
  rcases h.own.2 with ⟨h1, h0⟩ | ⟨g', cap, cur, hv, _, hh, _⟩
  · omega
  · injection hv with e
    injection e with e
    injection e with e
    subst e
    simp [World.frozen?, hh]
theorem Lent.cell {w : World} {base g n c : Nat} {bs : List UInt8} (h : Lent w base g n c bs) {j : Nat} (hj : j < n) : ∃ x : UInt8, w.cell? ⟨g, j, none⟩ = some (.int .u8 ((x.toNat : Nat) : Int)) := by
  have hl := h.len
  have := h.rd.cells j _ (bv_get bs j (by omega))
  rw [show (⟨g, 0, none⟩ : Addr).add j = ⟨g, j, none⟩ by unfold Addr.add; split <;> simp_all] at this
  exact ⟨_, this⟩
theorem xor_u8 (a b : Int) : ∃ x : UInt8, bits .xor .u8 a b = ((x.toNat : Nat) : Int) := by
  refine ⟨Pk.byte (bits .xor .u8 a b), ?_⟩
  rw [Pk.byte_toNat]
  show IntKind.u8.wrap _ = IntKind.u8.wrap _ % 256
  rw [IntKind.wrap_u8]
  omega

set_option maxHeartbeats 2000000 in
theorem CodeDecodes_any (A : Option Addr) (N c : Nat) (bs : List UInt8) (w : World) (hR : Rd w 1 A N (bv bs)) (hc : N ≤ c) (hN : N ≤ 140737488355328) :
    Calls Try.prog 9 #[.slice A N c] w fun e w' => e = .returned (.bool true) ∧ Ext w w' := by
  obtain ⟨l, p, e, hD⟩ : ∃ l p e, Cd.decode bs = (l, p, e) := ⟨_, _, _, rfl⟩
  have hl4 : l.length ≤ 4096 := by have := @decode_length bs; rw [hD] at this; exact this
  have HD := hd hD
  clear hD
  go_enter Try.func9, Try.ntmps9
  go_upto_region 6 with (first | (go_at_call 40; (with_reducible refine (known_any _).mono ?_); rintro e v1 ⟨rfl, hX1⟩) | (go_at_call 41; (with_reducible refine (lent_any A N c bs _ (hR.ext hX1) hN).mono ?_); rintro e v2 ⟨g, d, rfl, hL, hX2⟩) | (go_at_call 42; (with_reducible refine (CDecode_any (some ⟨g, 0, none⟩) N d bs _ hL.rd (by have := hL.cap; omega) (by omega)).mono ?_); rw [HD.out]; rintro e v3 ⟨B3, n3, d3, rfl, rfl, own3, hX3⟩) | (go_at_call 43; (with_reducible refine (RDecode_any A N c bs _ (hR.ext ((hX1.trans hX2).trans hX3)) hc (by omega)).mono ?_); rw [HD.out]; rintro e v4 ⟨B4, n4, d4, rfl, rfl, own4, hX4⟩))
  have hL4 := hL.ext (hX3.trans hX4)
  have hX14 := (hX1.trans hX2).trans (hX3.trans hX4)
  have hs1 := hX1.size
  have r3 := (Rd.of_own own3).ext hX4
  have r4 := Rd.of_own own4
  have hb := hL4.ge
  clear hL own3 own4 hX3 hX4 hX2 HD
  go_upto_region 8 with (first | (go_at_call 44; (with_reducible refine (same_any B3 B4 l.length l.length d3 d4 l l _ r3 r4 (by omega) (by omega)).mono ?_); rintro e v5 ⟨r, hr, rfl, hX5⟩; obtain rfl : r = true := hr.mpr rfl; clear hr) | (go_at_call 45; (with_reducible refine (sameBytes_any _ _ N N d c bs bs _ (hL4.ext hX5).rd (hR.ext (hX14.trans hX5))).mono ?_); rw [beq_self_eq_true]; rintro e v6 ⟨rfl, rfl⟩) | (go_at_call 46; (with_reducible refine (whole_any _ g N d bs _ (hL4.ext hX5) hN).mono ?_); rintro e v7 ⟨rfl, rfl⟩))
  have hL5 := hL4.ext hX5
  have hX15 := hX14.trans hX5
  clear hL4 hX14 hX5 r3 r4
  go_wp2
  go_loopw [10] (fun i wr => ∃ (k : Nat) (cs : List UInt8), i = .int .i64 k ∧ k ≤ N + 5 ∧ Ext w wr ∧ Lent wr v1.heap.size g N d cs) (fun i _ => N + 5 - (intOf i).toNat)
  case atStart => exact ⟨0, bs, rfl, by omega, hX15, hL5⟩
  case round =>
    obtain ⟨k, cs, rfl, hk, hX, hL⟩ := hrel
    by_cases hlt : k < N
    · have e1 : (k : Int) < (N : Int) := by omega
      obtain ⟨x, hx⟩ := hL.cell hlt
      have hf := hL.free k
      have ht : Int.tmod (k : Int) 3 = ((k % 3 : Nat) : Int) := by rw [Int.tmod_eq_emod_of_nonneg (by omega)]; omega
      have hw8 : IntKind.u8.wrap (1 + ((k % 3 : Nat) : Int)) = 1 + ((k % 3 : Nat) : Int) := by rw [IntKind.wrap_u8]; omega
      obtain ⟨y, hy⟩ := xor_u8 ((x.toNat : Nat) : Int) (1 + ((k % 3 : Nat) : Int))
      have hk3 : k % 3 < 3 := Nat.mod_lt _ (by omega)
      generalize k % 3 = q at ht hw8 hy hk3
      go_wp2
      go_roundw
      case rel => exact ⟨k + 5, cs.set k y, by go_num, by omega, hX.set (p := ⟨g, k, none⟩) (by simp only; omega) _, hL.put hlt y⟩
      case measure => simp [intOf]; omega
    · have e1 : ¬ (k : Int) < (N : Int) := by omega
      obtain ⟨l2, p2, e2, hD2⟩ : ∃ l p e, Cd.decode cs = (l, p, e) := ⟨_, _, _, rfl⟩
      have hl5 : l2.length ≤ 4096 := by have := @decode_length cs; rw [hD2] at this; exact this
      have HD2 := hd hD2
      clear hD2
      obtain ⟨i0, hi0, hz0, hz1, hz2⟩ := info_parts info5
      go_upto_region 14 with (first | (refine wl_appendK (.tmp 71) (.tmp 72) 22 wr.heap.size 5 i0 _ 1 1 Try.underlying22 hi0 hz0 hz1 hz2 rfl (by omega) _ 0 [] rfl (own_emptyK wr 5 1) (some ⟨g, 0, none⟩) N d (bv cs) rfl (hL.rd.alloc _) (bv_one _) (by omega) (by omega) (by simp) ?_; intro v8 w8 own8 hg8; rw [Nat.zero_add, List.nil_append] at own8; obtain ⟨A8, c8, rfl, hc8, -⟩ := own_form own8; have hX8 : Ext wr w8 := (Ext.new wr _).grown_own (own_emptyK wr 5 1) hg8 (Nat.le_refl _)) | (go_at_call 43; (with_reducible refine (RDecode_any A8 N c8 cs _ (Rd.of_own own8) hc8 (by omega)).mono ?_); rw [HD2.out]; rintro e v9 ⟨B9, n9, d9, rfl, rfl, own9, hX9⟩) | (go_at_call 42; (with_reducible refine (CDecode_any (some ⟨g, 0, none⟩) N d cs _ ((hL.ext (hX8.trans hX9)).rd) (by have := hL.cap; omega) (by omega)).mono ?_); rw [HD2.out]; rintro e v10 ⟨B10, n10, d10, rfl, rfl, own10, hX10⟩))
      have hXX := (hX8.trans hX9).trans hX10
      have hL9 := hL.ext hXX
      have r9 := (Rd.of_own own9).ext hX10
      have r10 := Rd.of_own own10
      clear own8 own9 own10 hX8 hX9 hX10 hg8 hL
      go_wp2_with (first | (go_at_call 44; (with_reducible refine (same_any B10 B9 l2.length l2.length d10 d9 l2 l2 _ r10 r9 (by omega) (by omega)).mono ?_); rintro e v11 ⟨r, hr, rfl, hX11⟩; obtain rfl : r = true := hr.mpr rfl; clear hr) | (go_at_call 46; (with_reducible refine (whole_any _ g N d cs _ (hL9.ext hX11) hN).mono ?_); rintro e v12 ⟨rfl, rfl⟩))
      go_ret
      exact ⟨rfl, (hX.trans hXX).trans hX11⟩

end Go.Proofs.Ytfcbedkidjclhaa
