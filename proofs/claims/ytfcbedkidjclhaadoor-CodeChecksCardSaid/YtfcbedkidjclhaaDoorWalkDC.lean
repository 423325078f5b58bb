/-
  The walk of CodeChecks: it answers true.
  Conditions: the instructions can be read, no more than may be handed in; the package variable holds the mark.
-/
import Derived.Test.YtfcbedkidjclhaaDoorWalkDU
import Derived.Test.YtfcbedkidjclhaaDoorRefL
namespace Go.Proofs.YtfcbedkidjclhaaDoor
open Go.RowKit
set_option maxRecDepth 100000
set_option linter.unusedSimpArgs false
set_option linter.unusedVariables false

set_option maxHeartbeats 2000000 in
theorem CodeChecks_any (A : Option Addr) (n c : Nat) (l : List Cd.Ins) (w : World) (hM : MarkAt w) (hR : Rd w 8 A n (cv l)) (hn : n * 56 ≤ 140737488355328) :
    Calls Tryd.prog 4 #[.slice A n c] w fun e w' => e = .returned (.bool true) ∧ Ext w w' := by
  have hl : l.length = n := by have := hR.1; rw [cv_length] at this; omega
  have HL := hd hl
  obtain ⟨i1, e1, hc1⟩ : ∃ i e, Cd.check l = (i, e) := ⟨_, _, rfl⟩
  have HC := hd hc1
  clear hl hc1
  go_enter Tryd.func4, Tryd.ntmps4
  go_upto_region 6 with (first | (go_at_call 6; (with_reducible refine (known_any _).mono ?_); rintro e v1 ⟨rfl, hX1⟩; have hM1 := hM.ext hX1) | (go_at_call 7; (with_reducible refine (lend_any A n c l _ hM1 (hR.ext hX1) hn).mono ?_); rintro e v2 ⟨g, d, rfl, hL2, hX2⟩) | (go_at_call 13; (with_reducible refine (Check_any (some ⟨g, 0, none⟩) n d l _ hL2.rd hn).mono ?_); rw [HC.out]; rintro e v3 ⟨rfl, hX3⟩) | (go_at_call 14; (with_reducible refine (RCheck_any A n c l _ (hR.ext ((hX1.trans hX2).trans hX3)) hn).mono ?_); rw [HC.out]; rintro e v4 ⟨rfl, hX4⟩))
  have hL4 := (hL2.ext hX3).ext hX4
  have X4 := ((hX1.trans hX2).trans hX3).trans hX4
  have hg1 := hL4.ge
  have hz1 := hX1.size
  clear hL2 hX2 hX3 hX4
  go_upto_region 8 with (first | (go_at_call 11; (with_reducible refine (same_true (some ⟨g, 0, none⟩) A n d c l _ hL4.rd (hR.ext X4) hn).mono ?_); rintro e v8 ⟨rfl, hX8⟩) | (go_at_call 12; (with_reducible refine (held_any _ g n d l _ (hL4.ext hX8) (hM.ext (X4.trans hX8)) hn).mono ?_); rintro e v9 ⟨rfl, hX9⟩))
  have hX89 := hX8.trans hX9
  have X9 := X4.trans hX89
  have hL9 := hL4.ext hX89
  have hw9 : w.heap.size ≤ g := by omega
  clear hL4 hX89 hX8 hX9 X4
  obtain ⟨i0, hi0, hz0, hz1', hz2⟩ := info_parts info64
  by_cases h0 : 0 < n
  · have e1' : (0 : Int) < (n : Int) := by omega
    obtain ⟨N, hN⟩ : ∃ N, n - 1 = N := ⟨_, rfl⟩
    have hw1 : IntKind.i64.wrap ((n : Int) - 1) = (N : Int) := by rw [IntKind.wrap_i64]; omega
    have j0 : (n : Int) - 1 = (N : Int) := by omega
    have j1 : (N : Int) < (n : Int) := by omega
    have hk : N < l.length := by rw [HL.out]; omega
    obtain ⟨c0, c1, c2, c3, c4, c5, c6, c7⟩ := hL9.cells hk
    have f6 := hL9.free (N * 8 + 6)
    go_upto_region 10 with (fail)
    have hL10 := hL9.put (k := N) (j := 6) hk (by omega) { l[N] with off := bits .xor .i64 l[N].off 1 } (.int .i64 (bits .xor .i64 l[N].off 1)) rfl
    have X10 := X9.set (p := ⟨g, N * 8 + 6, none⟩) hw9 (.int .i64 (bits .xor .i64 l[N].off 1))
    generalize v9.setCell ⟨g, N * 8 + 6, none⟩ (.int .i64 (bits .xor .i64 l[N].off 1)) = W at hL10 X10 ⊢
    generalize l.set N _ = l' at hL10
    clear hL9 c0 c1 c2 c3 c4 c5 c6 c7 f6 hN hw1 j0 j1
    obtain ⟨i2, e2, hc2⟩ : ∃ i e, Cd.check l' = (i, e) := ⟨_, _, rfl⟩
    have HC2 := hd hc2
    clear hc2
    go_wp2_with (first | (refine wl_appendK (.tmp 59) (.tmp 60) 22 W.heap.size 35 i0 _ 8 56 Tryd.underlying22 hi0 hz0 hz1' hz2 rfl (by omega) _ 0 [] rfl (own_emptyK W 35 8) (some ⟨g, 0, none⟩) n d (cv l') rfl ((hL10).rd.alloc _) (cv_oneI _) (by omega) (by omega) (by simp) ?_; intro v12 w12 own12 hg12; rw [Nat.zero_add, List.nil_append] at own12; obtain ⟨A12, c12, rfl, -⟩ := own_form own12; have hX12 : Ext W w12 := (Ext.new W _).grown_own (own_emptyK W 35 8) hg12 (Nat.le_refl _)) | (go_at_call 14; (with_reducible refine (RCheck_any A12 n c12 l' _ (Rd.of_own own12) hn).mono ?_); rw [HC2.out]; rintro e v13 ⟨rfl, hX13⟩) | (go_at_call 13; (with_reducible refine (Check_any (some ⟨g, 0, none⟩) n d l' _ ((hL10.ext hX12).ext hX13).rd hn).mono ?_); rw [HC2.out]; rintro e v14 ⟨rfl, hX14⟩))
    go_ret
    exact ⟨rfl, (((X10).trans hX12).trans hX13).trans hX14⟩
  · have e1' : ¬ (0 : Int) < (n : Int) := by omega
    obtain ⟨i2, e2, hc2⟩ : ∃ i e, Cd.check l = (i, e) := ⟨_, _, rfl⟩
    have HC2 := hd hc2
    clear hc2
    go_wp2_with (first | (refine wl_appendK (.tmp 59) (.tmp 60) 22 v9.heap.size 35 i0 _ 8 56 Tryd.underlying22 hi0 hz0 hz1' hz2 rfl (by omega) _ 0 [] rfl (own_emptyK v9 35 8) (some ⟨g, 0, none⟩) n d (cv l) rfl ((hL9).rd.alloc _) (cv_oneI _) (by omega) (by omega) (by simp) ?_; intro v12 w12 own12 hg12; rw [Nat.zero_add, List.nil_append] at own12; obtain ⟨A12, c12, rfl, -⟩ := own_form own12; have hX12 : Ext v9 w12 := (Ext.new v9 _).grown_own (own_emptyK v9 35 8) hg12 (Nat.le_refl _)) | (go_at_call 14; (with_reducible refine (RCheck_any A12 n c12 l _ (Rd.of_own own12) hn).mono ?_); rw [HC2.out]; rintro e v13 ⟨rfl, hX13⟩) | (go_at_call 13; (with_reducible refine (Check_any (some ⟨g, 0, none⟩) n d l _ ((hL9.ext hX12).ext hX13).rd hn).mono ?_); rw [HC2.out]; rintro e v14 ⟨rfl, hX14⟩))
    go_ret
    exact ⟨rfl, (((X9).trans hX12).trans hX13).trans hX14⟩

end Go.Proofs.YtfcbedkidjclhaaDoor
