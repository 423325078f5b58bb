/-
  The walk of CodeEncodes: it answers true.
  Conditions: the instructions can be read, no more than may be handed in; the package variable holds the mark.
-/
import Derived.Test.YtfcbedkidjclhaaDoorWalkDU
import Derived.Test.YtfcbedkidjclhaaDoorRefL
namespace Go.Proofs.YtfcbedkidjclhaaDoor
open Go.RowKit
set_option maxRecDepth 100000
set_option linter.unusedSimpArgs false
set_option linter.unusedVariables false

set_option maxHeartbeats 2000000 in
theorem CodeEncodes_any (A : Option Addr) (n c : Nat) (l : List Cd.Ins) (w : World) (hM : MarkAt w) (hR : Rd w 8 A n (cv l)) (hn : n * 56 ≤ 140737488355328) :
    Calls Tryd.prog 3 #[.slice A n c] w fun e w' => e = .returned (.bool true) ∧ Ext w w' := by
  have hl : l.length = n := by have := hR.1; rw [cv_length] at this; omega
  have HL := hd hl
  obtain ⟨bs, i1, e1, hc1⟩ : ∃ b i e, Cd.encode l = (b, i, e) := ⟨_, _, _, rfl⟩
  have HC := hd hc1
  clear hl hc1
  go_enter Tryd.func3, Tryd.ntmps3
  go_upto_region 6 with (first | (go_at_call 6; (with_reducible refine (known_any _).mono ?_); rintro e v1 ⟨rfl, hX1⟩; have hM1 := hM.ext hX1) | (go_at_call 7; (with_reducible refine (lend_any A n c l _ hM1 (hR.ext hX1) hn).mono ?_); rintro e v2 ⟨g, d, rfl, hL2, hX2⟩) | (go_at_call 8; (with_reducible refine (CEncode_any (some ⟨g, 0, none⟩) n d l _ hL2.rd hn).mono ?_); rw [HC.out]; rintro e v3 ⟨A3, c3, rfl, own3, hX3⟩; simp only at own3) | (go_at_call 9; (with_reducible refine (REncode_any A n c l _ (hR.ext ((hX1.trans hX2).trans hX3)) hn).mono ?_); rw [HC.out]; rintro e v4 ⟨A4, c4, rfl, own4, hX4⟩; simp only at own4))
  have hL4 := (hL2.ext hX3).ext hX4
  have X4 := ((hX1.trans hX2).trans hX3).trans hX4
  have r3 := Rd.of_own (hX4.own own3)
  have r4 := Rd.of_own own4
  have hg1 := hL4.ge
  have hz1 := hX1.size
  clear hL2 hX2 hX3 hX4 own3 own4
  go_upto_region 8 with (first | (go_at_call 10; (with_reducible refine (sameBytes_any A3 A4 bs.length bs.length c3 c4 bs bs _ r3 r4).mono ?_); rw [beq_self_eq_true]; rintro e v7 ⟨rfl, rfl⟩) | (go_at_call 11; (with_reducible refine (same_true (some ⟨g, 0, none⟩) A n d c l _ hL4.rd (hR.ext X4) hn).mono ?_); rintro e v8 ⟨rfl, hX8⟩) | (go_at_call 12; (with_reducible refine (held_any _ g n d l _ (hL4.ext hX8) (hM.ext (X4.trans hX8)) hn).mono ?_); rintro e v9 ⟨rfl, hX9⟩))
  have hX89 := hX8.trans hX9
  have X9 := X4.trans hX89
  have hL9 := hL4.ext hX89
  have hw9 : w.heap.size ≤ g := by omega
  clear hL4 hX89 hX8 hX9 X4 r3 r4
  obtain ⟨i0, hi0, hz0, hz1', hz2⟩ := info_parts info64
  by_cases h0 : 0 < n
  · have e1' : (0 : Int) < (n : Int) := by omega
    obtain ⟨N, hN⟩ : ∃ N, n / 2 = N := ⟨_, rfl⟩
    have hq1 : Int.tdiv (n : Int) 2 = (N : Int) := by rw [Int.tdiv_eq_ediv_of_nonneg (by omega)]; omega
    have j1 : (N : Int) < (n : Int) := by omega
    have j2 : (n : Int) / 2 = (N : Int) := by omega
    have hk : N < l.length := by rw [HL.out]; omega
    obtain ⟨c0, c1, c2, c3, c4, c5, c6, c7⟩ := hL9.cells hk
    have f7 := hL9.free (N * 8 + 7)
    go_upto_region 10 with (fail)
    have hL10 := hL9.put (k := N) (j := 7) hk (by omega) { l[N] with imm := bits .xor .i64 l[N].imm 1 } (.int .i64 (bits .xor .i64 l[N].imm 1)) rfl
    have X10 := X9.set (p := ⟨g, N * 8 + 7, none⟩) hw9 (.int .i64 (bits .xor .i64 l[N].imm 1))
    have hl1 : (l.set N { l[N] with imm := bits .xor .i64 l[N].imm 1 }).length = n := by rw [List.length_set]; exact HL.out
    generalize v9.setCell ⟨g, N * 8 + 7, none⟩ (.int .i64 (bits .xor .i64 l[N].imm 1)) = W1 at hL10 X10 ⊢
    generalize l.set N _ = l1 at hL10 hl1
    clear hL9 c0 c1 c2 c3 c4 c5 c6 c7 f7 hN hq1 j1 j2
    have hk1 : 0 < l1.length := by omega
    obtain ⟨c0, c1, c2, c3, c4, c5, c6, c7⟩ := hL10.cells hk1
    rw [Nat.zero_mul, Nat.zero_add] at c4
    have f4 := hL10.free 4
    go_upto_region 11 with (fail)
    have hL11 := hL10.put (k := 0) (j := 4) hk1 (by omega) { l1[0] with dst := bits .xor .i64 l1[0].dst 1 } (.int .i64 (bits .xor .i64 l1[0].dst 1)) rfl
    have X11 := X10.set (p := ⟨g, 4, none⟩) hw9 (.int .i64 (bits .xor .i64 l1[0].dst 1))
    rw [show 0 * 8 + 4 = 4 from rfl] at hL11
    generalize W1.setCell ⟨g, 4, none⟩ (.int .i64 (bits .xor .i64 l1[0].dst 1)) = W at hL11 X11 ⊢
    generalize l1.set 0 _ = l' at hL11
    clear hL10 c0 c1 c2 c3 c4 c5 c6 c7 f4
    obtain ⟨bs2, i2, e2, hc2⟩ : ∃ b i e, Cd.encode l' = (b, i, e) := ⟨_, _, _, rfl⟩
    have HC2 := hd hc2
    clear hc2
    go_wp2_with (first | (refine wl_appendK (.tmp 77) (.tmp 78) 22 W.heap.size 35 i0 _ 8 56 Tryd.underlying22 hi0 hz0 hz1' hz2 rfl (by omega) _ 0 [] rfl (own_emptyK W 35 8) (some ⟨g, 0, none⟩) n d (cv l') rfl ((hL11).rd.alloc _) (cv_oneI _) (by omega) (by omega) (by simp) ?_; intro v12 w12 own12 hg12; rw [Nat.zero_add, List.nil_append] at own12; obtain ⟨A12, c12, rfl, -⟩ := own_form own12; have hX12 : Ext W w12 := (Ext.new W _).grown_own (own_emptyK W 35 8) hg12 (Nat.le_refl _)) | (go_at_call 9; (with_reducible refine (REncode_any A12 n c12 l' _ (Rd.of_own own12) hn).mono ?_); rw [HC2.out]; rintro e v13 ⟨A13, c13, rfl, own13, hX13⟩; simp only at own13) | (go_at_call 8; (with_reducible refine (CEncode_any (some ⟨g, 0, none⟩) n d l' _ ((hL11.ext hX12).ext hX13).rd hn).mono ?_); rw [HC2.out]; rintro e v14 ⟨A14, c14, rfl, own14, hX14⟩; simp only at own14; have XX := (hX12.trans hX13).trans hX14) | (go_at_call 10; (with_reducible refine (sameBytes_any A14 A13 bs2.length bs2.length c14 c13 bs2 bs2 _ (Rd.of_own own14) (Rd.of_own (hX14.own own13))).mono ?_); rw [beq_self_eq_true]; rintro e v15 ⟨rfl, rfl⟩) | (go_at_call 12; (with_reducible refine (held_any _ g n d l' _ (hL11.ext XX) (hM.ext ((X11).trans XX)) hn).mono ?_); rintro e v16 ⟨rfl, hX16⟩))
    go_ret
    exact ⟨rfl, ((X11).trans XX).trans hX16⟩
  · have e1' : ¬ (0 : Int) < (n : Int) := by omega
    obtain ⟨bs2, i2, e2, hc2⟩ : ∃ b i e, Cd.encode l = (b, i, e) := ⟨_, _, _, rfl⟩
    have HC2 := hd hc2
    clear hc2
    go_wp2_with (first | (refine wl_appendK (.tmp 77) (.tmp 78) 22 v9.heap.size 35 i0 _ 8 56 Tryd.underlying22 hi0 hz0 hz1' hz2 rfl (by omega) _ 0 [] rfl (own_emptyK v9 35 8) (some ⟨g, 0, none⟩) n d (cv l) rfl ((hL9).rd.alloc _) (cv_oneI _) (by omega) (by omega) (by simp) ?_; intro v12 w12 own12 hg12; rw [Nat.zero_add, List.nil_append] at own12; obtain ⟨A12, c12, rfl, -⟩ := own_form own12; have hX12 : Ext v9 w12 := (Ext.new v9 _).grown_own (own_emptyK v9 35 8) hg12 (Nat.le_refl _)) | (go_at_call 9; (with_reducible refine (REncode_any A12 n c12 l _ (Rd.of_own own12) hn).mono ?_); rw [HC2.out]; rintro e v13 ⟨A13, c13, rfl, own13, hX13⟩; simp only at own13) | (go_at_call 8; (with_reducible refine (CEncode_any (some ⟨g, 0, none⟩) n d l _ ((hL9.ext hX12).ext hX13).rd hn).mono ?_); rw [HC2.out]; rintro e v14 ⟨A14, c14, rfl, own14, hX14⟩; simp only at own14; have XX := (hX12.trans hX13).trans hX14) | (go_at_call 10; (with_reducible refine (sameBytes_any A14 A13 bs2.length bs2.length c14 c13 bs2 bs2 _ (Rd.of_own own14) (Rd.of_own (hX14.own own13))).mono ?_); rw [beq_self_eq_true]; rintro e v15 ⟨rfl, rfl⟩) | (go_at_call 12; (with_reducible refine (held_any _ g n d l _ (hL9.ext XX) (hM.ext ((X9).trans XX)) hn).mono ?_); rintro e v16 ⟨rfl, hX16⟩))
    go_ret
    exact ⟨rfl, ((X9).trans XX).trans hX16⟩

end Go.Proofs.YtfcbedkidjclhaaDoor
