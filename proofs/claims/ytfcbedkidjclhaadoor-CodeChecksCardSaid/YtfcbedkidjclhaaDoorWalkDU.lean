/-
  The walk of CodeUnits: it answers true.
  Conditions: the instructions can be read, no more than may be handed in; the package variable holds the mark.
-/
import Derived.Test.YtfcbedkidjclhaaDoorPutI
namespace Go.Proofs.YtfcbedkidjclhaaDoor
open Go.RowKit
set_option maxRecDepth 100000
set_option linter.unusedSimpArgs false
set_option linter.unusedVariables false

theorem nums_any (A B : Option Addr) (n c d : Nat) (xs : List Nat) (w : World) (h : Rd w 1 A n (nv xs)) (h' : Rd w 1 B n (nv xs)) (hn : n * 8 ≤ 140737488355328) :
    Calls Tryd.prog 17 #[.slice A n c, .slice B n d] w fun e w' => e = .returned (.bool true) ∧ Ext w w' := by
  refine (sameInts_any A B n n c d (xs.map fun (n : Nat) => (n : Int)) (xs.map fun (n : Nat) => (n : Int)) w h h' hn hn).mono ?_
  rintro e w' ⟨r, hr, rfl, hX⟩
  exact ⟨by rw [hr.mpr rfl], hX⟩
theorem same_true (A B : Option Addr) (n c d : Nat) (xs : List Cd.Ins) (w : World) (h : Rd w 8 A n (cv xs)) (h' : Rd w 8 B n (cv xs)) (hn : n * 56 ≤ 140737488355328) :
    Calls Tryd.prog 11 #[.slice A n c, .slice B n d] w fun e w' => e = .returned (.bool true) ∧ Ext w w' := by
  refine (same_any A B n n c d xs xs w h h' hn hn).mono ?_
  rintro e w' ⟨r, hr, rfl, hX⟩
  exact ⟨by rw [hr.mpr rfl], hX⟩

set_option maxHeartbeats 2000000 in
theorem CodeUnits_any (A : Option Addr) (n c : Nat) (l : List Cd.Ins) (w : World) (hM : MarkAt w) (hR : Rd w 8 A n (cv l)) (hn : n * 56 ≤ 140737488355328) :
    Calls Tryd.prog 5 #[.slice A n c] w fun e w' => e = .returned (.bool true) ∧ Ext w w' := by
  have hl : l.length = n := by have := hR.1; rw [cv_length] at this; omega
  have HL := hd hl
  clear hl
  go_enter Tryd.func5, Tryd.ntmps5
  go_upto_region 7 with (first | (go_at_call 6; (with_reducible refine (known_any _).mono ?_); rintro e v1 ⟨rfl, hX1⟩; have hM1 := hM.ext hX1) | (go_at_call 7; (with_reducible refine (lend_any A n c l _ hM1 (hR.ext hX1) hn).mono ?_); rintro e v2 ⟨g, d, rfl, hL2, hX2⟩) | (go_at_call 15; (with_reducible refine (Units_any (some ⟨g, 0, none⟩) n d l _ hL2.rd hn).mono ?_); rintro e v3 ⟨B3, d3, rfl, own3, hX3⟩; have hL3 := hL2.ext hX3; have hgl := hL2.lt; clear hL2) | (go_at_call 15; (with_reducible refine (Units_any (some ⟨g, 0, none⟩) n d l _ hL3.rd hn).mono ?_); rintro e v4 ⟨B4, d4, rfl, own4, hX4⟩; have hL4 := hL3.ext hX4; clear hL3) | (go_at_call 16; (with_reducible refine (RUnits_any A n c l _ (hR.ext (((hX1.trans hX2).trans hX3).trans hX4)) hn).mono ?_); rintro e v5 ⟨B5, d5, rfl, own5, hX5⟩))
  have hL5 := hL4.ext hX5
  have X2 := hX1.trans hX2
  have X25 := (hX3.trans hX4).trans hX5
  have X5 := X2.trans X25
  have r3 := Rd.of_own ((hX4.trans hX5).own own3)
  have o4 := hX5.own own4
  have r4 := Rd.of_own o4
  have r5 := Rd.of_own own5
  have hg1 := hL5.ge
  have hz1 := hX1.size
  have hz3 := hX3.size
  have hz4 := hX4.size
  clear hL4 own3 hX2 hX3 hX4 hX5 X2 X25
  go_upto_region 9 with (first | (go_at_call 17; (with_reducible refine (nums_any B3 B5 (n + 1) d3 d5 _ _ r3 r5 (by omega)).mono ?_); rintro e v6 ⟨rfl, hX6⟩) | (go_at_call 17; (with_reducible refine (nums_any B4 B5 (n + 1) d4 d5 _ _ (r4.ext hX6) (r5.ext hX6) (by omega)).mono ?_); rintro e v7 ⟨rfl, hX7⟩; have hX67 := hX6.trans hX7) | (go_at_call 11; (with_reducible refine (same_true (some ⟨g, 0, none⟩) A n d c l _ (hL5.ext hX67).rd (hR.ext (X5.trans hX67)) hn).mono ?_); rintro e v8 ⟨rfl, hX8⟩; have hX68 := hX67.trans hX8) | (go_at_call 12; (with_reducible refine (held_any _ g n d l _ (hL5.ext hX68) (hM.ext (X5.trans hX68)) hn).mono ?_); rintro e v9 ⟨rfl, hX9⟩))
  have hX69 := hX68.trans hX9
  have X9 := X5.trans hX69
  have hL9 := hL5.ext hX69
  have p4 := hX69.own o4
  have p5 := hX69.own own5
  have hw9 : w.heap.size ≤ g := by omega
  clear hL5 hX67 hX68 hX69 hX6 hX7 hX8 hX9 r3 r4 r5
  obtain ⟨i0, hi0, hz0, hz1, hz2⟩ := info_parts info64
  by_cases h0 : 0 < n
  · have e1 : (0 : Int) < (n : Int) := by omega
    have hk : 0 < l.length := by rw [HL.out]; exact h0
    obtain ⟨c0, -⟩ := hL9.cells hk
    rw [Nat.zero_mul] at c0
    have f0 := hL9.free 0
    go_upto_region 11 with (fail)
    have hL10 := hL9.put (k := 0) (j := 0) hk (by omega) { l[0] with op := bits .xor .i64 l[0].op 1 } (.int .i64 (bits .xor .i64 l[0].op 1)) rfl
    have X10 := X9.set (p := ⟨g, 0, none⟩) hw9 (.int .i64 (bits .xor .i64 l[0].op 1))
    have q4 := Rd.of_own (own_set p4 (p := ⟨g, 0, none⟩) (fun e => by have := (own4.lt g e).1; omega) (.int .i64 (bits .xor .i64 l[0].op 1)))
    have q5 := Rd.of_own (own_set p5 (p := ⟨g, 0, none⟩) (fun e => by have := (own5.lt g e).1; omega) (.int .i64 (bits .xor .i64 l[0].op 1)))
    rw [show 0 * 8 + 0 = 0 from rfl] at hL10
    generalize v9.setCell ⟨g, 0, none⟩ (.int .i64 (bits .xor .i64 l[0].op 1)) = W at hL10 X10 q4 q5 ⊢
    generalize l.set 0 _ = l' at hL10
    clear hL9 c0 f0 p4 p5
    go_wp2_with (first | (go_at_call 15; (with_reducible refine (Units_any (some ⟨g, 0, none⟩) n d l' _ hL10.rd hn).mono ?_); rintro e v11 ⟨B11, d11, rfl, own11, hX11⟩) | (refine wl_appendK (.tmp 51) (.tmp 52) 22 v11.heap.size 35 i0 _ 8 56 Tryd.underlying22 hi0 hz0 hz1 hz2 rfl (by omega) _ 0 [] rfl (own_emptyK v11 35 8) (some ⟨g, 0, none⟩) n d (cv l') rfl ((hL10.ext hX11).rd.alloc _) (cv_oneI _) (by omega) (by omega) (by simp) ?_; intro v12 w12 own12 hg12; rw [Nat.zero_add, List.nil_append] at own12; obtain ⟨A12, c12, rfl, -⟩ := own_form own12; have hX12 : Ext v11 w12 := (Ext.new v11 _).grown_own (own_emptyK v11 35 8) hg12 (Nat.le_refl _)) | (go_at_call 16; (with_reducible refine (RUnits_any A12 n c12 l' _ (Rd.of_own own12) hn).mono ?_); rintro e v13 ⟨B13, d13, rfl, own13, hX13⟩) | (go_at_call 17; (with_reducible refine (nums_any B11 B13 (n + 1) d11 d13 _ _ (Rd.of_own ((hX12.trans hX13).own own11)) (Rd.of_own own13) (by omega)).mono ?_); rintro e v14 ⟨rfl, hX14⟩; have XX := ((hX11.trans hX12).trans hX13).trans hX14) | (go_at_call 17; (with_reducible refine (nums_any B4 B5 (n + 1) d4 d5 _ _ (q4.ext XX) (q5.ext XX) (by omega)).mono ?_); rintro e v15 ⟨rfl, hX15⟩))
    go_ret
    exact ⟨rfl, (X10.trans XX).trans hX15⟩
  · have e1 : ¬ (0 : Int) < (n : Int) := by omega
    have q4 := Rd.of_own p4
    have q5 := Rd.of_own p5
    go_wp2_with (first | (go_at_call 15; (with_reducible refine (Units_any (some ⟨g, 0, none⟩) n d l _ hL9.rd hn).mono ?_); rintro e v11 ⟨B11, d11, rfl, own11, hX11⟩) | (refine wl_appendK (.tmp 51) (.tmp 52) 22 v11.heap.size 35 i0 _ 8 56 Tryd.underlying22 hi0 hz0 hz1 hz2 rfl (by omega) _ 0 [] rfl (own_emptyK v11 35 8) (some ⟨g, 0, none⟩) n d (cv l) rfl ((hL9.ext hX11).rd.alloc _) (cv_oneI _) (by omega) (by omega) (by simp) ?_; intro v12 w12 own12 hg12; rw [Nat.zero_add, List.nil_append] at own12; obtain ⟨A12, c12, rfl, -⟩ := own_form own12; have hX12 : Ext v11 w12 := (Ext.new v11 _).grown_own (own_emptyK v11 35 8) hg12 (Nat.le_refl _)) | (go_at_call 16; (with_reducible refine (RUnits_any A12 n c12 l _ (Rd.of_own own12) hn).mono ?_); rintro e v13 ⟨B13, d13, rfl, own13, hX13⟩) | (go_at_call 17; (with_reducible refine (nums_any B11 B13 (n + 1) d11 d13 _ _ (Rd.of_own ((hX12.trans hX13).own own11)) (Rd.of_own own13) (by omega)).mono ?_); rintro e v14 ⟨rfl, hX14⟩; have XX := ((hX11.trans hX12).trans hX13).trans hX14) | (go_at_call 17; (with_reducible refine (nums_any B4 B5 (n + 1) d4 d5 _ _ (q4.ext XX) (q5.ext XX) (by omega)).mono ?_); rintro e v15 ⟨rfl, hX15⟩))
    go_ret
    exact ⟨rfl, (X9.trans XX).trans hX15⟩

end Go.Proofs.YtfcbedkidjclhaaDoor
