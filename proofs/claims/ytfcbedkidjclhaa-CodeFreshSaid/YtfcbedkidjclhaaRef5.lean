/-
  The contract of the document's Right.
  Condition: the list is the table.
-/
import Derived.Test.YtfcbedkidjclhaaRef4
namespace Go.Proofs.Ytfcbedkidjclhaa
open Go.RowKit
set_option maxRecDepth 100000
set_option linter.unusedSimpArgs false
set_option linter.unusedVariables false

theorem right_none {x : Cd.Ins} (h : Rf.find x = none) : Rf.right x = 21 := by unfold Rf.right; rw [h]
theorem right_some {x : Cd.Ins} {y : Rf.Row} (h : Rf.find x = some y) : Rf.right x =
    (if Rf.regs y x.dst x.src x.imm = false then 22
    else if (y.dst ≠ -1 ∧ x.dst ≠ 0) ∨ (y.src ≠ -1 ∧ x.src ≠ 0) ∨ (y.off ≠ -1 ∧ x.off ≠ 0) ∨ x.off < -32768 ∨ 32767 < x.off then 23
    else if y.imm ≠ -1 ∧ y.second ≠ -1 ∧ x.imm ≠ 0 then 24
    else if (y.imm = -1 ∨ y.second = -1) ∧ Rf.good y x.imm = false then 24
    else 0) := by unfold Rf.right; rw [h]
theorem good_cells (c op sz : Int) (n r : Bool) (d s f i e : Int) (wr : Bool) (m : Int) (w : World) : Calls Try.prog 90 #[.agg #[.int .i64 c, .int .i64 op, .int .i64 sz, .bool n, .bool r, .int .i64 d, .int .i64 s, .int .i64 f, .int .i64 i, .int .i64 e, .bool wr], .int .i64 m] w fun e' w' => e' = .returned (.bool (Rf.good ⟨c, op, sz, n, r, d, s, f, i, e, wr⟩ m)) ∧ Ext w w' := good_any ⟨c, op, sz, n, r, d, s, f, i, e, wr⟩ m w
theorem ret_int {a b : Int} (h : a = b) : Ending.returned (.int .i64 a) = Ending.returned (.int .i64 b) := by rw [h]

set_option maxHeartbeats 8000000 in
theorem refRight_any (x : Cd.Ins) (A : Option Addr) (N c : Nat) (w : World) (hr : Rd w 11 A N (rv Rf.rows)) (hN : N ≤ 1000) :
    Calls Try.prog 47 #[.slice A N c, .agg (insC x)] w fun e w' => e = .returned (.int .i64 (Rf.right x)) ∧ Ext w w' := by
  obtain ⟨op, nr, rg, sz, ds, sr, of, im, hx⟩ : ∃ op nr rg sz ds sr of im, x = ⟨op, nr, rg, sz, ds, sr, of, im⟩ := ⟨_, _, _, _, _, _, _, _, rfl⟩
  obtain ⟨X, hX⟩ : ∃ X, Rf.right x = X := ⟨_, rfl⟩
  rw [hX]
  have HX := hd hX
  have Hx := hd hx
  have HC : Hid (insC x = #[.int .i64 op, .bool nr, .bool rg, .int .i64 sz, .int .i64 ds, .int .i64 sr, .int .i64 of, .int .i64 im]) := hd (by rw [hx]; rfl)
  clear hX hx
  rw [HC.out]
  go_enter Try.func47, Try.ntmps47
  go_upto_region 1 with (fail)
  refine wp_world (fun W => Ext w W ∧ Blk W w.heap.size 64 #[.int .i64 op, .bool nr, .bool rg, .int .i64 sz, .int .i64 ds, .int .i64 sr, .int .i64 of, .int .i64 im]) ⟨Ext.new _ _, Blk.new _ _ _⟩ ?_
  rintro W1 ⟨hE, hB⟩
  obtain ⟨F, hF⟩ : ∃ F, Rf.find x = F := ⟨_, rfl⟩
  have HF := hd hF
  clear hF
  cases F with
  | none =>
    go_upto_region 2 with (first | ((with_reducible refine wl_load64 _ w.heap.size ?_ hB ?_ ?_); exact rfl; exact rfl) | (go_at_call 88; rw [← HC.out]; (with_reducible refine (refFind_any x A N c Rf.rows _ (hr.ext hE) hN).mono ?_); rw [show Rf.rows.find? (fun y => Rf.fitsRow y x) = none from HF.out]; rintro e W2 ⟨rfl, hE2⟩) | ((with_reducible refine wl_store134 _ _ _ ?_ ?_ (Blk.new _ _ _) ?_ ?_); exact rfl; exact ⟨_, _, _, _, _, _, _, _, _, _, _, rfl⟩; exact rfl; intro cells hcells; clear hcells))
    go_wp2
    go_ret
    exact ⟨ret_int (by rw [← HX.out]; exact (right_none HF.out).symm), (((hE.trans hE2).alloc _).row (by have := hE.size; have := hE2.size; omega) _)⟩
  | some y =>
    have HR := hd (HX.out.symm.trans (right_some HF.out))
    obtain ⟨yc, yo, yz, yn, yr, yd, ys, yf, ym, ye, yw⟩ := y
    go_upto_region 2 with (first | ((with_reducible refine wl_load64 _ w.heap.size ?_ hB ?_ ?_); exact rfl; exact rfl) | (go_at_call 88; rw [← HC.out]; (with_reducible refine (refFind_any x A N c Rf.rows _ (hr.ext hE) hN).mono ?_); rw [show Rf.rows.find? (fun y => Rf.fitsRow y x) = _ from HF.out]; simp only [FdPost, Option.getD_some, Option.isSome_some, rowC]; rintro e W2 ⟨rfl, hE2⟩) | ((with_reducible refine wl_store134 _ _ _ ?_ ?_ (Blk.new _ _ _) ?_ ?_); exact rfl; exact ⟨_, _, _, _, _, _, _, _, _, _, _, rfl⟩; exact rfl; intro cells hcells; obtain rfl := Value.agg.inj hcells; clear hcells))
    refine wp_world (fun W => Ext W2 W ∧ Blk W W2.heap.size 134 #[.int .i64 yc, .int .i64 yo, .int .i64 yz, .bool yn, .bool yr, .int .i64 yd, .int .i64 ys, .int .i64 yf, .int .i64 ym, .int .i64 ye, .bool yw]) ⟨(Ext.new _ _).row (Nat.le_refl _) _, (Blk.new _ _ _).row _⟩ ?_
    generalize W2.heap.size = g
    rintro W3 ⟨hE3, hD⟩
    have hB3 := (hB.ext hE2).ext hE3
    have hE4 := (hE.trans hE2).trans hE3
    clear hB hE hE2 hE3
    obtain ⟨b0, b1, b2, b3, b4, b5, b6, b7⟩ := hB3.c8
    obtain ⟨p0, p1, p2, p3, p4, p5, p6, p7, p8, p9, p10⟩ := hD.c11
    obtain ⟨r, hr1⟩ : ∃ b, Rf.regs ⟨yc, yo, yz, yn, yr, yd, ys, yf, ym, ye, yw⟩ ds sr im = b := ⟨_, rfl⟩
    have Hr := hd hr1
    have k89 : ∀ W, Calls Try.prog 89 #[.agg #[.int .i64 yc, .int .i64 yo, .int .i64 yz, .bool yn, .bool yr, .int .i64 yd, .int .i64 ys, .int .i64 yf, .int .i64 ym, .int .i64 ye, .bool yw], .int .i64 ds, .int .i64 sr, .int .i64 im] W fun e w' => e = .returned (.bool r) ∧ Ext W w' := fun W => by
      have := regs_any ⟨yc, yo, yz, yn, yr, yd, ys, yf, ym, ye, yw⟩ ds sr im W
      rw [hr1] at this
      exact this
    clear hr1
    have K89 := hd k89
    clear k89
    rw [Hx.out] at HR
    dsimp only at HR
    rw [Hr.out] at HR
    cases r with
    | false =>
      go_wp2_with (first | ((with_reducible refine wl_load134 _ g ?_ hD ?_ ?_); exact rfl; exact rfl) | (go_at_call 89; (with_reducible refine (K89.out _).mono ?_); rintro e W4 ⟨rfl, hE5⟩))
      go_ret
      exact ⟨ret_int (by rw [HR.out]; rfl), hE4.trans hE5⟩
    | true =>
      rw [if_neg (by decide)] at HR
      go_upto_region 6 with (first | ((with_reducible refine wl_load134 _ g ?_ hD ?_ ?_); exact rfl; exact rfl) | (go_at_call 89; (with_reducible refine (K89.out _).mono ?_); rintro e W4 ⟨rfl, hE5⟩))
      have hB4 := hB3.ext hE5
      have hD4 := hD.ext hE5
      have hE6 := hE4.trans hE5
      clear hB3 hD hE4 hE5 b0 b1 b2 b3 b4 b5 b6 b7 p0 p1 p2 p3 p4 p5 p6 p7 p8 p9 p10
      obtain ⟨b0, b1, b2, b3, b4, b5, b6, b7⟩ := hB4.c8
      obtain ⟨p0, p1, p2, p3, p4, p5, p6, p7, p8, p9, p10⟩ := hD4.c11
      go_wp2_with (first | ((with_reducible refine wl_load134 _ g ?_ hD4 ?_ ?_); exact rfl; exact rfl) | (go_at_call 90; (with_reducible refine (good_cells _ _ _ _ _ _ _ _ _ _ _ _ _).mono ?_); rintro e W5 ⟨rfl, hE7⟩))
      all_goals go_ret
      all_goals first
        | exact ⟨ret_int (by rw [HR.out]; clear HR HX HF HC Hx Hr K89 hB4 hD4 hE6 b0 b1 b2 b3 b4 b5 b6 b7 p0 p1 p2 p3 p4 p5 p6 p7 p8 p9 p10; grind), hE6⟩
        | exact ⟨ret_int (by rw [HR.out]; clear HR HX HF HC Hx Hr K89 hB4 hD4 hE6 b0 b1 b2 b3 b4 b5 b6 b7 p0 p1 p2 p3 p4 p5 p6 p7 p8 p9 p10; grind), hE6.trans hE7⟩

end Go.Proofs.Ytfcbedkidjclhaa
