/-
  The contracts of the document's find and Right.
  Condition: the list can be read; for Right it is the table.
-/
import Derived.Test.YtfcbedkidjclhaaRef2
namespace Go.Proofs.Ytfcbedkidjclhaa
open Go.RowKit
set_option maxRecDepth 100000
set_option linter.unusedSimpArgs false
set_option linter.unusedVariables false

def row0 : Rf.Row := ⟨0, 0, 0, false, false, 0, 0, 0, 0, 0, false⟩
def FdPost (o : Option Rf.Row) (w : World) (e : Ending) (w' : World) : Prop := e = .returned (.tuple #[.agg (rowC (o.getD row0)), .bool o.isSome]) ∧ Ext w w'
theorem find_round {l : List Rf.Row} {x : Cd.Ins} {k : Nat} (h : k < l.length) (hno : (l.take k).find? (fun y => Rf.fitsRow y x) = none) (hf : Rf.fitsRow l[k] x = false) : (l.take (k + 1)).find? (fun y => Rf.fitsRow y x) = none := by
  rw [List.take_succ_eq_append_getElem h, List.find?_append, hno]
  simp [hf]
theorem find_hit {l : List Rf.Row} {x : Cd.Ins} {k : Nat} (h : k < l.length) (hno : (l.take k).find? (fun y => Rf.fitsRow y x) = none) (hf : Rf.fitsRow l[k] x = true) : l.find? (fun y => Rf.fitsRow y x) = some l[k] := by
  have e : l = l.take k ++ (l[k] :: l.drop (k + 1)) := by rw [← List.drop_eq_getElem_cons h, List.take_append_drop]
  generalize hy : l[k] = y at *
  rw [e, List.find?_append, hno]
  simp [hf]

set_option maxHeartbeats 4000000 in
theorem refFind_any (x : Cd.Ins) (A : Option Addr) (N c : Nat) (l : List Rf.Row) (w : World) (hr : Rd w 11 A N (rv l)) (hN : N ≤ 1000) :
    Calls Try.prog 88 #[.slice A N c, .agg (insC x)] w (FdPost (l.find? fun y => Rf.fitsRow y x) w) := by
  have hl : l.length = N := by have := hr.1; rw [rv_length] at this; omega
  obtain ⟨op, nr, rg, sz, ds, sr, of, im, hx⟩ : ∃ op nr rg sz ds sr of im, x = ⟨op, nr, rg, sz, ds, sr, of, im⟩ := ⟨_, _, _, _, _, _, _, _, rfl⟩
  obtain ⟨X, hX⟩ : ∃ X, l.find? (fun y => Rf.fitsRow y x) = X := ⟨_, rfl⟩
  rw [hX]
  have HX := hd hX
  have Hx := hd hx
  clear hX
  rw [show insC x = #[.int .i64 op, .bool nr, .bool rg, .int .i64 sz, .int .i64 ds, .int .i64 sr, .int .i64 of, .int .i64 im] by rw [hx]; rfl]
  clear hx
  go_enter Try.func88, Try.ntmps88
  go_upto_region 1 with (fail)
  refine wp_world (fun W => Ext w W ∧ Blk W w.heap.size 64 #[.int .i64 op, .bool nr, .bool rg, .int .i64 sz, .int .i64 ds, .int .i64 sr, .int .i64 of, .int .i64 im] ∧ Blk W (w.heap.size + 1) 134 #[.int .i64 0, .int .i64 0, .int .i64 0, .bool false, .bool false, .int .i64 0, .int .i64 0, .int .i64 0, .int .i64 0, .int .i64 0, .bool false]) ⟨(Ext.new _ _).alloc _, (Blk.new _ _ _).alloc _, by simpa using Blk.new (w.alloc _) 134 _⟩ ?_
  rintro W1 ⟨hE, hB, hC⟩
  have hg1 := hC.lt
  go_wp2
  go_loopw [6] (fun i wr => ∃ (k : Nat), k ≤ N ∧ i = .int .i64 k ∧ Ext W1 wr ∧ Hid ((l.take k).find? (fun y => Rf.fitsRow y x) = none)) (fun i _ => N - (intOf i).toNat)
  case atStart => exact ⟨0, by omega, rfl, Ext.refl _, hd (by simp)⟩
  case round =>
    obtain ⟨k, hk, rfl, hE1, HN⟩ := hrel
    have hB1 := hB.ext hE1
    have hC1 := hC.ext hE1
    have hsz := hE1.size
    by_cases hlt : k < N
    · obtain ⟨b, o, rfl, hc⟩ := ((hr.ext hE).ext hE1).form (by omega) (by omega)
      have hkl : k < l.length := by omega
      obtain ⟨q0, q1, q2, q3, q4, q5, q6, q7, q8, q9, q10⟩ := row_cells hc hkl
      clear hc
      obtain ⟨y, hy⟩ : ∃ y, l[k] = y := ⟨_, rfl⟩
      have hno := fun hf => find_round hkl HN.out hf
      have hhit := fun hf => (find_hit hkl HN.out hf).symm.trans HX.out
      rw [hy] at q0 q1 q2 q3 q4 q5 q6 q7 q8 q9 q10 hno hhit
      have HH := hd hno
      have HG := hd hhit
      clear hno hhit hy
      obtain ⟨yc, yo, yz, yn, yr, yd, ys, yf, ym, ye, yw⟩ := y
      simp only at q0 q1 q2 q3 q4 q5 q6 q7 q8 q9 q10
      obtain ⟨b0, b1, b2, b3⟩ := hB1.c8
      go_upto_region 5 with ((with_reducible refine wl_store134 _ _ _ ?_ ?_ (Blk.new _ _ _) ?_ ?_); exact rfl; exact ⟨_, _, _, _, _, _, _, _, _, _, _, rfl⟩; exact rfl; intro cells hcells; obtain rfl := Value.agg.inj hcells; clear hcells)
      refine wp_world (fun W => Ext wr W ∧ Blk W wr.heap.size 134 #[.int .i64 yc, .int .i64 yo, .int .i64 yz, .bool yn, .bool yr, .int .i64 yd, .int .i64 ys, .int .i64 yf, .int .i64 ym, .int .i64 ye, .bool yw]) ⟨(Ext.new _ _).row (Nat.le_refl _) _, (Blk.new _ _ _).row _⟩ ?_
      clear q0 q1 q2 q3 q4 q5 q6 q7 q8 q9 q10 b0 b1 b2 b3
      rintro W2 ⟨hE2, hD⟩
      have hB2 := hB1.ext hE2
      have hC2 := hC1.ext hE2
      obtain ⟨b0, b1, b2, b3, -⟩ := hB2.c8
      obtain ⟨p0, p1, p2, p3, p4, -⟩ := hD.c11
      have HF : Hid (Rf.fitsRow ⟨yc, yo, yz, yn, yr, yd, ys, yf, ym, ye, yw⟩ x = ((yo == op) && (yn == nr) && (yr == rg) && (yz == sz))) := hd (by rw [Hx.out]; simp only [Rf.fitsRow]; rfl)
      obtain ⟨t1, ht1⟩ : ∃ b, (yo == op) = b := ⟨_, rfl⟩
      obtain ⟨t2, ht2⟩ : ∃ b, (yn == nr) = b := ⟨_, rfl⟩
      obtain ⟨t3, ht3⟩ : ∃ b, (yr == rg) = b := ⟨_, rfl⟩
      obtain ⟨t4, ht4⟩ : ∃ b, (yz == sz) = b := ⟨_, rfl⟩
      cases t1 <;> cases t2 <;> cases t3 <;> cases t4
      all_goals (rw [ht1, ht2, ht3, ht4] at HF)
      all_goals go_wp2_with (first | ((with_reducible refine wl_store134 _ _ _ ?_ ?_ hC2 ?_ ?_); exact rfl; exact ⟨_, _, _, _, _, _, _, _, _, _, _, rfl⟩; exact rfl; intro cells hcells; obtain rfl := Value.agg.inj hcells; clear hcells) | ((with_reducible refine wl_load134 _ wr.heap.size ?_ hD ?_ ?_); exact rfl; exact rfl))
      all_goals first
        | (refine bodyPost_ret (results_cell_slot rfl _ _ _ 134 _ _ rfl (hC2.row _) Try.underlying134 rfl (by kernel_rfl)) rfl ⟨?_, ((hE.trans hE1).trans hE2).row (by omega) _⟩
           rw [← HG.out HF.out]
           rfl)
        | (go_roundw
           case rel => exact ⟨k + 1, by omega, by go_num, hE1.trans hE2, hd (HH.out HF.out)⟩
           case measure => simp only [intOf]; omega)
    · obtain rfl : k = N := by omega
      go_wp2_with ((with_reducible refine wl_store134 _ _ _ ?_ ?_ hC1 ?_ ?_); exact rfl; exact ⟨_, _, _, _, _, _, _, _, _, _, _, rfl⟩; exact rfl; intro cells hcells; obtain rfl := Value.agg.inj hcells; clear hcells)
      refine bodyPost_ret (results_cell_slot rfl _ _ _ 134 _ _ rfl (hC1.row _) Try.underlying134 rfl (by kernel_rfl)) rfl ⟨?_, (hE.trans hE1).row (by omega) _⟩
      rw [List.take_of_length_le (by omega)] at HN
      rw [← HX.out, HN.out]
      rfl

end Go.Proofs.Ytfcbedkidjclhaa
