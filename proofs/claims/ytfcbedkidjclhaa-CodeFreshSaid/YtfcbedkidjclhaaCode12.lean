/-
  The contracts of package code's giveUp, chosen, wide.
  Conditions: the reader's box lies there; the bytes can be read.
-/
import Derived.Test.YtfcbedkidjclhaaCode11
import Derived.Test.YtfcbedkidjclhaaDec1
namespace Go.Proofs.Ytfcbedkidjclhaa
open Go.RowKit
set_option maxRecDepth 100000
set_option linter.unusedSimpArgs false
set_option linter.unusedVariables false

/-- the panic of a reader that gives up -/
def stopE (p : Nat) (e : Int) : Ending := .panicked [{ v := .iface 128 (.agg #[.int .i64 p, .int .i64 e]), recovered := false }]
theorem giveUp_any (g : Nat) (s : Value) (p : Nat) (e : Int) (w : World) (hB : Blk w g 126 #[s, .int .i64 p]) :
    Calls Try.prog 84 #[.pointer (some ⟨g, 0, none⟩), .int .i64 e] w fun e' w' => e' = .panicked [{ v := .iface 128 (.agg #[.int .i64 p, .int .i64 e]), recovered := false }] ∧ w' = w := by
  obtain ⟨r0, r1⟩ := hB.c2
  go_enter Try.func84, Try.ntmps84
  go_wp2
  exact ⟨rfl, rfl, rfl⟩

def ChPost (gi : Nat) (i : Cd.Ins) (off : Int) (w : World) (e : Ending) (w' : World) : Prop := e = .returned (.bool (Cd.chosen i off).isSome) ∧ Blk w' gi 64 (insC ((Cd.chosen i off).getD i)) ∧ Gr gi w w'
section
variable {gi : Nat} {i : Cd.Ins} {off : Int} {w : World}
theorem ch_none (hB : Blk w gi 64 (insC i)) (h : Cd.chosen i off = none) : ChPost gi i off w (.returned (.bool false)) w := by
  unfold ChPost; rw [h]; exact ⟨rfl, hB, Gr.refl w⟩
theorem ch_same (hB : Blk w gi 64 (insC i)) (h : Cd.chosen i off = some i) : ChPost gi i off w (.returned (.bool true)) w := by
  unfold ChPost; rw [h]; exact ⟨rfl, hB, Gr.refl w⟩
theorem ch_op (hB : Blk w gi 64 (insC i)) (k : Int) (h : Cd.chosen i off = some { i with op := k }) : ChPost gi i off w (.returned (.bool true)) (w.setCell ⟨gi, 0, none⟩ (.int .i64 k)) := by
  unfold ChPost; rw [h]; exact ⟨rfl, hB.set_ 0 _, (Gr.refl w).at_ 0 _⟩
theorem ch_movs (hB : Blk w gi 64 (insC i)) (k : Int) (h : Cd.chosen i off = some { i with op := 16, size := k }) : ChPost gi i off w (.returned (.bool true)) ((w.setCell ⟨gi, 0, none⟩ (.int .i64 16)).setCell ⟨gi, 3, none⟩ (.int .i64 k)) := by
  unfold ChPost; rw [h]; exact ⟨rfl, (hB.set_ 0 _).set_ 3 _, ((Gr.refl w).at_ 0 _).at_ 3 _⟩
end

set_option maxHeartbeats 1000000 in
theorem chosen_any (r : Value) (gi : Nat) (i : Cd.Ins) (off : Int) (w : World) (hB : Blk w gi 64 (insC i)) :
    Calls Try.prog 126 #[r, .pointer (some ⟨gi, 0, none⟩), .int .i64 off] w (ChPost gi i off w) := by
  have HB := hd hB
  obtain ⟨p0, p1, p2, p3, p4, p5, p6, p7⟩ := hB.c8
  obtain ⟨q0, q1, q2, q3, q4, q5, q6, q7⟩ := hB.f8
  clear hB
  obtain ⟨op, nr, rg, sz, ds, sr, of, im, hi⟩ : ∃ op nr rg sz ds sr of im, i = ⟨op, nr, rg, sz, ds, sr, of, im⟩ := ⟨_, _, _, _, _, _, _, _, rfl⟩
  obtain ⟨o, ho⟩ : ∃ o, off = o := ⟨_, rfl⟩
  have HI := hd hi
  have HO := hd ho
  rw [hi] at p0 p1 p2 p3 p4 p5 p6 p7
  have P : Calls Try.prog 126 #[r, .pointer (some ⟨gi, 0, none⟩), .int .i64 o] w (ChPost gi i off w) := by
    clear hi ho
    go_enter Try.func126, Try.ntmps126
    go_wp2
    all_goals go_ret
    all_goals first
      | exact ch_none HB.out (by rw [HI.out, HO.out]; clear HB HI HO p0 p1 p2 p3 p4 p5 p6 p7 q0 q1 q2 q3 q4 q5 q6 q7; simp only [Cd.chosen]; grind)
      | exact ch_same HB.out (by rw [HI.out, HO.out]; clear HB HI HO p0 p1 p2 p3 p4 p5 p6 p7 q0 q1 q2 q3 q4 q5 q6 q7; simp only [Cd.chosen]; grind)
      | exact ch_op HB.out 6 (by rw [HI.out, HO.out]; clear HB HI HO p0 p1 p2 p3 p4 p5 p6 p7 q0 q1 q2 q3 q4 q5 q6 q7; simp only [Cd.chosen]; grind)
      | exact ch_op HB.out 7 (by rw [HI.out, HO.out]; clear HB HI HO p0 p1 p2 p3 p4 p5 p6 p7 q0 q1 q2 q3 q4 q5 q6 q7; simp only [Cd.chosen]; grind)
      | exact ch_movs HB.out _ (by rw [HI.out, HO.out]; clear HB HI HO p0 p1 p2 p3 p4 p5 p6 p7 q0 q1 q2 q3 q4 q5 q6 q7; simp only [Cd.chosen]; grind)
  rw [ho]
  rw [ho] at P
  exact P

end Go.Proofs.Ytfcbedkidjclhaa
