/-
  One small program's bytes: what package code makes of them. Plain Lean, no program in sight.
  No condition.
-/
import Derived.Test.YtfcbedkidjclhaaCodeL4
namespace Go.Proofs.Ytfcbedkidjclhaa.Cd
open Pk
set_option maxRecDepth 100000
set_option linter.unusedSimpArgs false
set_option linter.unusedVariables false

def l0 : List Ins := [⟨15, false, false, 0, 0, 0, 0, 5⟩, ⟨20, false, false, 0, 4, 0, 0, 8589934591⟩, ⟨39, false, false, 0, 0, 0, 0, 0⟩]
def want : List UInt8 := [183, 0, 0, 0, 5, 0, 0, 0, 24, 4, 0, 0, 255, 255, 255, 255, 0, 0, 0, 0, 1, 0, 0, 0, 149, 0, 0, 0, 0, 0, 0, 0]
theorem flat_l0 : flat l0 = want := by decide +kernel
theorem right_l0 : AllRight l0 := by
  have h : l0.all (fun x => decide (right x = 0)) = true := by decide +kernel
  intro x hx
  exact of_decide_eq_true (List.all_eq_true.mp h x hx)
theorem in_l0 : AllIn l0 := by
  have h : l0.all (fun x => decide (-9223372036854775808 ≤ x.imm) && decide (x.imm < 9223372036854775808)) = true := by decide +kernel
  intro x hx
  have := List.all_eq_true.mp h x hx
  simp only [Bool.and_eq_true, decide_eq_true_eq] at this
  exact this
theorem encode_l0 : encode l0 = (want, 0, 0) := by rw [encode_ok right_l0 (by decide), flat_l0]
theorem decode_want : decode want = (l0, 0, 0) := by rw [← flat_l0]; exact decode_flat right_l0 in_l0 (by decide)
theorem decode_want16 : decode (want.take 16) = ([], 1, 20) := by
  have h : AllRight (l0.take 1) := fun x hx => right_l0 x (List.mem_of_mem_take hx)
  have h' : AllIn (l0.take 1) := fun x hx => in_l0 x (List.mem_of_mem_take hx)
  refine decode_fail (t := l0.take 1) (r := [24, 4, 0, 0, 255, 255, 255, 255]) (by decide +kernel) h h' (by decide) ?_ (by simp)
  rw [next_eq, if_neg (by decide), if_neg (by decide +kernel), if_pos (by decide +kernel)]
  unfold nextWide
  rw [if_pos (by decide)]
theorem units_l0 : units l0 = [0, 1, 3, 4] := by decide +kernel

end Go.Proofs.Ytfcbedkidjclhaa.Cd
