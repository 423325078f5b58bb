/-
  What the rows' closed facts ask of the program's head, with little memory: the head's words are read one at a time.
  No condition.
-/
import Derived.Test.YtfcbedkidjclhaaChecked
import Derived.ProofKit
namespace Go.Proofs.Ytfcbedkidjclhaa
open Go.RowKit
set_option maxRecDepth 100000
set_option linter.unusedSimpArgs false
set_option linter.unusedVariables false

def blank : Char := Char.ofNat 32
theorem words_at : ∀ (n : Nat) (l : List Char), (l.take n).all (fun c => c != blank) = true → l[n]? = some blank → wordsSigns l = l.take n :: wordsSigns (l.drop (n + 1))
  | 0, [], _, hb => by simp at hb
  | 0, c :: r, _, hb => by
    simp only [List.getElem?_cons_zero, Option.some.injEq] at hb
    subst hb
    rfl
  | n + 1, [], _, hb => by simp at hb
  | n + 1, c :: r, h, hb => by
    simp only [List.take_succ_cons, List.all_cons, Bool.and_eq_true, bne_iff_ne, ne_eq] at h
    have ih := words_at n r h.2 (by simpa using hb)
    have hc : ¬ c = Char.ofNat 32 := h.1
    rw [wordsSigns, ih]
    · simp
    · intro hcc
      exact hc hcc

theorem words : behindMainWord (wordsSigns Try.prog.initOrder.toList) = "cut".toList :: wordsSigns (Try.prog.initOrder.toList.drop 77) := by
  have h1 := words_at 7 Try.prog.initOrder.toList (by kernel_rfl) (by kernel_rfl)
  have h2 := words_at 64 (Try.prog.initOrder.toList.drop 8) (by kernel_rfl) (by kernel_rfl)
  have h3 := words_at 3 (Try.prog.initOrder.toList.drop 73) (by kernel_rfl) (by kernel_rfl)
  rw [List.drop_drop] at h2 h3
  have h4 : (Try.prog.initOrder.toList.drop 73).take 3 = "cut".toList := by kernel_rfl
  have h5 : ((Try.prog.initOrder.toList.take 7 == "harness".toList || Try.prog.initOrder.toList.take 7 == "ownmain".toList) && isSumSigns ((Try.prog.initOrder.toList.drop 8).take 64)) = true := by kernel_rfl
  rw [h1, h2, behindMainWord, if_pos h5, h3, h4]

theorem strip_cut (ws : List (List Char)) : stripLifts liftWords ("cut".toList :: ws) = ([], "cut".toList :: ws) := by
  simp [stripLifts, liftWords]
theorem laysLater : Try.prog.laysLater = false := by kernel_rfl
theorem bearsReflect : Try.prog.bearsReflect = false := by kernel_rfl
theorem doorFits : Try.prog.doorFits [] = true := by kernel_rfl
section
variable {P : Program} {ws : List (List Char)}
theorem mayEnter_of (h : behindMainWord (wordsSigns P.initOrder.toList) = "cut".toList :: ws) (h1 : P.laysLater = false) (h2 : P.bearsReflect = false) (h3 : P.doorFits [] = true) : P.mayEnter = true := by
  unfold Program.mayEnter
  rw [h]
  simp only [strip_cut, h1, h2, h3]
  simp
theorem headLifts_of (h : behindMainWord (wordsSigns P.initOrder.toList) = "cut".toList :: ws) : P.headLifts = [] := by
  unfold Program.headLifts
  rw [h]
  simp only [strip_cut]
  simp
theorem liftsFinal_of (h : behindMainWord (wordsSigns P.initOrder.toList) = "cut".toList :: ws) : P.liftsFinal = false := by
  unfold Program.liftsFinal
  rw [h, headLifts_of h]
  simp
theorem makeCut_of (h : behindMainWord (wordsSigns P.initOrder.toList) = "cut".toList :: ws) : P.make = some .cut := by
  unfold Program.make
  rw [h]
  simp
end
theorem mayEnter : Try.prog.mayEnter = true := mayEnter_of words laysLater bearsReflect doorFits
theorem liftsFinal : Try.prog.liftsFinal = false := liftsFinal_of words
theorem makeCut : Try.prog.make = some .cut := makeCut_of words

end Go.Proofs.Ytfcbedkidjclhaa
