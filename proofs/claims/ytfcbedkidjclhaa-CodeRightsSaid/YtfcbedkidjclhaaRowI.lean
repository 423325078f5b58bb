/-
  An instruction that is handed in, opened.
  No condition beyond those each statement names.
-/
import Derived.Test.YtfcbedkidjclhaaRowC
namespace Go.Proofs.Ytfcbedkidjclhaa
open Go.Joins Go.ChangeShapes Go.WideShapes Go.ChangeAt Go.RowKit Go.Deep
set_option maxRecDepth 100000
set_option linter.unusedSimpArgs false
set_option linter.unusedVariables false

theorem open_insv {H : Type} {enc : TypeId × Value → H} {W : World} {base : Nat} {sp : Nat → Bool} {held : Bool} {r : Reach} {b0 : Nat} {v : Value} {d : DataW H} {p : List MemPlace} (hv : Value.okWide Try.prog W r b0 64 v) (h : DataW.Trod enc Try.prog W base sp held 64 v d p) :
    ∃ i : Cd.Ins, v = .agg (insC i) ∧ Cd.InR i := by
  obtain ⟨cs, rfl, hsz⟩ := okWide_struct Try.underlying64 hv
  obtain ⟨fuel, hf⟩ := h
  obtain ⟨i, hi, hr⟩ := open_ins (by rw [cells64] at hsz; simpa [Value.cells] using hsz) hf
  exact ⟨i, by rw [show cs = insC i from Array.ext' (by simpa [Value.cells] using hi)], hr⟩

theorem stays64 {H : Type} {enc : TypeId × Value → H} {W W' : World} {sp : Nat → Bool} {v : Value} {d : DataW H} {ps : List MemPlace} (hX : Ext W W') (h : DataW.Trod enc Try.prog W 0 (fun _ => true) true 64 v d ps)
    (hlt : ∀ x ∈ ps, x.block < W.heap.size) (hsp : ∀ x ∈ ps, sp x.block = true) : DataW.Trod enc Try.prog W' 0 sp true 64 v d ps :=
  WideElems.Trod_stays Try.laidOut (by kernel_rfl) (by decide +kernel) h (fun x hx => Below.same hX (hlt x hx)) hsp

end Go.Proofs.Ytfcbedkidjclhaa
