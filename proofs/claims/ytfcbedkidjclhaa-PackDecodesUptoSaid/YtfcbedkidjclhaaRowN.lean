/-
  Numbers that are handed in: they read as a list; and they read as before where only new memory was made.
  No condition beyond those each statement names.
-/
import Derived.Test.YtfcbedkidjclhaaRowB
namespace Go.Proofs.Ytfcbedkidjclhaa
open Go.ChangeShapes Go.WideShapes Go.ChangeAt Go.RowKit
set_option maxRecDepth 100000
set_option linter.unusedSimpArgs false
set_option linter.unusedVariables false

theorem bytes3N : Try.prog.bytesOf 3 = 8 := by kernel_rfl
theorem cells3N : Try.prog.cellsOf 3 = 1 := by kernel_rfl
section
variable {H : Type} {enc : TypeId × Value → H} {W : World} {base : Nat} {sp : Nat → Bool} {held : Bool}
theorem open_nums {fuel : Nat} {v : Value} {x : DataW H × List MemPlace} (h : DataW.trod enc Try.prog W base sp held fuel 31 [v] = some x) :
    ∃ A n c ts, v = .slice A n c ∧ n ≤ c ∧ Rd W 1 A n (iv ts) ∧ ∀ m, (∀ q ∈ DataW.weights Try.prog 31 x.1, q ≤ m) → n * 8 ≤ m := by
  rcases open_ints Try.underlying31 Try.underlying3 cells3N h with ⟨h1, h2⟩ | ⟨a, len, cap, zs, h1, hb, hl, hm, hz, hx, hc, hw⟩
  · simp only [List.cons.injEq, and_true] at h1
    exact ⟨none, 0, 0, [], h1, Nat.le_refl _, Rd.nil_, fun _ _ => by omega⟩
  · simp only [List.cons.injEq, and_true] at h1
    have hlz : len ≤ zs.length := by rw [hz]; split <;> omega
    refine ⟨some a, len, cap, zs.take len, h1, hl, ⟨by simp [iv_length]; omega, fun _ => ⟨a, rfl, fun j u hj => ?_⟩⟩, fun m hq => ?_⟩
    · have hjl : j < len := by
        have := (List.getElem?_eq_some_iff.1 hj).1
        simp [iv_length] at this
        omega
      have hj2 : j < zs.length := by omega
      rw [iv_get _ j (by simp; omega)] at hj
      injection hj with hj
      rw [← hj, hc j hj2]
      have e1 : zs.getD j 0 = zs[j] := by simp [List.getD, hj2]
      rw [e1]
      simp only [List.getElem_take]
    · rw [hx] at hq
      have := hq _ (by simp only [DataW.weights, Try.underlying31]; exact List.mem_cons_self)
      rw [bytes3N] at this
      simp only [lits, List.length_map, List.length_take, List.length_drop] at this
      omega
end
theorem stays31 {H : Type} {enc : TypeId × Value → H} {W W' : World} {sp : Nat → Bool} {v : Value} {d : DataW H} {ps : List MemPlace} (hX : Ext W W') (h : DataW.Trod enc Try.prog W 0 (fun _ => true) true 31 v d ps)
    (hlt : ∀ x ∈ ps, x.block < W.heap.size) (hsp : ∀ x ∈ ps, sp x.block = true) : DataW.Trod enc Try.prog W' 0 sp true 31 v d ps :=
  WideElems.Trod_stays Try.laidOut (by kernel_rfl) (by decide +kernel) h (fun x hx => Below.same hX (hlt x hx)) hsp

end Go.Proofs.Ytfcbedkidjclhaa
