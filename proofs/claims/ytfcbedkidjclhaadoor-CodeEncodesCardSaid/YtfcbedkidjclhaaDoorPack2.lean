/-
  The contracts of pack's sizes (with slices.ContainsFunc, slices.IndexFunc and wrong).
  Conditions: the list of tables reads as a list; lengths below the reach.
-/
import Derived.Test.YtfcbedkidjclhaaDoorCopy
import Derived.Test.YtfcbedkidjclhaaDoorPackM
namespace Go.Proofs.YtfcbedkidjclhaaDoor
open Go.RowKit
set_option maxRecDepth 100000

theorem any_hit {α : Type} {p : α → Bool} {l : List α} {k : Nat} (hk : k < l.length) (h : p l[k] = true) : l.any p = true := List.any_eq_true.2 ⟨l[k], List.getElem_mem _, h⟩
theorem any_miss {α : Type} {p : α → Bool} {l : List α} {k : Nat} (hk : k < l.length) (h : (l.take k).any p = false) (h' : p l[k] = false) : (l.take (k + 1)).any p = false := by
  rw [List.take_succ_eq_append_getElem hk, List.any_append, h]
  simp [h']
/-- a number that is from 0 on just if something is so -/
def SignOf (b : Bool) (w : World) (e : Ending) (w' : World) : Prop := (∃ i : Int, e = .returned (.int .i64 i) ∧ (b = true → 0 ≤ i) ∧ (b = false → i < 0)) ∧ Ext w w'

end Go.Proofs.YtfcbedkidjclhaaDoor
