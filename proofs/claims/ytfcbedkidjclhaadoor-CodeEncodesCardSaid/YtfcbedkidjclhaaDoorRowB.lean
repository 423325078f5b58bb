/-
  Bytes that are handed in: their reach; and that they read as before where only new memory was made.
  No condition beyond those each statement names.
-/
import Derived.Test.YtfcbedkidjclhaaDoorRow
namespace Go.Proofs.YtfcbedkidjclhaaDoor
open Go.ChangeShapes Go.WideShapes Go.ChangeAt Go.RowKit
set_option maxRecDepth 100000
set_option linter.unusedSimpArgs false
set_option linter.unusedVariables false

theorem reach_ty {H : Type} {ts : List TypeId} {ds : List (DataW H)} (h : (DataW.weightsEach Tryd.prog ts ds).all (· ≤ reachBytes) = true) {j : Nat} {t : TypeId} {d : DataW H} (ht : ts[j]? = some t) (hd : ds[j]? = some d) :
    ∀ q ∈ DataW.weights Tryd.prog t d, q ≤ 140737488351232 := fun q hq => by
  have := List.all_eq_true.1 h _ (DataW.weights_mem_each ht hd q hq)
  have h2 := of_decide_eq_true this
  simpa [reachBytes] using h2

theorem stays22 {H : Type} {enc : TypeId × Value → H} {W W' : World} {sp : Nat → Bool} {v : Value} {d : DataW H} {ps : List MemPlace} (hX : Ext W W') (h : DataW.Trod enc Tryd.prog W 0 (fun _ => true) true 25 v d ps)
    (hlt : ∀ x ∈ ps, x.block < W.heap.size) (hsp : ∀ x ∈ ps, sp x.block = true) : DataW.Trod enc Tryd.prog W' 0 sp true 25 v d ps :=
  WideElems.Trod_stays Tryd.laidOut (by kernel_rfl) (by decide +kernel) h (fun x hx => Below.same hX (hlt x hx)) hsp

end Go.Proofs.YtfcbedkidjclhaaDoor
