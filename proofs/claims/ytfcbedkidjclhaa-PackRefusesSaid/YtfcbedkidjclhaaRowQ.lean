/-
  A program that is handed in, opened; and that it reads as before where only new memory was made.
  No condition beyond those each statement names.
-/
import Derived.Test.YtfcbedkidjclhaaRowC
import Derived.Test.YtfcbedkidjclhaaRowP
namespace Go.Proofs.Ytfcbedkidjclhaa
open Go.Joins Go.ChangeShapes Go.WideShapes Go.ChangeAt Go.RowKit Go.Deep
set_option maxRecDepth 100000
set_option linter.unusedSimpArgs false
set_option linter.unusedVariables false

theorem cells90 : Try.prog.cellsOf 90 = 5 := by kernel_rfl

theorem open_prog {H : Type} {enc : TypeId × Value → H} {W : World} {base : Nat} {sp : Nat → Bool} {held : Bool} {r : Reach} {b0 : Nat} {v : Value} {d : DataW H} {p : List MemPlace} (hv : Value.okWide Try.prog W r b0 90 v) (h : DataW.Trod enc Try.prog W base sp held 90 v d p) :
    ∃ lo hi A1 n1 c1 A2 n2 c2 A3 n3 c3 data ts code, v = .agg #[.int .i64 lo, .int .i64 hi, .slice A1 n1 c1, .slice A2 n2 c2, .slice A3 n3 c3] ∧ n1 ≤ c1 ∧ n2 ≤ c2 ∧ n3 ≤ c3 ∧ Rd W 1 A1 n1 (bv data) ∧ Rd W 2 A2 n2 (tv ts) ∧ Rd W 8 A3 n3 (cv code) ∧ Cd.AllIn code ∧
      ∀ m, (∀ q ∈ DataW.weights Try.prog 90 d, q ≤ m) → n1 ≤ m ∧ n2 * 16 ≤ m ∧ n3 * 56 ≤ m := by
  obtain ⟨v0, v1, v2, v3, v4, y0, y1, y2, y3, y4, n, rfl, rfl, rfl, t0, t1, t2, t3, t4⟩ := open_agg5 Try.underlying90 (by kernel_rfl) cells90 hv h
  obtain ⟨lo, e0, _, _⟩ := DataW.trod_int Try.underlying3 t0
  obtain ⟨hi, e1, _, _⟩ := DataW.trod_int Try.underlying3 t1
  simp only [List.cons.injEq, and_true] at e0 e1
  subst e0 e1
  obtain ⟨A1, n1, c1, data, rfl, l1, r1, m1⟩ := open_bytes t2
  obtain ⟨A2, n2, c2, ts, rfl, l2, r2, m2⟩ := open_tabs t3
  obtain ⟨A3, n3, c3, code, rfl, l3, r3, hi3, m3⟩ := open_code t4
  refine ⟨lo, hi, A1, n1, c1, A2, n2, c2, A3, n3, c3, data, ts, code, rfl, l1, l2, l3, r1, r2, r3, hi3, fun m hm => ?_⟩
  simp only [DataW.weights, Try.underlying90, DataW.weightsEach, List.map_cons, List.map_nil, List.append_nil, List.mem_append] at hm
  exact ⟨m1 m fun q hq => hm q (by simp [hq]), m2 m fun q hq => hm q (by simp [hq]), m3 m fun q hq => hm q (by simp [hq])⟩

theorem stays90 {H : Type} {enc : TypeId × Value → H} {W W' : World} {sp : Nat → Bool} {v : Value} {d : DataW H} {ps : List MemPlace} (hX : Ext W W') (h : DataW.Trod enc Try.prog W 0 (fun _ => true) true 90 v d ps)
    (hlt : ∀ x ∈ ps, x.block < W.heap.size) (hsp : ∀ x ∈ ps, sp x.block = true) : DataW.Trod enc Try.prog W' 0 sp true 90 v d ps :=
  WideElems.Trod_stays Try.laidOut (by kernel_rfl) (by decide +kernel) h (fun x hx => Below.same hX (hlt x hx)) hsp

end Go.Proofs.Ytfcbedkidjclhaa
