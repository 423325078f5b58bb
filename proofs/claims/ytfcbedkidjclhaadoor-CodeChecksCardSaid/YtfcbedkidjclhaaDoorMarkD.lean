/-
  What the row's listed variable gives the walks: the package variable holds the mark.
  No condition beyond those each statement names.
-/
import Derived.Test.YtfcbedkidjclhaaDoorRowC
import Derived.Test.YtfcbedkidjclhaaDoorLendI
import Derived.Test.YtfcbedkidjclhaaDoorTie
import Derived.LaidMore
import Derived.OpenShut
import Derived.Stop.Joined
namespace Go.Proofs.YtfcbedkidjclhaaDoor
open Go.ChangeShapes Go.WideShapes Go.ChangeAt Go.RowKit
set_option maxRecDepth 100000
set_option linter.unusedSimpArgs false
set_option linter.unusedVariables false

theorem gMark : Tryd.prog.globalNamed "warrant/warrantlaw02.mark" = some 0 := by kernel_rfl
theorem tMark : (Tryd.prog.globals[0]?).map (·.type) = some 35 := by kernel_rfl

/-- the variable's cells -/
theorem mark_cells {H : Type} {enc : TypeId × Value → H} {W : World} {base : Nat} {sp : Nat → Bool} {held : Bool} {fuel : Nat} {cs : List Value} {ps : List MemPlace} (hl : cs.length = 8)
    (h : DataW.trod enc Tryd.prog W base sp held fuel 35 cs = some (Rows.laid_warrant_warrantlaw02_mark, ps)) : cs = (insC mkI).toList := by
  obtain ⟨xs, k, _, hx, _, hxl, hf⟩ := DataW.trod_struct Tryd.underlying35 h
  match cs, hl with
  | [v0, v1, v2, v3, v4, v5, v6, v7], _ =>
    match xs, hxl with
    | [y0, y1, y2, y3, y4, y5, y6, y7], _ =>
      have g0 := hf 0 _ rfl
      have g1 := hf 1 _ rfl
      have g2 := hf 2 _ rfl
      have g3 := hf 3 _ rfl
      have g4 := hf 4 _ rfl
      have g5 := hf 5 _ rfl
      have g6 := hf 6 _ rfl
      have g7 := hf 7 _ rfl
      simp [cells3, cells4] at g0 g1 g2 g3 g4 g5 g6 g7
      obtain ⟨z0, e0, f0, w0⟩ := DataW.trod_int Tryd.underlying3 g0
      obtain ⟨b1, e1, f1⟩ := DataW.trod_bool Tryd.underlying4 g1
      obtain ⟨b2, e2, f2⟩ := DataW.trod_bool Tryd.underlying4 g2
      obtain ⟨z3, e3, f3, w3⟩ := DataW.trod_int Tryd.underlying3 g3
      obtain ⟨z4, e4, f4, w4⟩ := DataW.trod_int Tryd.underlying3 g4
      obtain ⟨z5, e5, f5, w5⟩ := DataW.trod_int Tryd.underlying3 g5
      obtain ⟨z6, e6, f6, w6⟩ := DataW.trod_int Tryd.underlying3 g6
      obtain ⟨z7, e7, f7, w7⟩ := DataW.trod_int Tryd.underlying3 g7
      simp only [List.cons.injEq, and_true] at e0 e1 e2 e3 e4 e5 e6 e7
      subst e0 e1 e2 e3 e4 e5 e6 e7
      subst f0 f1 f2 f3 f4 f5 f6 f7
      simp [Rows.laid_warrant_warrantlaw02_mark] at hx
      obtain ⟨⟨h0, h1, h2, h3, h4, h5, h6, h7⟩, _⟩ := hx
      subst h0 h1 h2 h3 h4 h5 h6 h7
      rfl

theorem mark_at {W : World} (h : laidMetH Tryd.prog [("warrant/warrantlaw02.mark", Rows.laid_warrant_warrantlaw02_mark)] W) : MarkAt W := by
  rw [MakeChecks.laidMetH_plain _ _ _ (by kernel_rfl)] at h
  obtain ⟨ps, ⟨g0, t0, cs0, f0, p0, q0, hg0, ht0, hv0, hd0, _⟩, _⟩ := h
  obtain rfl := Option.some.inj (gMark.symm.trans hg0)
  obtain rfl := Option.some.inj (tMark.symm.trans ht0)
  have hl : cs0.toList.length = 8 := by
    obtain ⟨_, _, _, _, hl, _⟩ := DataW.trod_struct Tryd.underlying35 hd0
    rw [hl, cells64]
  have hc := mark_cells hl hd0
  have e : cs0 = insC mkI := by
    have := congrArg List.toArray hc
    simpa using this
  have hcell := fun i => World.var?_cell hg0 hv0 i
  rw [e] at hcell
  exact ⟨hcell 0, hcell 1, hcell 2, hcell 3, hcell 4, hcell 5, hcell 6, hcell 7⟩
/-- the heap that the door's own run leaves meets it -/
theorem door_met (os : Os) (args : Array Value) : laidMetH Tryd.prog [("warrant/warrantlaw02.mark", Rows.laid_warrant_warrantlaw02_mark)] ((World.doorLaid Tryd.prog 14 os).forCall (fun _ _ => 0) ⟨#[], args, []⟩).memory :=
  laidMetH_of_parts3 (fuel := 8) (laidMet_of_run' 8 (by kernel_rfl) (by kernel_rfl)) (by kernel_rfl) (by kernel_rfl)

end Go.Proofs.YtfcbedkidjclhaaDoor
