/-
  CodeEncodes answers true of every list of instructions: package code makes the bytes, or tells the first fault, that the document tells; the list stays as it is.
  Conditions: none beyond those of the given statement.
-/
import Derived.Test.YtfcbedkidjclhaaDoorMarkD
import Derived.Test.YtfcbedkidjclhaaDoorCards
import Derived.Test.YtfcbedkidjclhaaDoorTie
import Derived.Test.YtfcbedkidjclhaaDoorWalkDE
import Derived.SevenTiedAt
namespace Go.Proofs.YtfcbedkidjclhaaDoor
open Go.ChangeShapes Go.WideShapes Go.ChangeAt Go.RowKit
set_option maxRecDepth 100000
set_option linter.unusedSimpArgs false
set_option linter.unusedVariables false

theorem codeEncodes_lifted (os : Os) (started : os.Started) (H : Type) (enc : TypeId × Value → H) :
    ReturnsInHanded {} Tryd.checked os 3 .any (fun w args => (Rows.codeEncodesSpec.pre enc Tryd.prog Tryd.f3 [] false w args ∧ laidMetH Tryd.prog [("warrant/warrantlaw02.mark", Rows.laid_warrant_warrantlaw02_mark)] w) ∧ sizedMet enc Tryd.prog Tryd.f3 (OpenSpec.ofChange Rows.codeEncodesSpec) false w args)
      (Rows.codeEncodesSpec.post enc Tryd.prog Tryd.f3 false true false false) := by
  refine returnsInHanded_of_change_and (C := Tryd.checked) (X := fun w _ => laidMetH Tryd.prog [("warrant/warrantlaw02.mark", Rows.laid_warrant_warrantlaw02_mark)] w) (fun _ _ _ hh h => h.of_heap hh) Tryd.own started (by kernel_rfl) Tryd.func3
    (ChangeSpec.witness_shaped (enc := enc) (C := Tryd.checked) (os := os) (X := fun w _ => laidMetH Tryd.prog [("warrant/warrantlaw02.mark", Rows.laid_warrant_warrantlaw02_mark)] w) false (World.doorLaid Tryd.prog 14 os) #[.slice none 0 0] 8 rfl (World.shaped_of_RefB (by kernel_rfl) (by kernel_rfl)) (by kernel_rfl) (by kernel_rfl) (by kernel_rfl) (door_met os _)) ?_
  intro W base args ds gs before hval0 hW _ hsz0 hL _
  have hval : ∀ (j : Nat) t v, Tryd.f3.params[j]? = some t → args[j]? = some v → Value.okWide Tryd.prog W .any base t v := hval0
  have hsz : (DataW.weightsEach Tryd.prog (Tryd.f3.params.toList ++ Rows.codeEncodesSpec.plain.varTypes Tryd.prog) (ds ++ gs)).all (· ≤ reachBytes) = true := hsz0
  have hW' := hW
  obtain ⟨p, q, hA0, hV, rfl, hfz, hnd⟩ := hW
  have hA : DataW.TrodAll enc Tryd.prog W 0 (fun _ => true) true Tryd.f3.params.toList args.toList ds p := hA0
  rw [Tryd.params3] at hA hval hsz
  obtain ⟨v0, d0, rfl, rfl, h0⟩ := trodAll_one hA
  obtain ⟨rfl, rfl⟩ := trodVars_none hV
  obtain ⟨fu0, hf0⟩ := id h0
  rw [show v0.cells.toList = [v0] by obtain ⟨_, _, _, hs⟩ := okWide_slice Tryd.underlying22 (hval 0 22 v0 rfl rfl); rw [hs]; rfl] at hf0
  obtain ⟨A, n, c, l, rfl, lc, rb, hi, hm⟩ := open_code hf0
  have mb := hm _ (reach_ty hsz (j := 0) rfl rfl)
  have hM := mark_at hL
  clear hA0 hval0 hsz0
  simp only [List.append_nil] at hW'
  refine (CodeEncodes_any A n c l W hM rb (by omega)).mono fun e W' ⟨he, hX⟩ => ?_
  subst he
  have hlt := fun x hx => hW'.lt x hx
  exact ⟨_, rfl, post_of_below (pa := p) (pv := []) hW' (fun _ _ _ => trodAll_mk1 (shut_bool Tryd.underlying4 true))
    (fun sp hsp => trodAll_mk1 (stays57 hX h0 (fun x hx => hlt x (by simp [hx])) (fun x hx => hsp x (by simp [hx])))) (fun _ _ => rfl) (by simp)
    hX (ok_one (by kernel_rfl) rfl (okWide_bool_mk Tryd.underlying4 true))⟩

theorem codeEncodes_row : Rows.CodeEncodesSaid :=
  OpenClaim.holds_of_wide 3 Tryd.f3 rfl rfl rfl rfl rfl rfl rfl ⟨rfl, rfl, rfl, rfl, rfl⟩ rfl rfl rfl rfl rfl (by kernel_rfl) Tryd.func3 (by kernel_rfl)
    (of_decide_eq_true (by kernel_rfl)) (by unfold Func.isWrapper; first | (rw [if_pos (by decide +kernel)]; kernel_rfl) | (rw [if_neg (by decide +kernel)]; exact ⟨rfl, rfl⟩))
    (fun os started H enc _ => codeEncodes_lifted os started H enc)

theorem codeEncodes_holds : Rows.CodeEncodesCardSaid :=
  Claim7.holds_tied_plain_at .later [] [.data] true (true, "c5cf314e099e150fa429c02f248fbc07859fa006faf4cddeb063b3e80aeb09e1") true
    codeEncodes_row (fun _ h => by cases h) (by kernel_rfl) (fun _ h => by cases h) codeEncodes_row_tie rfl ⟨rfl, rfl⟩ (by kernel_rfl) rfl
    (fun f fn hf hfn => by
      obtain rfl : f = 3 := Option.some.inj ((show Tryd.prog.funcNamed "warrant/warrantlaw02.CodeEncodes" = some 3 by kernel_rfl).symm.trans hf) |>.symm
      obtain rfl : fn = Tryd.f3 := (Option.some.inj (Tryd.func3.symm.trans hfn)).symm
      exact ⟨by kernel_rfl, fun j t ht => by
        rw [Tryd.params3] at ht
        have hm : t ∈ [22] := by simpa using Array.mem_of_getElem? ht
        have hall : ([22].all fun u => !Tryd.prog.wantsStandIn u) = true := by kernel_rfl
        exact (show Tryd.prog.wantsStandIn t = false by simpa using List.all_eq_true.1 hall t hm)⟩)
    (by kernel_rfl)

end Go.Proofs.YtfcbedkidjclhaaDoor
