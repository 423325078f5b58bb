/-
  PackDecodes answers true of all bytes and numbers of bulk at most 1048576: package pack reads what the document reads, of right sums too; the bytes stay and what is told is the caller's.
  Conditions: none beyond those of the given statement.
-/
import Derived.Test.YtfcbedkidjclhaaRowN
import Derived.Test.YtfcbedkidjclhaaBulk
import Derived.Test.YtfcbedkidjclhaaWalkV
namespace Go.Proofs.Ytfcbedkidjclhaa
open Go.ChangeShapes Go.WideShapes Go.ChangeAt Go.RowKit
set_option maxRecDepth 100000
set_option linter.unusedSimpArgs false
set_option linter.unusedVariables false

theorem packDecodes_lifted (os : Os) (started : os.Started) (H : Type) (enc : TypeId × Value → H) (F : Stop.Interp) :
    ReturnsInHanded {} Try.checked os 4 .any ((Rows.OpenSpec.upto Rows.packDecodesSpec).pre6 enc Try.prog Try.f4 Rows.packDecodesUptoRow.domain false) (((Rows.OpenSpec.upto Rows.packDecodesSpec).at F).post enc Try.prog Try.f4 false true false false) := by
  refine returnsInHanded_of_cond_sized (C := Try.checked) (s := Rows.OpenSpec.upto Rows.packDecodesSpec) (k := Rows.uptoSmall) rfl Try.own started (by kernel_rfl) Try.func4
    (OpenSpec.witness (enc := enc) (C := Try.checked) (s := Rows.OpenSpec.upto Rows.packDecodesSpec) (k := Rows.uptoSmall) rfl false ⟨#[], #[.slice none 0 0, .slice none 0 0], []⟩ 8 (by kernel_rfl) (by kernel_rfl) (by kernel_rfl)
      (x := ([.nil, .nil], [], [])) (by kernel_rfl) rfl (by kernel_rfl)) ?_
  intro W base args ds gs before hval0 hW hcnd hk hsz0 _
  have hval : ∀ (j : Nat) t v, Try.f4.params[j]? = some t → args[j]? = some v → Value.okWide Try.prog W .any base t v := hval0
  have hW' := hW
  obtain ⟨p, q, hA0, hV, rfl, hfz, hnd⟩ := hW
  have hA : DataW.TrodAll enc Try.prog W 0 (fun _ => true) true Try.f4.params.toList args.toList ds p := hA0
  rw [Try.params4] at hA hval
  obtain ⟨v0, v1, d0, d1, p0, p1, rfl, rfl, rfl, h0, h1⟩ := trodAll_two hA
  obtain ⟨rfl, rfl⟩ := trodVars_none hV
  obtain ⟨fu0, hf0⟩ := id h0
  rw [show v0.cells.toList = [v0] by obtain ⟨_, _, _, hs⟩ := okWide_slice Try.underlying22 (hval 0 22 v0 rfl rfl); rw [hs]; rfl] at hf0
  obtain ⟨A, n, c, bs, rfl, lc, rb, hm⟩ := open_bytes hf0
  have mb := hm _ (Bulk.small hk (d := d0) (by simp) Bulk.fine22)
  obtain ⟨fu1, hf1⟩ := id h1
  rw [show v1.cells.toList = [v1] by obtain ⟨_, _, _, hs⟩ := okWide_slice Try.underlying31 (hval 1 31 v1 rfl rfl); rw [hs]; rfl] at hf1
  obtain ⟨A', n', c', zs', rfl, lc', rb', hm'⟩ := open_nums hf1
  have mb' := hm' _ (Bulk.small hk (d := d1) (by simp) Bulk.fine31)
  clear hA0 hval0 hsz0
  simp only [List.append_nil] at hW'
  refine (PackDecodes_any A n c bs A' n' c' zs' W rb rb' (by omega) (by omega)).mono fun e W' ⟨he, hX⟩ => ?_
  subst he
  have hlt := fun x hx => hW'.lt x hx
  exact ⟨_, rfl, post_of_below (pa := p0 ++ p1) (pv := []) hW' (fun _ _ _ => trodAll_mk1 (shut_bool Try.underlying4 true))
    (fun sp hsp => trodAll_mk2 (stays22 hX h0 (fun x hx => hlt x (by simp [hx])) (fun x hx => hsp x (by simp [hx]))) (stays31 hX h1 (fun x hx => hlt x (by simp [hx])) (fun x hx => hsp x (by simp [hx])))) (fun _ _ => rfl) (by simp)
    hX (ok_one (by kernel_rfl) rfl (okWide_bool_mk Try.underlying4 true))⟩

theorem packDecodes_facts : joinedFacts Try.prog 4 Try.f4 (Rows.OpenSpec.upto Rows.packDecodesSpec).bare Rows.packDecodesUptoRow = true := by
  unfold joinedFacts
  have h1 := mayEnter
  have h2 := liftsFinal
  have h3 := makeCut
  generalize Try.prog.mayEnter = a at h1 ⊢
  generalize Try.prog.liftsFinal = b at h2 ⊢
  generalize Try.prog.make = m at h3 ⊢
  subst h1 h2 h3
  refine Eq.trans ?_ (Eq.refl true)
  kernel_rfl

theorem packDecodes_holds : Rows.PackDecodesUptoSaid :=
  OpenClaim.holds_of_cond 4 Try.f4 rfl rfl rfl rfl rfl rfl rfl ⟨rfl, rfl, rfl, rfl, rfl⟩ rfl rfl rfl rfl rfl (by kernel_rfl) Try.func4 packDecodes_facts
    (of_decide_eq_true (by kernel_rfl)) (by unfold Func.isWrapper; first | (rw [if_pos (by decide +kernel)]; kernel_rfl) | (rw [if_neg (by decide +kernel)]; exact ⟨rfl, rfl⟩))
    (fun os started H enc _ F => packDecodes_lifted os started H enc F)

end Go.Proofs.Ytfcbedkidjclhaa
