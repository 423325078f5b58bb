/-
  PackEncodes answers true of every two containers of bulk at most 1048576: package pack makes the bytes that the document makes, leaves what is handed in as it is, and the bytes are the caller's.
  Conditions: none beyond those of the given statement.
-/
import Derived.Test.YtfcbedkidjclhaaRowP
import Derived.Test.YtfcbedkidjclhaaBulk
import Derived.Test.YtfcbedkidjclhaaWalkU
namespace Go.Proofs.Ytfcbedkidjclhaa
open Go.ChangeShapes Go.WideShapes Go.ChangeAt Go.RowKit
set_option maxRecDepth 100000
set_option linter.unusedSimpArgs false
set_option linter.unusedVariables false

theorem packEncodes_lifted (os : Os) (started : os.Started) (H : Type) (enc : TypeId × Value → H) (F : Stop.Interp) :
    ReturnsInHanded {} Try.checked os 3 .any ((Rows.OpenSpec.upto Rows.packEncodesSpec).pre6 enc Try.prog Try.f3 Rows.packEncodesUptoRow.domain false) (((Rows.OpenSpec.upto Rows.packEncodesSpec).at F).post enc Try.prog Try.f3 false true false false) := by
  refine returnsInHanded_of_cond_sized (C := Try.checked) (s := Rows.OpenSpec.upto Rows.packEncodesSpec) (k := Rows.uptoSmall) rfl Try.own started (by kernel_rfl) Try.func3
    (OpenSpec.witness (enc := enc) (C := Try.checked) (s := Rows.OpenSpec.upto Rows.packEncodesSpec) (k := Rows.uptoSmall) rfl false ⟨#[], #[.agg #[.int .i64 0, .int .i64 0, .slice none 0 0, .slice none 0 0, .slice none 0 0], .agg #[.int .i64 0, .int .i64 0, .slice none 0 0, .slice none 0 0, .slice none 0 0]], []⟩ 8 (by kernel_rfl) (by kernel_rfl) (by kernel_rfl)
      (x := ([.agg [.lit (.int .i64 0), .lit (.int .i64 0), .nil, .nil, .nil], .agg [.lit (.int .i64 0), .lit (.int .i64 0), .nil, .nil, .nil]], [], [])) (by kernel_rfl) rfl (by kernel_rfl)) ?_
  intro W base args ds gs before hval0 hW hcnd hk hsz0 _
  have hval : ∀ (j : Nat) t v, Try.f3.params[j]? = some t → args[j]? = some v → Value.okWide Try.prog W .any base t v := hval0
  have hW' := hW
  obtain ⟨p, q, hA0, hV, rfl, hfz, hnd⟩ := hW
  have hA : DataW.TrodAll enc Try.prog W 0 (fun _ => true) true Try.f3.params.toList args.toList ds p := hA0
  rw [Try.params3] at hA hval
  obtain ⟨v0, v1, d0, d1, p0, p1, rfl, rfl, rfl, h0, h1⟩ := trodAll_two hA
  obtain ⟨rfl, rfl⟩ := trodVars_none hV
  obtain ⟨lo, hi, A1, n1, c1, A2, n2, c2, A3, n3, c3, data, ts, code, rfl, _, _, _, r1, r2, r3, hm⟩ := open_pack (hval 0 25 v0 rfl rfl) h0
  obtain ⟨m1, m2, m3⟩ := hm _ (Bulk.small hk (d := d0) (by simp) Bulk.fine25)
  obtain ⟨lo', hi', A1', n1', c1', A2', n2', c2', A3', n3', c3', data', ts', code', rfl, _, _, _, r1', r2', r3', hm'⟩ := open_pack (hval 1 25 v1 rfl rfl) h1
  obtain ⟨m1', m2', m3'⟩ := hm' _ (Bulk.small hk (d := d1) (by simp) Bulk.fine25)
  clear hA0 hval0 hsz0
  simp only [List.append_nil] at hW'
  refine (PackEncodes_any ⟨lo, hi, A1, n1, c1, A2, n2, c2, A3, n3, c3, data, ts, code⟩ ⟨lo', hi', A1', n1', c1', A2', n2', c2', A3', n3', c3', data', ts', code'⟩ W ⟨r1, r2, r3, by simp only; omega, by simp only; omega, by simp only; omega⟩ ⟨r1', r2', r3', by simp only; omega, by simp only; omega, by simp only; omega⟩).mono fun e W' ⟨he, hX⟩ => ?_
  subst he
  have hlt := fun x hx => hW'.lt x hx
  exact ⟨_, rfl, post_of_below (pa := p0 ++ p1) (pv := []) hW' (fun _ _ _ => trodAll_mk1 (shut_bool Try.underlying4 true))
    (fun sp hsp => trodAll_mk2 (stays25 hX h0 (fun x hx => hlt x (by simp [hx])) (fun x hx => hsp x (by simp [hx]))) (stays25 hX h1 (fun x hx => hlt x (by simp [hx])) (fun x hx => hsp x (by simp [hx])))) (fun _ _ => rfl) (by simp)
    hX (ok_one (by kernel_rfl) rfl (okWide_bool_mk Try.underlying4 true))⟩

theorem packEncodes_facts : joinedFacts Try.prog 3 Try.f3 (Rows.OpenSpec.upto Rows.packEncodesSpec).bare Rows.packEncodesUptoRow = true := by
  unfold joinedFacts
  have h1 := mayEnter
  have h2 := liftsFinal
  have h3 := makeCut
  generalize Try.prog.mayEnter = a at h1 ⊢
  generalize Try.prog.liftsFinal = b at h2 ⊢
  generalize Try.prog.make = m at h3 ⊢
  subst h1 h2 h3
  refine Eq.trans ?_ (Eq.refl true)
  kernel_rfl

theorem packEncodes_holds : Rows.PackEncodesUptoSaid :=
  OpenClaim.holds_of_cond 3 Try.f3 rfl rfl rfl rfl rfl rfl rfl ⟨rfl, rfl, rfl, rfl, rfl⟩ rfl rfl rfl rfl rfl (by kernel_rfl) Try.func3 packEncodes_facts
    (of_decide_eq_true (by kernel_rfl)) (by unfold Func.isWrapper; first | (rw [if_pos (by decide +kernel)]; kernel_rfl) | (rw [if_neg (by decide +kernel)]; exact ⟨rfl, rfl⟩))
    (fun os started H enc _ F => packEncodes_lifted os started H enc F)

end Go.Proofs.Ytfcbedkidjclhaa
