/-
  PackRefuses answers true for every program and every turn of it.
  Conditions: none beyond those of the given statement.
-/
import Derived.Test.YtfcbedkidjclhaaRowQ
import Derived.Test.YtfcbedkidjclhaaWalkQ
namespace Go.Proofs.Ytfcbedkidjclhaa
open Go.ChangeShapes Go.WideShapes Go.ChangeAt Go.RowKit
set_option maxRecDepth 100000
set_option linter.unusedSimpArgs false
set_option linter.unusedVariables false

theorem packRefuses_lifted (os : Os) (started : os.Started) (H : Type) (enc : TypeId × Value → H) :
    ReturnsInHanded {} Try.checked os 23 .any (Rows.packRefusesSpec.pre6 enc Try.prog Try.f23 Rows.packRefusesRow.domain false) (Rows.packRefusesSpec.post enc Try.prog Try.f23 false true false false) := by
  refine returnsInHanded_of_change_sized (C := Try.checked) Try.own started (by kernel_rfl) Try.func23
    (ChangeSpec.witness6 (enc := enc) (C := Try.checked) false ⟨#[], #[.agg #[.int .i64 0, .int .i64 0, .slice none 0 0, .slice none 0 0, .slice none 0 0], .int .i64 0, .int .i64 0], []⟩ 8 (by kernel_rfl) (by kernel_rfl) (by kernel_rfl) (by kernel_rfl)) ?_
  intro W base args ds gs before hval0 hW hcnd hsz0 _
  have hval : ∀ (j : Nat) t v, Try.f23.params[j]? = some t → args[j]? = some v → Value.okWide Try.prog W .any base t v := hval0
  have hsz : (DataW.weightsEach Try.prog (Try.f23.params.toList ++ Rows.packRefusesSpec.plain.varTypes Try.prog) (ds ++ gs)).all (· ≤ reachBytes) = true := hsz0
  have hW' := hW
  obtain ⟨p, q, hA0, hV, rfl, hfz, hnd⟩ := hW
  have hA : DataW.TrodAll enc Try.prog W 0 (fun _ => true) true Try.f23.params.toList args.toList ds p := hA0
  rw [Try.params23] at hA hval hsz
  obtain ⟨v0, v1, v2, d0, d1, d2, p0, p1, p2, rfl, rfl, rfl, h0, h1, h2⟩ := trodAll_three hA
  obtain ⟨rfl, rfl⟩ := trodVars_none hV
  obtain ⟨lo, hi, A1, n1, c1, A2, n2, c2, A3, n3, c3, data, ts, code, rfl, _, _, _, r1, r2, r3, hin, hm⟩ := open_prog (hval 0 90 v0 rfl rfl) h0
  obtain ⟨m1, m2, m3⟩ := hm _ (reach_ty hsz (j := 0) rfl rfl)
  obtain ⟨a1, rfl, rfl, rfl, wa1⟩ := open_int Try.underlying3 (hval 1 3 v1 rfl rfl) h1
  obtain ⟨a2, rfl, rfl, rfl, wa2⟩ := open_int Try.underlying3 (hval 2 3 v2 rfl rfl) h2
  clear hA0 hval0 hsz0
  simp only [List.append_nil] at hW'
  refine (PackRefuses_any lo hi a1 a2 A1 A2 A3 n1 n2 n3 c1 c2 c3 data code ts W r1 r2 r3 (by omega) (by omega) (by omega) hin).mono fun e W' ⟨he, hX⟩ => ?_
  subst he
  have hlt := fun x hx => hW'.lt x hx
  exact ⟨_, rfl, post_of_below (pa := p0 ++ ([] ++ [])) (pv := []) hW' (fun _ _ _ => trodAll_mk1 (shut_bool Try.underlying4 true))
    (fun sp hsp => trodAll_mk3 (stays90 hX h0 (fun x hx => hlt x (by simp [hx])) (fun x hx => hsp x (by simp [hx]))) (shut_int Try.underlying3 wa1) (shut_int Try.underlying3 wa2)) (fun _ _ => rfl) (by simp)
    hX (ok_one (by kernel_rfl) rfl (okWide_bool_mk Try.underlying4 true))⟩

theorem packRefuses_facts : joinedFacts Try.prog 23 Try.f23 Rows.packRefusesSpec Rows.packRefusesRow = true := by
  unfold joinedFacts
  have h1 := mayEnter
  have h2 := liftsFinal
  have h3 := makeCut
  generalize Try.prog.mayEnter = a at h1 ⊢
  generalize Try.prog.liftsFinal = b at h2 ⊢
  generalize Try.prog.make = m at h3 ⊢
  subst h1 h2 h3
  refine Eq.trans ?_ (Eq.refl true)
  kernel_rfl

theorem packRefuses_holds : Rows.PackRefusesSaid :=
  OpenClaim.holds_of_wide 23 Try.f23 rfl rfl rfl rfl rfl rfl rfl ⟨rfl, rfl, rfl, rfl, rfl⟩ rfl rfl rfl rfl rfl (by kernel_rfl) Try.func23 packRefuses_facts
    (of_decide_eq_true (by kernel_rfl)) (by unfold Func.isWrapper; first | (rw [if_pos (by decide +kernel)]; kernel_rfl) | (rw [if_neg (by decide +kernel)]; exact ⟨rfl, rfl⟩))
    (fun os started H enc _ => packRefuses_lifted os started H enc)

end Go.Proofs.Ytfcbedkidjclhaa
