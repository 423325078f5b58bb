/-
  The contract of package code's right: an instruction's error.
  No condition.
-/
import Derived.Test.YtfcbedkidjclhaaCode2
namespace Go.Proofs.Ytfcbedkidjclhaa
open Go.RowKit
set_option maxRecDepth 100000
set_option linter.unusedSimpArgs false
set_option linter.unusedVariables false

theorem qs {P : Program} {f : FuncId} {args : Array Value} {w : World} {v : Value} (h : Calls P f args w fun e w' => e = .returned v ∧ w = w') : Calls P f args w fun e w' => e = .returned v ∧ w' = w := h.mono fun _ _ h => ⟨h.1, h.2.symm⟩
theorem ret_int {a b : Int} (h : a = b) : Ending.returned (.int .i64 a) = .returned (.int .i64 b) := by rw [h]

set_option maxHeartbeats 4000000 in
theorem right_any (op : Int) (nr rg : Bool) (sz ds sr of im : Int) (w : World) : Calls Try.prog 93 #[.agg #[.int .i64 op, .bool nr, .bool rg, .int .i64 sz, .int .i64 ds, .int .i64 sr, .int .i64 of, .int .i64 im]] w fun e w' => e = .returned (.int .i64 (Cd.right ⟨op, nr, rg, sz, ds, sr, of, im⟩)) ∧ Ext w w' := by
  go_enter Try.func93, Try.ntmps93
  go_upto_region 1 with (fail)
  refine wp_box64 ?_
  intro W hX hP
  obtain ⟨p0, p1, p2, p3, p4, p5, p6, p7⟩ := hP.c8
  cases hF : Cd.formed ⟨op, nr, rg, sz, ds, sr, of, im⟩ with
  | false =>
    go_wp2_with (go_at_call 128; (with_reducible refine (formed_any _ _ _ _ _ _ _ _ _).mono ?_); rw [hF]; rintro e w1 ⟨rfl, hX1⟩)
    go_ret
    exact ⟨ret_int (by simp [Cd.right, hF]), hX.trans hX1⟩
  | true =>
    obtain ⟨U1, h1⟩ : ∃ b, Cd.usesDst ⟨op, nr, rg, sz, ds, sr, of, im⟩ = b := ⟨_, rfl⟩
    obtain ⟨U2, h2⟩ : ∃ b, Cd.usesSrc ⟨op, nr, rg, sz, ds, sr, of, im⟩ = b := ⟨_, rfl⟩
    obtain ⟨U3, h3⟩ : ∃ b, Cd.usesOff ⟨op, nr, rg, sz, ds, sr, of, im⟩ = b := ⟨_, rfl⟩
    obtain ⟨U4, h4⟩ : ∃ b, Cd.usesImm ⟨op, nr, rg, sz, ds, sr, of, im⟩ = b := ⟨_, rfl⟩
    go_upto_region 4 with (first | (go_at_call 128; (with_reducible refine (formed_any _ _ _ _ _ _ _ _ _).mono ?_); rw [hF]; rintro e w1 ⟨rfl, hX1⟩; have hP1 := hP.ext hX1; obtain ⟨p0, p1, p2, p3, p4, p5, p6, p7⟩ := hP1.c8) | (go_at_call 122; (with_reducible refine (uses_any _ _ _ _ _ _ _ _ _).mono ?_); rw [h1, h2, h3, h4]; rintro e w2 ⟨rfl, hX2⟩; have hP2 := hP1.ext hX2))
    clear p0 p1 p2 p3 p4 p5 p6 p7
    obtain ⟨p0, p1, p2, p3, p4, p5, p6, p7⟩ := hP2.c8
    have X2 := (hX.trans hX1).trans hX2
    have H1 := hd h1
    have H2 := hd h2
    have H3 := hd h3
    have H4 := hd h4
    have HF := hd hF
    clear h1 h2 h3 h4 hF hP hP1 hX hX1 hX2
    cases U1 <;> cases U2
    all_goals go_quiet (first | (go_at_call 124; exact Calls.quiet_of_same (qs (writesDst_any _ _))) | (go_at_call 123; exact Calls.quiet_of_same (qs (isReg_any _ _ _))))
    all_goals go_upto_region 5 with (go_at_call 127; (with_reducible refine (immFits_any _ _ _ _ _ _ _ _ _).mono ?_); rintro e w5 ⟨rfl, hX5⟩)
    all_goals first
      | (go_ret; have h1 := H1.out; have h2 := H2.out; have h3 := H3.out; have h4 := H4.out; have hF := HF.out; exact ⟨ret_int (by grind [Cd.right]), by first | exact X3.drewN _ | exact (X3.drewN _).trans hX5 | exact X2.drewN _ | exact (X2.drewN _).drewN _ | exact (X2.drewN _).trans hX5 | exact ((X2.drewN _).drewN _).trans hX5⟩)
      | (refine wp_world (fun W3 => Ext w W3 ∧ Blk W3 w.heap.size 64 #[.int .i64 op, .bool nr, .bool rg, .int .i64 sz, .int .i64 ds, .int .i64 sr, .int .i64 of, .int .i64 im]) ⟨X2.drewN _, hP2⟩ ?_; rintro W3 ⟨X3, hP3⟩; clear p0 p1 p2 p3 p4 p5 p6 p7; obtain ⟨p0, p1, p2, p3, p4, p5, p6, p7⟩ := hP3.c8; go_quiet (first | (go_at_call 125; exact Calls.quiet_of_same (qs (writesSrc_any _ _ _))) | (go_at_call 123; exact Calls.quiet_of_same (qs (isReg_any _ _ _)))); go_wp2_with (go_at_call 127; (with_reducible refine (immFits_any _ _ _ _ _ _ _ _ _).mono ?_); rintro e w5 ⟨rfl, hX5⟩); all_goals (go_ret; have h1 := H1.out; have h2 := H2.out; have h3 := H3.out; have h4 := H4.out; have hF := HF.out; exact ⟨ret_int (by grind [Cd.right]), by first | exact X3.drewN _ | exact (X3.drewN _).trans hX5 | exact X2.drewN _ | exact (X2.drewN _).drewN _ | exact (X2.drewN _).trans hX5 | exact ((X2.drewN _).drewN _).trans hX5⟩))

end Go.Proofs.Ytfcbedkidjclhaa
