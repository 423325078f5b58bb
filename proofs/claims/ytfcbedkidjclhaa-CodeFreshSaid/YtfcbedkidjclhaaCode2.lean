/-
  The contracts of package code's functions on one instruction: uses, formed, immFits, right.
  No condition.
-/
import Derived.Test.YtfcbedkidjclhaaCode1
namespace Go.Proofs.Ytfcbedkidjclhaa
open Go.RowKit
set_option maxRecDepth 100000
set_option linter.unusedSimpArgs false
set_option linter.unusedVariables false

/-- an instruction's cells -/
def insC (i : Cd.Ins) : Array Value := #[.int .i64 i.op, .bool i.narrow, .bool i.reg, .int .i64 i.size, .int .i64 i.dst, .int .i64 i.src, .int .i64 i.off, .int .i64 i.imm]

theorem wp_box64 {c : Code} {Q : Exit → Act → World → Prop} {a : Act} {w : World} {cs : Array Value} (h : ∀ W, Ext w W → Blk W w.heap.size 64 cs → Code.wp Try.prog c Q a W) : Code.wp Try.prog c Q a (w.alloc (.cells cs 64)) := h _ (Ext.new _ _) (Blk.new _ _ _)

set_option maxHeartbeats 1000000 in
theorem immFits_any (op : Int) (nr rg : Bool) (sz ds sr of im : Int) (w : World) : Calls Try.prog 127 #[.agg #[.int .i64 op, .bool nr, .bool rg, .int .i64 sz, .int .i64 ds, .int .i64 sr, .int .i64 of, .int .i64 im]] w fun e w' => e = .returned (.bool (Cd.immFits ⟨op, nr, rg, sz, ds, sr, of, im⟩)) ∧ Ext w w' := by
  go_enter Try.func127, Try.ntmps127
  go_upto_region 1 with (fail)
  refine wp_box64 ?_
  intro W hX hP
  obtain ⟨p0, p1, p2, p3, p4, p5, p6, p7⟩ := hP.c8
  go_wp2_with (go_at_call 149; (with_reducible refine (atomic_any _ _).mono ?_); rintro e v ⟨rfl, rfl⟩)
  all_goals go_ret
  all_goals exact ⟨ret_bool (by grind [Cd.immFits]), hX⟩

set_option maxHeartbeats 2000000 in
theorem formed_any (op : Int) (nr rg : Bool) (sz ds sr of im : Int) (w : World) : Calls Try.prog 128 #[.agg #[.int .i64 op, .bool nr, .bool rg, .int .i64 sz, .int .i64 ds, .int .i64 sr, .int .i64 of, .int .i64 im]] w fun e w' => e = .returned (.bool (Cd.formed ⟨op, nr, rg, sz, ds, sr, of, im⟩)) ∧ Ext w w' := by
  go_enter Try.func128, Try.ntmps128
  go_upto_region 1 with (fail)
  refine wp_box64 ?_
  intro W hX hP
  obtain ⟨p0, p1, p2, p3, p4, p5, p6, p7⟩ := hP.c8
  go_wp2_with (go_at_call 148; (with_reducible refine (second_any _ _).mono ?_); rintro e v ⟨rfl, rfl⟩)
  all_goals go_ret
  all_goals exact ⟨ret_bool (by grind [Cd.formed, Cd.fsize, Cd.fnarrow]), hX⟩

theorem results_tmp4 {fn : Func} {t u v x : Tmp} (h : fn.results = #[.tmp t, .tmp u, .tmp v, .tmp x]) (tmps : Array Value) (P : Program) (w : World) :
    (results fn tmps).run P w = .ok (.tuple #[tmps.getD t undef, tmps.getD u undef, tmps.getD v undef, tmps.getD x undef]) w := by
  simp [results, h]
theorem ret_four {a b c d a' b' c' d' : Bool} (h1 : a = a') (h2 : b = b') (h3 : c = c') (h4 : d = d') : Ending.returned (.tuple #[.bool a, .bool b, .bool c, .bool d]) = .returned (.tuple #[.bool a', .bool b', .bool c', .bool d']) := by rw [h1, h2, h3, h4]

set_option maxHeartbeats 2000000 in
theorem uses_any (op : Int) (nr rg : Bool) (sz ds sr of im : Int) (w : World) : Calls Try.prog 122 #[.agg #[.int .i64 op, .bool nr, .bool rg, .int .i64 sz, .int .i64 ds, .int .i64 sr, .int .i64 of, .int .i64 im]] w fun e w' =>
    e = .returned (.tuple #[.bool (Cd.usesDst ⟨op, nr, rg, sz, ds, sr, of, im⟩), .bool (Cd.usesSrc ⟨op, nr, rg, sz, ds, sr, of, im⟩), .bool (Cd.usesOff ⟨op, nr, rg, sz, ds, sr, of, im⟩), .bool (Cd.usesImm ⟨op, nr, rg, sz, ds, sr, of, im⟩)]) ∧ Ext w w' := by
  go_enter Try.func122, Try.ntmps122
  go_upto_region 1 with (fail)
  refine wp_box64 ?_
  intro W hX hP
  obtain ⟨p0, p1, p2, p3, p4, p5, p6, p7⟩ := hP.c8
  go_wp2_with (go_at_call 148; (with_reducible refine (second_any _ _).mono ?_); rintro e v ⟨rfl, rfl⟩)
  all_goals ((try simp only [Exit.inBlock, Exit.then]); refine bodyPost_ret (results_tmp4 rfl _ _ _) rfl ?_)
  all_goals exact ⟨ret_four (by grind [Cd.usesDst]) (by grind [Cd.usesSrc, Cd.memory]) (by grind [Cd.usesOff, Cd.memory, Cd.jump]) (by grind [Cd.usesImm]), hX⟩

end Go.Proofs.Ytfcbedkidjclhaa
