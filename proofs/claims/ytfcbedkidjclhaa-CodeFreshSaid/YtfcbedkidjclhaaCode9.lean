/-
  The contracts of package code's swapped, memory; laws on low bits of an opcode; whole rows stored.
  Conditions: the opcode is a byte.
-/
import Derived.Test.YtfcbedkidjclhaaCode2
namespace Go.Proofs.Ytfcbedkidjclhaa
open Go.RowKit
set_option maxRecDepth 100000
set_option linter.unusedSimpArgs false
set_option linter.unusedVariables false

theorem and7 (c : Nat) (h : c < 256) : bits .and .i64 (c : Int) 7 = ((c % 8 : Nat) : Int) := by
  have := int_and c 7 (by omega) (by omega)
  have e : c &&& 7 = c % 8 := Nat.and_two_pow_sub_one_eq_mod c 3
  rw [e] at this
  exact this
theorem and8_nat : ∀ c, c < 256 → c &&& 8 = c / 8 % 2 * 8 := by decide +kernel
theorem and8 (c : Nat) (h : c < 256) : bits .and .i64 (c : Int) 8 = ((c / 8 % 2 * 8 : Nat) : Int) := by
  have := int_and c 8 (by omega) (by omega)
  rw [and8_nat c h] at this
  exact this

/-! ### whole rows -/
theorem Blk.row {w : World} {g : Nat} {t : TypeId} {cs : Array Value} (h : Blk w g t cs) (cs' : Array Value) : Blk (w.setRow g cs') g t cs' := setRow_heap w g cs cs' t _ h
theorem heap_setRow_far (w : World) (g : Nat) (cs : Array Value) (i : Nat) (h : i ≠ g) : (w.setRow g cs).heap[i]? = w.heap[i]? := by
  simp only [World.setRow]
  rw [Array.getElem?_modify, if_neg (Ne.symm h)]
theorem Blk.row_far {w : World} {g g' : Nat} {t : TypeId} {cs : Array Value} (h : Blk w g t cs) (hne : g ≠ g') (cs' : Array Value) : Blk (w.setRow g' cs') g t cs := (heap_setRow_far w g' cs' g hne).trans h
theorem Ext.row {w0 w : World} (h : Ext w0 w) {g : Nat} (hg : w0.heap.size ≤ g) (cs : Array Value) : Ext w0 (w.setRow g cs) :=
  ⟨Below.os (w' := w) h, Below.tape (w' := w) h, Below.output (w' := w) h, by rw [setRow_size]; exact h.size, fun i hi => (heap_setRow_far w g cs i (by omega)).trans (Below.block h i hi)⟩

theorem results_cell_slot {P : Program} {fn : Func} {p q : Tmp} {ty : TypeId} (h : fn.results = #[.cell p ty, .tmp q]) (tmps : Array Value) (w : World) (g : Nat) (t : TypeId) (cs : Array Value) (d : TypeDesc)
    (hp : tmps.getD p undef = .pointer (some ⟨g, 0, none⟩)) (hg : Blk w g t cs)
    (hu : P.underlying ty = some d) (hd : (match d with | .struct _ | .array _ _ => true | _ => false) = true) (hi : (P.info? ty).map (·.size) = some cs.size) :
    (results fn tmps).run P w = .ok (.tuple #[.agg cs, tmps.getD q undef]) w := by
  have hp' : tmps[p]?.getD undef = .pointer (some ⟨g, 0, none⟩) := by simpa using hp
  simp [results, h, hp', asAddr, run_loadVar_row w g t ty cs (0, 0) d hg hu hd hi]

/-- what operation, swapped, memory answer -/
def OpPost (x : Cd.Ins × Bool) (w : World) (e : Ending) (w' : World) : Prop := e = .returned (.tuple #[.agg (insC x.1), .bool x.2]) ∧ Ext w w'

/-! ### the arms: a whole value into its box, out of its box (the operation written out: where another stands the arm falls at once) -/
theorem wl_store64 {ops : Array Oper} {rest : List Oper} {dst : Option Tmp} {ty : TypeId} {ps : String} {af : Array Edge} {a : Act} {w : World} {Q : Exit → Act → World → Prop} (x y : Operand)
    (g : Nat) (hx : a.eval x = .pointer (some ⟨g, 0, none⟩))
    (hy : ∃ (op : Int) (n r : Bool) (sz d s f m : Int), a.eval y = .agg #[.int .i64 op, .bool n, .bool r, .int .i64 sz, .int .i64 d, .int .i64 s, .int .i64 f, .int .i64 m])
    {old : Array Value} (hg : Blk w g 64 old) (hold : old.size = 8)
    (h : ∀ cells, a.eval y = .agg cells → wpList Try.prog ops Q rest (a.put dst undef) (w.setRow g cells)) : wpList Try.prog ops Q (⟨dst, .store 64 x y, ty, ps, af, none⟩ :: rest) a w := by
  obtain ⟨op, n, r, sz, d, s, f, m, hy⟩ := hy
  exact wpList_store_row rfl 64 x y rfl g _ hx hy 64 old hg (by kernel_rfl) hold (by simp [Value.oneCell']) (h _ hy)
theorem wl_store161 {ops : Array Oper} {rest : List Oper} {dst : Option Tmp} {ty : TypeId} {ps : String} {af : Array Edge} {a : Act} {w : World} {Q : Exit → Act → World → Prop} (x y : Operand)
    (g : Nat) (hx : a.eval x = .pointer (some ⟨g, 0, none⟩))
    (hy : ∃ (op d s f m : Int), a.eval y = .agg #[.int .i64 op, .int .i64 d, .int .i64 s, .int .i64 f, .int .i64 m])
    {old : Array Value} (hg : Blk w g 161 old) (hold : old.size = 5)
    (h : ∀ cells, a.eval y = .agg cells → wpList Try.prog ops Q rest (a.put dst undef) (w.setRow g cells)) : wpList Try.prog ops Q (⟨dst, .store 161 x y, ty, ps, af, none⟩ :: rest) a w := by
  obtain ⟨op, d, s, f, m, hy⟩ := hy
  exact wpList_store_row rfl 161 x y rfl g _ hx hy 161 old hg (by kernel_rfl) hold (by simp [Value.oneCell']) (h _ hy)
theorem wl_load64 {ops : Array Oper} {rest : List Oper} {dst : Option Tmp} {ty : TypeId} {ps : String} {af : Array Edge} {a : Act} {w : World} {Q : Exit → Act → World → Prop} (x : Operand)
    (g : Nat) (hx : a.eval x = .pointer (some ⟨g, 0, none⟩)) {cs : Array Value} (hg : Blk w g 64 cs) (hs : cs.size = 8)
    (h : wpList Try.prog ops Q rest (a.put dst (.agg cs)) w) : wpList Try.prog ops Q (⟨dst, .load 64 x, ty, ps, af, none⟩ :: rest) a w :=
  wpList_load_row rfl 64 x rfl g hx 64 cs (0, 0) _ hg Try.underlying64 rfl (by rw [hs]; kernel_rfl) h
theorem wl_load161 {ops : Array Oper} {rest : List Oper} {dst : Option Tmp} {ty : TypeId} {ps : String} {af : Array Edge} {a : Act} {w : World} {Q : Exit → Act → World → Prop} (x : Operand)
    (g : Nat) (hx : a.eval x = .pointer (some ⟨g, 0, none⟩)) {cs : Array Value} (hg : Blk w g 161 cs) (hs : cs.size = 5)
    (h : wpList Try.prog ops Q rest (a.put dst (.agg cs)) w) : wpList Try.prog ops Q (⟨dst, .load 161 x, ty, ps, af, none⟩ :: rest) a w :=
  wpList_load_row rfl 161 x rfl g hx 161 cs (0, 0) _ hg Try.underlying161 rfl (by rw [hs]; kernel_rfl) h

theorem op_leaf {x : Cd.Ins × Bool} {op sz d s f m : Int} {n r b : Bool} (h : x = (⟨op, n, r, sz, d, s, f, m⟩, b)) :
    Ending.returned (.tuple #[.agg #[.int .i64 op, .bool n, .bool r, .int .i64 sz, .int .i64 d, .int .i64 s, .int .i64 f, .int .i64 m], .bool b]) = .returned (.tuple #[.agg (insC x.1), .bool x.2]) := by subst h; rfl

set_option maxHeartbeats 4000000 in
theorem swapped_any (c : Nat) (hc : c < 256) (w : World) : Calls Try.prog 146 #[.int .i64 c] w (OpPost (Cd.swapped c) w) := by
  have h7 := and7 c hc
  have h8 := and8 c hc
  go_enter Try.func146, Try.ntmps146
  go_upto_region 1 with (fail)
  refine wp_box64 ?_
  intro W hX hP
  go_wp2_with ((with_reducible refine wl_store64 _ _ _ ?_ ?_ hP ?_ ?_); exact rfl; exact ⟨_, _, _, _, _, _, _, _, rfl⟩; exact rfl; intro cells hcells; obtain rfl := Value.agg.inj hcells; clear hcells)
  all_goals refine bodyPost_ret (results_cell_slot rfl _ _ w.heap.size 64 _ _ rfl (hP.row _) Try.underlying64 rfl (by kernel_rfl)) rfl ⟨op_leaf ?_, hX.row (Nat.le_refl _) _⟩
  all_goals (simp only [Cd.swapped, Cd.I0]; clear hP hX h7 h8; have e8 : ((c : Int) / 8 % 2 * 8 == 0) = decide (c / 8 % 2 = 0) := by (rw [Bool.eq_iff_iff]; simp; omega))
  all_goals grind

theorem shr5 (c : Nat) : (c : Int) >>> (5 : Nat) = ((c / 32 : Nat) : Int) := by
  show ((c >>> 5 : Nat) : Int) = _
  rw [Nat.shiftRight_eq_div_pow]

set_option maxHeartbeats 4000000 in
theorem memory_any (c : Nat) (hc : c < 256) (sz : Int) (w : World) : Calls Try.prog 147 #[.int .i64 c, .int .i64 sz] w (OpPost (Cd.mem c sz) w) := by
  have h7 := and7 c hc
  go_enter Try.func147, Try.ntmps147
  go_upto_region 1 with (fail)
  refine wp_box64 ?_
  intro W hX hP
  go_wp2_with ((with_reducible refine wl_store64 _ _ _ ?_ ?_ hP ?_ ?_); exact rfl; exact ⟨_, _, _, _, _, _, _, _, rfl⟩; exact rfl; intro cells hcells; obtain rfl := Value.agg.inj hcells; clear hcells)
  all_goals refine bodyPost_ret (results_cell_slot rfl _ _ w.heap.size 64 _ _ rfl (hP.row _) Try.underlying64 rfl (by kernel_rfl)) rfl ⟨op_leaf ?_, hX.row (Nat.le_refl _) _⟩
  all_goals (simp only [Cd.mem, Cd.I0]; clear hP hX h7)
  all_goals grind

end Go.Proofs.Ytfcbedkidjclhaa
