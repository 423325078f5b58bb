/-
  The document's answer for package code: rows as cells; the contracts of fetches, atom, good, regs.
  No condition.
-/
import Derived.Test.YtfcbedkidjclhaaCode9
import Derived.Test.YtfcbedkidjclhaaRefM
namespace Go.Proofs.Ytfcbedkidjclhaa
open Go.RowKit
set_option maxRecDepth 100000
set_option linter.unusedSimpArgs false
set_option linter.unusedVariables false

/-- a row's cells -/
def rowC (y : Rf.Row) : Array Value := #[.int .i64 y.code, .int .i64 y.op, .int .i64 y.size, .bool y.narrow, .bool y.reg, .int .i64 y.dst, .int .i64 y.src, .int .i64 y.off, .int .i64 y.imm, .int .i64 y.second, .bool y.writes]
def rv (l : List Rf.Row) : List Value := l.flatMap fun y => (rowC y).toList
theorem rv_length (l : List Rf.Row) : (rv l).length = l.length * 11 := by
  induction l with
  | nil => rfl
  | cons a l ih => simp only [rv, List.flatMap_cons, List.length_append, List.length_cons] at ih ⊢; rw [ih]; show 11 + _ = _; omega
theorem rv_append (a b : List Rf.Row) : rv (a ++ b) = rv a ++ rv b := by simp [rv]
theorem rv_get : ∀ (l : List Rf.Row) (k j : Nat) (h : k < l.length), j < 11 → (rv l)[k * 11 + j]? = (rowC l[k])[j]?
  | [], k, j, h, _ => by simp at h
  | a :: l, 0, j, _, hj => by
    have e : rv (a :: l) = (rowC a).toList ++ rv l := rfl
    rw [e, List.getElem?_append_left (by show _ < 11; omega)]
    simp
  | a :: l, k + 1, j, h, hj => by
    have e : rv (a :: l) = (rowC a).toList ++ rv l := rfl
    rw [e, List.getElem?_append_right (by show 11 ≤ _; omega)]
    have := rv_get l k j (by simpa using h) hj
    rw [show (k + 1) * 11 + j - (rowC a).toList.length = k * 11 + j by show _ - 11 = _; omega, this]
    simp
/-- the cells of one row of a list -/
theorem row_cells {w : World} {b o k : Nat} {l : List Rf.Row} (hc : ∀ j u, (rv l)[j]? = some u → w.cell? ⟨b, o + j, none⟩ = some u) (h : k < l.length) :
    w.cell? ⟨b, o + k * 11, none⟩ = some (.int .i64 l[k].code) ∧ w.cell? ⟨b, o + k * 11 + 1, none⟩ = some (.int .i64 l[k].op) ∧ w.cell? ⟨b, o + k * 11 + 2, none⟩ = some (.int .i64 l[k].size) ∧ w.cell? ⟨b, o + k * 11 + 3, none⟩ = some (.bool l[k].narrow) ∧
    w.cell? ⟨b, o + k * 11 + 4, none⟩ = some (.bool l[k].reg) ∧ w.cell? ⟨b, o + k * 11 + 5, none⟩ = some (.int .i64 l[k].dst) ∧ w.cell? ⟨b, o + k * 11 + 6, none⟩ = some (.int .i64 l[k].src) ∧ w.cell? ⟨b, o + k * 11 + 7, none⟩ = some (.int .i64 l[k].off) ∧
    w.cell? ⟨b, o + k * 11 + 8, none⟩ = some (.int .i64 l[k].imm) ∧ w.cell? ⟨b, o + k * 11 + 9, none⟩ = some (.int .i64 l[k].second) ∧ w.cell? ⟨b, o + k * 11 + 10, none⟩ = some (.bool l[k].writes) := by
  refine ⟨hc _ _ (rv_get l k 0 h (by omega)), hc (k * 11 + 1) _ (rv_get l k 1 h (by omega)), hc (k * 11 + 2) _ (rv_get l k 2 h (by omega)), hc (k * 11 + 3) _ (rv_get l k 3 h (by omega)), hc (k * 11 + 4) _ (rv_get l k 4 h (by omega)), hc (k * 11 + 5) _ (rv_get l k 5 h (by omega)), hc (k * 11 + 6) _ (rv_get l k 6 h (by omega)), hc (k * 11 + 7) _ (rv_get l k 7 h (by omega)), hc (k * 11 + 8) _ (rv_get l k 8 h (by omega)), hc (k * 11 + 9) _ (rv_get l k 9 h (by omega)), hc (k * 11 + 10) _ (rv_get l k 10 h (by omega))⟩

theorem Blk.c11 {w : World} {g : Nat} {t : TypeId} {a b c d e f i j k l m : Value} (h : Blk w g t #[a, b, c, d, e, f, i, j, k, l, m]) : w.cell? ⟨g, 0, none⟩ = some a ∧ w.cell? ⟨g, 1, none⟩ = some b ∧ w.cell? ⟨g, 2, none⟩ = some c ∧ w.cell? ⟨g, 3, none⟩ = some d ∧ w.cell? ⟨g, 4, none⟩ = some e ∧ w.cell? ⟨g, 5, none⟩ = some f ∧ w.cell? ⟨g, 6, none⟩ = some i ∧ w.cell? ⟨g, 7, none⟩ = some j ∧ w.cell? ⟨g, 8, none⟩ = some k ∧ w.cell? ⟨g, 9, none⟩ = some l ∧ w.cell? ⟨g, 10, none⟩ = some m :=
  ⟨h.cell 0, h.cell 1, h.cell 2, h.cell 3, h.cell 4, h.cell 5, h.cell 6, h.cell 7, h.cell 8, h.cell 9, h.cell 10⟩

theorem wp_box134 {c : Code} {Q : Exit → Act → World → Prop} {a : Act} {w : World} {cs : Array Value} (h : ∀ W, Ext w W → Blk W w.heap.size 134 cs → Code.wp Try.prog c Q a W) : Code.wp Try.prog c Q a (w.alloc (.cells cs 134)) := h _ (Ext.new _ _) (Blk.new _ _ _)

/-! ### the arms: a whole row into its box, out of its box -/
theorem wl_store134 {ops : Array Oper} {rest : List Oper} {dst : Option Tmp} {ty : TypeId} {ps : String} {af : Array Edge} {a : Act} {w : World} {Q : Exit → Act → World → Prop} (x y : Operand)
    (g : Nat) (hx : a.eval x = .pointer (some ⟨g, 0, none⟩))
    (hy : ∃ (c op sz : Int) (n r : Bool) (d s f m e : Int) (wr : Bool), a.eval y = .agg #[.int .i64 c, .int .i64 op, .int .i64 sz, .bool n, .bool r, .int .i64 d, .int .i64 s, .int .i64 f, .int .i64 m, .int .i64 e, .bool wr])
    {old : Array Value} (hg : Blk w g 134 old) (hold : old.size = 11)
    (h : ∀ cells, a.eval y = .agg cells → wpList Try.prog ops Q rest (a.put dst undef) (w.setRow g cells)) : wpList Try.prog ops Q (⟨dst, .store 134 x y, ty, ps, af, none⟩ :: rest) a w := by
  obtain ⟨c, op, sz, n, r, d, s, f, m, e, wr, hy⟩ := hy
  exact wpList_store_row rfl 134 x y rfl g _ hx hy 134 old hg (by kernel_rfl) hold (by simp [Value.oneCell']) (h _ hy)
theorem wl_load134 {ops : Array Oper} {rest : List Oper} {dst : Option Tmp} {ty : TypeId} {ps : String} {af : Array Edge} {a : Act} {w : World} {Q : Exit → Act → World → Prop} (x : Operand)
    (g : Nat) (hx : a.eval x = .pointer (some ⟨g, 0, none⟩)) {cs : Array Value} (hg : Blk w g 134 cs) (hs : cs.size = 11)
    (h : wpList Try.prog ops Q rest (a.put dst (.agg cs)) w) : wpList Try.prog ops Q (⟨dst, .load 134 x, ty, ps, af, none⟩ :: rest) a w :=
  wpList_load_row rfl 134 x rfl g hx 134 cs (0, 0) _ hg Try.underlying134 rfl (by rw [hs]; kernel_rfl) h

theorem fetches_any (m : Int) (w : World) : Calls Try.prog 131 #[.int .i64 m] w fun e w' => e = .returned (.bool (Rf.fetches m)) ∧ w = w' := by
  go_enter Try.func131, Try.ntmps131
  go_wp2
  all_goals go_ret
  all_goals exact ⟨ret_bool (by grind [Rf.fetches]), rfl⟩
theorem atom_any (m : Int) (w : World) : Calls Try.prog 132 #[.int .i64 m] w fun e w' => e = .returned (.bool (Rf.atom m)) ∧ w = w' := by
  obtain ⟨b, hb⟩ : ∃ b, Rf.fetches m = b := ⟨_, rfl⟩
  have HB := hd hb
  cases b
  all_goals go_enter Try.func132, Try.ntmps132
  all_goals go_wp2_with (go_at_call 131; (with_reducible refine (fetches_any _ _).mono ?_); rw [HB.out]; rintro e v ⟨rfl, rfl⟩)
  all_goals go_ret
  all_goals exact ⟨ret_bool (by grind [Rf.atom]), rfl⟩

set_option maxHeartbeats 2000000 in
theorem good_any (y : Rf.Row) (m : Int) (w : World) : Calls Try.prog 90 #[.agg (rowC y), .int .i64 m] w fun e w' => e = .returned (.bool (Rf.good y m)) ∧ Ext w w' := by
  obtain ⟨co, op, sz, nr, rg, ds, sr, of, im, se, wr⟩ := y
  go_enter Try.func90, Try.ntmps90
  simp only [rowC]
  go_upto_region 1 with (fail)
  refine wp_box134 ?_
  intro W hX hP
  obtain ⟨p0, p1, p2, p3, p4, p5, p6, p7, p8, p9, p10⟩ := hP.c11
  go_wp2_with (go_at_call 132; (with_reducible refine (atom_any _ _).mono ?_); rintro e v ⟨rfl, rfl⟩)
  all_goals go_ret
  all_goals exact ⟨ret_bool (by grind [Rf.good]), hX⟩

set_option maxHeartbeats 2000000 in
theorem regs_any (y : Rf.Row) (d s m : Int) (w : World) : Calls Try.prog 89 #[.agg (rowC y), .int .i64 d, .int .i64 s, .int .i64 m] w fun e w' => e = .returned (.bool (Rf.regs y d s m)) ∧ Ext w w' := by
  obtain ⟨co, op, sz, nr, rg, ds, sr, of, im, se, wr⟩ := y
  obtain ⟨b, hb⟩ : ∃ b, Rf.fetches m = b := ⟨_, rfl⟩
  have HB := hd hb
  go_enter Try.func89, Try.ntmps89
  simp only [rowC]
  go_upto_region 1 with (fail)
  refine wp_box134 ?_
  intro W hX hP
  obtain ⟨p0, p1, p2, p3, p4, p5, p6, p7, p8, p9, p10⟩ := hP.c11
  go_wp2_with (go_at_call 131; (with_reducible refine (fetches_any _ _).mono ?_); rw [HB.out]; rintro e v ⟨rfl, rfl⟩)
  all_goals go_ret
  all_goals exact ⟨ret_bool (by grind [Rf.regs]), hX⟩

end Go.Proofs.Ytfcbedkidjclhaa
