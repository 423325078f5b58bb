/-
  One field of an instruction of a list that is lent is turned.
  No condition beyond those each statement names.
-/
import Derived.Test.YtfcbedkidjclhaaDoorLendI
namespace Go.Proofs.YtfcbedkidjclhaaDoor
open Go.RowKit
set_option maxRecDepth 100000
set_option linter.unusedSimpArgs false
set_option linter.unusedVariables false

theorem own_putS {w : World} {base n c g sz : Nat} {e : TypeId} {xs : List Value} (h : w.ownsRow base e sz (.slice (some ⟨g, 0, none⟩) n c) n xs) {j : Nat} (hn : 0 < n) (u : Value) :
    (w.setCell ⟨g, j, none⟩ u).ownsRow base e sz (.slice (some ⟨g, 0, none⟩) n c) n (xs.set j u) := by
  obtain ⟨hl, h2⟩ := h
  refine ⟨by rw [List.length_set]; exact hl, ?_⟩
  rcases h2 with ⟨h3, h0⟩ | ⟨g', cap, cur, hv, hb, hh, h4, h5, h6, h7⟩
  · injection h3 with h3; cases h3
  · injection hv with hv1 hv2 hv3
    injection hv1 with hv1
    injection hv1 with hv1
    subst hv1
    refine .inr ⟨g, cap, cur.setIfInBounds j u, by rw [hv3], hb, ?_, h4, h5, by simpa using h6, ?_⟩
    · simp [World.setCell, Array.getElem?_modify, hh]
    · rw [Array.toList_setIfInBounds, List.take_set, h7]

theorem cv_set : ∀ (l : List Cd.Ins) (k j : Nat) (h : k < l.length) (hj : j < 8) (x : Cd.Ins) (u : Value), (insC x).toList = (insC l[k]).toList.set j u → (cv l).set (k * 8 + j) u = cv (l.set k x)
  | [], k, j, h, _, _, _, _ => by simp at h
  | a :: l, 0, j, _, hj, x, u, hx => by
    have e : cv (a :: l) = (insC a).toList ++ cv l := rfl
    have e2 : cv ((a :: l).set 0 x) = (insC x).toList ++ cv l := rfl
    rw [e, e2, hx, List.set_append_left _ _ (by rw [insC_size]; omega)]
    simp
  | a :: l, k + 1, j, h, hj, x, u, hx => by
    have e : cv (a :: l) = (insC a).toList ++ cv l := rfl
    have e2 : cv ((a :: l).set (k + 1) x) = (insC a).toList ++ cv (l.set k x) := rfl
    rw [e, e2, List.set_append_right _ _ (by rw [insC_size]; omega), insC_size, show (k + 1) * 8 + j - 8 = k * 8 + j by omega, cv_set l k j (by simpa using h) hj x u (by simpa using hx)]

theorem LentI.put {w : World} {base g n c : Nat} {l : List Cd.Ins} (h : LentI w base g n c l) {k j : Nat} (hk : k < l.length) (hj : j < 8) (x : Cd.Ins) (u : Value) (hx : (insC x).toList = (insC l[k]).toList.set j u) :
    LentI (w.setCell ⟨g, k * 8 + j, none⟩ u) base g n c (l.set k x) := by
  refine ⟨?_, by rw [List.length_set]; exact h.len⟩
  have h1 := own_putS h.own (j := k * 8 + j) (by omega) u
  rw [cv_set (l ++ [mkI, mkI]) k j (by simp; omega) hj x u (by rw [hx, List.getElem_append_left hk]), List.set_append_left _ _ hk] at h1
  exact h1
/-- the cells of one of them -/
theorem LentI.cells {w : World} {base g n c : Nat} {l : List Cd.Ins} (h : LentI w base g n c l) {k : Nat} (hk : k < l.length) :
    w.cell? ⟨g, k * 8, none⟩ = some (.int .i64 l[k].op) ∧ w.cell? ⟨g, k * 8 + 1, none⟩ = some (.bool l[k].narrow) ∧ w.cell? ⟨g, k * 8 + 2, none⟩ = some (.bool l[k].reg) ∧ w.cell? ⟨g, k * 8 + 3, none⟩ = some (.int .i64 l[k].size) ∧
    w.cell? ⟨g, k * 8 + 4, none⟩ = some (.int .i64 l[k].dst) ∧ w.cell? ⟨g, k * 8 + 5, none⟩ = some (.int .i64 l[k].src) ∧ w.cell? ⟨g, k * 8 + 6, none⟩ = some (.int .i64 l[k].off) ∧ w.cell? ⟨g, k * 8 + 7, none⟩ = some (.int .i64 l[k].imm) := by
  have hl := h.len
  obtain ⟨b, o, he, hc⟩ := h.rd.form (by omega) (by omega)
  injection he with he
  injection he with he1 he2
  subst he1
  subst he2
  have := ins_cells hc hk
  simpa only [Nat.zero_add] using this

end Go.Proofs.YtfcbedkidjclhaaDoor
