/-
  The contracts of the statements' lend and held: instructions in new memory, two marks behind them.
  Conditions: the instructions can be read, no more than may be handed in; the package variable holds the mark.
-/
import Derived.Test.YtfcbedkidjclhaaDoorKeep
import Derived.Test.YtfcbedkidjclhaaDoorCode17
import Derived.Test.YtfcbedkidjclhaaDoorPsize
namespace Go.Proofs.YtfcbedkidjclhaaDoor
open Go.RowKit
set_option maxRecDepth 100000
set_option linter.unusedSimpArgs false
set_option linter.unusedVariables false

/-- the mark -/
def mkI : Cd.Ins := ⟨-77, false, false, -77, -77, -77, -77, -77⟩
/-- the package variable holds it -/
structure MarkAt (w : World) : Prop where
  m0 : w.cell? ⟨0, 0, none⟩ = some (.int .i64 (-77))
  m1 : w.cell? ⟨0, 1, none⟩ = some (.bool false)
  m2 : w.cell? ⟨0, 2, none⟩ = some (.bool false)
  m3 : w.cell? ⟨0, 3, none⟩ = some (.int .i64 (-77))
  m4 : w.cell? ⟨0, 4, none⟩ = some (.int .i64 (-77))
  m5 : w.cell? ⟨0, 5, none⟩ = some (.int .i64 (-77))
  m6 : w.cell? ⟨0, 6, none⟩ = some (.int .i64 (-77))
  m7 : w.cell? ⟨0, 7, none⟩ = some (.int .i64 (-77))
theorem MarkAt.ext {w w' : World} (h : MarkAt w) (k : Ext w w') : MarkAt w' := ⟨k.cell h.m0, k.cell h.m1, k.cell h.m2, k.cell h.m3, k.cell h.m4, k.cell h.m5, k.cell h.m6, k.cell h.m7⟩

theorem cv_oneI (l : List Cd.Ins) : ∀ u ∈ cv l, u.oneCell' = true := by
  intro u hu
  obtain ⟨i, _, h⟩ := List.mem_flatMap.1 hu
  exact insC_one i u h
theorem own_someI {w : World} {base n : Nat} {e : TypeId} {sz : Nat} {v : Value} {xs : List Value} (h : w.ownsRow base e sz v n xs) (hn : 0 < n) : ∃ g c, v = .slice (some ⟨g, 0, none⟩) n c ∧ n ≤ c ∧ base ≤ g := by
  rcases h.2 with ⟨h1, h0⟩ | ⟨g, cap, cur, hv, h2, h3, h4, _⟩
  · omega
  · exact ⟨g, cap, hv, h4, h2⟩
theorem slice_toI (g n m c : Nat) (hm : m ≤ c) (v : World) :
    Sem.run Tryd.prog (Instr.slice 22 (.slice (some ⟨g, 0, none⟩) n c) none (some (.int .i64 (m : Int))) none) v = .ok (.slice (some ⟨g, 0, none⟩) m c) v := by
  have h1 : (m : Int) ≤ (c : Int) := by omega
  simp [go_sem, Tryd.underlying22, h1]

/-- instructions that are lent: where, how many, the row's capacity -/
structure LentI (w : World) (base g n c : Nat) (l : List Cd.Ins) : Prop where
  own : w.ownsRow base 35 8 (.slice (some ⟨g, 0, none⟩) (n + 2) c) (n + 2) (cv (l ++ [mkI, mkI]))
  len : l.length = n
section
variable {w w' : World} {base g n c : Nat} {l : List Cd.Ins}
theorem LentI.rd (h : LentI w base g n c l) : Rd w 8 (some ⟨g, 0, none⟩) n (cv l) := by
  have h1 := (Rd.of_own h.own).take (k := n) (by omega)
  have hl := h.len
  rwa [cv_append, List.take_left' (by rw [cv_length, hl])] at h1
theorem LentI.cap (h : LentI w base g n c l) : n + 2 ≤ c := by
  obtain ⟨g', c', e, h1, _⟩ := own_someI h.own (by omega)
  injection e with _ _ e
  omega
theorem LentI.ge (h : LentI w base g n c l) : base ≤ g := by
  obtain ⟨g', c', e, h1, h2⟩ := own_someI h.own (by omega)
  injection e with e
  injection e with e
  injection e with e
  omega
theorem LentI.lt (h : LentI w base g n c l) : g < w.heap.size := (h.own.lt g rfl).2
theorem LentI.ext (h : LentI w base g n c l) (k : Ext w w') : LentI w' base g n c l := ⟨k.own h.own, h.len⟩
theorem LentI.free (h : LentI w base g n c l) (j : Nat) : w.frozen? ⟨g, j, none⟩ = false := by
  rcases h.own.2 with ⟨_, h0⟩ | ⟨g', cap, cur, hv, _, hh, _⟩
  · omega
  · injection hv with hv
    injection hv with hv
    injection hv with hv
    subst hv
    exact Blk.free (t := 35) hh j
end

set_option maxHeartbeats 2000000 in
theorem lend_any (A : Option Addr) (n c : Nat) (l : List Cd.Ins) (w : World) (hM : MarkAt w) (hR : Rd w 8 A n (cv l)) (hn : n * 56 ≤ 140737488355328) :
    Calls Tryd.prog 7 #[.slice A n c] w fun e w' => ∃ g d, e = .returned (.slice (some ⟨g, 0, none⟩) n d) ∧ LentI w' w.heap.size g n d l ∧ Ext w w' := by
  have hl : l.length = n := by have := hR.1; rw [cv_length] at this; omega
  obtain ⟨i0, hi0, hz0, hz1, hz2⟩ := info_parts info64
  go_enter Tryd.func7, Tryd.ntmps7
  go_upto_region 2 with (refine wl_appendK (.tmp 4) (.tmp 5) 22 w.heap.size 35 i0 _ 8 56 Tryd.underlying22 hi0 hz0 hz1 hz2 rfl (by omega) _ 0 [] rfl (own_emptyK w 35 8) A n c (cv l) rfl (hR.alloc _) (cv_oneI _) (by omega) (by omega) (by simp) ?_; intro v1 w1 own1 hg1)
  have hE1 : Ext w w1 := (Ext.new w _).grown_own (own_emptyK w 35 8) hg1 (Nat.le_refl _)
  rw [Nat.zero_add, List.nil_append] at own1
  clear hg1
  obtain ⟨m0, m1, m2, m3, m4, m5, m6, m7⟩ := hM.ext hE1
  go_upto_region 3 with (refine wl_appendK (.tmp 7) (.tmp 10) 22 w.heap.size 35 i0 _ 8 56 Tryd.underlying22 hi0 hz0 hz1 hz2 rfl (by omega) v1 n _ rfl ((Ext.new w1 _).own own1) _ 2 2 (cv [mkI, mkI]) rfl (Rd.of_blk (Blk.new w1 35 _) rfl) (cv_oneI _) (by omega) (by omega) (by have := hE1.size; simp; omega) ?_; intro v2 w2 own2 hg2)
  have hE2 : Ext w w2 := (hE1.alloc _).grown_own ((Ext.new w1 _).own own1) hg2 (Nat.le_refl _)
  rw [← cv_append] at own2
  obtain ⟨g, d, rfl, hd1, -⟩ := own_someI own2 (by omega)
  clear hg2
  have hsl := slice_toI g (n + 2) n d (by omega) w2
  go_wp2
  go_ret
  exact ⟨g, d, rfl, ⟨own2, hl⟩, hE2⟩

theorem eqlI (w : World) : (binOp .eql 35 (.agg #[.int .i64 (-77), .bool false, .bool false, .int .i64 (-77), .int .i64 (-77), .int .i64 (-77), .int .i64 (-77), .int .i64 (-77)]) (.agg #[.int .i64 (-77), .bool false, .bool false, .int .i64 (-77), .int .i64 (-77), .int .i64 (-77), .int .i64 (-77), .int .i64 (-77)])).run Tryd.prog w = .ok (.bool true) w := by
  have hp : Tryd.prog.stoodInHeld 35 = false := by kernel_rfl
  simp [go_sem, Tryd.underlying35, Tryd.underlying3, Tryd.underlying4, hp]

set_option maxHeartbeats 2000000 in
theorem held_any (base g n c : Nat) (l : List Cd.Ins) (w : World) (h : LentI w base g n c l) (hM : MarkAt w) (hn : n * 56 ≤ 140737488355328) :
    Calls Tryd.prog 12 #[.slice (some ⟨g, 0, none⟩) n c] w fun e w' => e = .returned (.bool true) ∧ Ext w w' := by
  have hl := h.len
  obtain ⟨b, o, he, hc⟩ := (Rd.of_own h.own).form (by omega) (by omega)
  injection he with he
  injection he with he1 he2
  subst he1
  subst he2
  have hcap := h.cap
  have hN0 : n < (l ++ [mkI, mkI]).length := by simp; omega
  have hN1 : n + 1 < (l ++ [mkI, mkI]).length := by simp; omega
  have e0 : (l ++ [mkI, mkI])[n] = mkI := by rw [List.getElem_append_right (by omega)]; simp [hl]
  have e1 : (l ++ [mkI, mkI])[n + 1] = mkI := by rw [List.getElem_append_right (by omega)]; simp [hl]
  obtain ⟨p0, p1, p2, p3, p4, p5, p6, p7⟩ := ins_cells hc hN0
  obtain ⟨q0, q1, q2, q3, q4, q5, q6, q7⟩ := ins_cells hc hN1
  rw [e0] at p0 p1 p2 p3 p4 p5 p6 p7
  rw [e1] at q0 q1 q2 q3 q4 q5 q6 q7
  simp only [mkI, Nat.zero_add] at p0 p1 p2 p3 p4 p5 p6 p7 q0 q1 q2 q3 q4 q5 q6 q7
  clear hc e0 e1 hN0 hN1 hl h
  obtain ⟨m0, m1, m2, m3, m4, m5, m6, m7⟩ := hM
  have hsl := slice_toI g n (n + 2) c hcap w
  have hq := eqlI
  go_enter Tryd.func12, Tryd.ntmps12
  go_upto_region 2 with (fail)
  go_quiet (fail)
  go_wp2
  go_ret
  exact ⟨rfl, (Ext.refl w).drewN _⟩

end Go.Proofs.YtfcbedkidjclhaaDoor
