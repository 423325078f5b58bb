/-
  The contracts of the statements' own copies and comparisons of programs, and of slices.Clone.
  Conditions: each slice reads as a list and takes no more than 2^47 bytes.
  The contracts of package pack's Check and Of.
  Conditions: each slice reads as a list and takes no more than 2^47 bytes.
  The contracts of the document's Sizes, beyond, Units.
  Conditions: the lists can be read, no more than may be handed in.
  The contracts of the document's Check and Of of a program.
  Conditions: each slice reads as a list and takes no more than 2^47 bytes.
-/
import Derived.Test.YtfcbedkidjclhaaCode16
import Derived.Test.YtfcbedkidjclhaaCode8
import Derived.Test.YtfcbedkidjclhaaCode7
import Derived.Test.YtfcbedkidjclhaaDec6
import Derived.Test.YtfcbedkidjclhaaProgM
import Derived.Test.YtfcbedkidjclhaaPack2
import Derived.Test.YtfcbedkidjclhaaKeep
import Derived.Test.YtfcbedkidjclhaaCode6
import Derived.Test.YtfcbedkidjclhaaRefL
namespace Go.Proofs.Ytfcbedkidjclhaa
open Go.RowKit
set_option maxRecDepth 100000
set_option linter.unusedSimpArgs false
set_option linter.unusedVariables false

theorem cv_oneP (l : List Cd.Ins) : ∀ u ∈ cv l, u.oneCell' = true := by
  intro u hu
  simp only [cv, List.mem_flatMap] at hu
  obtain ⟨y, _, hy⟩ := hu
  simp [insC] at hy
  rcases hy with rfl | rfl | rfl | rfl | rfl | rfl | rfl | rfl <;> rfl
theorem own_emptyP (w : World) (e : TypeId) (sz : Nat) : (w.alloc (.cells #[] e)).ownsRow w.heap.size e sz (.slice (some ⟨w.heap.size, 0, none⟩) 0 0) 0 [] :=
  ⟨by simp, .inr ⟨w.heap.size, 0, #[], rfl, Nat.le_refl _, Blk.new _ _ _, Nat.le_refl _, Nat.zero_le _, by simp, by simp⟩⟩
theorem decode_lenP {bs : List UInt8} {l : List Cd.Ins} {p : Nat} {e : Int} (h : Cd.decode bs = (l, p, e)) : l.length ≤ 4096 := by
  by_cases he : e = 0
  · subst he; exact (Cd.decode_ok h).2.2.2.2
  · rw [(Cd.decode_bad h he).1]; simp

set_option maxHeartbeats 400000 in
theorem CopyCode_any (A : Option Addr) (n c : Nat) (l : List Cd.Ins) (w : World) (h : Rd w 8 A n (cv l)) (hn : n * 56 ≤ 140737488355328) :
    Calls Try.prog 68 #[.slice A n c] w fun e w' => ∃ A' c', e = .returned (.slice A' n c') ∧ w'.ownsRow w.heap.size 64 8 (.slice A' n c') n (cv l) ∧ Ext w w' := by
  obtain ⟨i0, hi0, hz0, hz1, hz2⟩ := info_parts info64
  go_enter Try.func68, Try.ntmps68
  go_wp2_with (at_builtin; refine wpList_app _ rfl _ _ 57 rfl w.heap.size 64 i0 _ 8 56 Try.underlying57 hi0 hz0 hz1 hz2 rfl (by omega) (.slice none 0 0) 0 [] rfl (World.ownsRow_nil _ _ _ _) A n c _ rfl h (cv_oneP _) (by omega) (by omega) (Nat.le_refl _) ?_; intro v1 w1 hown1 hg1 hat1)
  go_ret
  obtain ⟨A', c', rfl, _⟩ := own_form hown1
  simp only [Nat.zero_add, List.nil_append] at hown1 ⊢
  exact ⟨A', c', rfl, hown1, (Ext.refl _).grown hg1 (by simp [Value.ownBlock])⟩

set_option maxHeartbeats 1000000 in
theorem CopyProgram_any (lo hi : Int) (A1 A2 A3 : Option Addr) (n1 n2 n3 c1 c2 c3 : Nat) (data : List UInt8) (code : List Cd.Ins) (ts : List (Int × Int)) (w : World)
    (h1 : Rd w 1 A1 n1 (bv data)) (h2 : Rd w 2 A2 n2 (tv ts)) (h3 : Rd w 8 A3 n3 (cv code))
    (hn1 : n1 ≤ 140737488355328) (hn2 : n2 * 16 ≤ 140737488355328) (hn3 : n3 * 56 ≤ 140737488355328) :
    Calls Try.prog 64 #[.agg #[.int .i64 lo, .int .i64 hi, .slice A1 n1 c1, .slice A2 n2 c2, .slice A3 n3 c3]] w fun e w' =>
      ∃ B1 B2 B3 d1 d2 d3, e = .returned (.agg #[.int .i64 lo, .int .i64 hi, .slice B1 n1 d1, .slice B2 n2 d2, .slice B3 n3 d3]) ∧ w'.ownsRow w.heap.size 5 1 (.slice B1 n1 d1) n1 (bv data) ∧ w'.ownsRow w.heap.size 54 2 (.slice B2 n2 d2) n2 (tv ts) ∧ w'.ownsRow w.heap.size 64 8 (.slice B3 n3 d3) n3 (cv code) ∧ Ext w w' := by
  go_enter Try.func64, Try.ntmps64
  go_wp2
  refine wp_world (fun W => w.heap.size ≤ W.heap.size ∧ Ext w W ∧ Blk W w.heap.size 90 #[.int .i64 lo, .int .i64 hi, .slice A1 n1 c1, .slice A2 n2 c2, .slice A3 n3 c3] ∧ Blk W (w.heap.size + 1) 90 #[.int .i64 0, .int .i64 0, .slice none 0 0, .slice none 0 0, .slice none 0 0])
    ⟨by simp; omega, by simp [Ext]; go_grown, (Blk.new _ _ _).alloc _, by simpa using Blk.new (w.alloc _) 90 _⟩ ?_
  rintro W ⟨hsz, hX, hP, hR⟩
  go_region_held3 (fun w' => w'.cell? ⟨w.heap.size, 0, none⟩ = some (.int .i64 lo) ∧ w'.cell? ⟨w.heap.size, 1, none⟩ = some (.int .i64 hi) ∧ w'.cell? ⟨w.heap.size, 2, none⟩ = some (.slice A1 n1 c1) ∧ w'.cell? ⟨w.heap.size, 3, none⟩ = some (.slice A2 n2 c2) ∧ w'.cell? ⟨w.heap.size, 4, none⟩ = some (.slice A3 n3 c3))
    (first | with_reducible exact hP.drew.c5 | with_reducible exact (hP.ext hX1).c5 | with_reducible exact (hP.ext hX2).c5 | with_reducible exact (hP.ext hX3).c5 | go_keep)
    (first | (go_at_call 26; with_reducible refine (CopyTables_any A2 n2 c2 ts _ (h2.ext (hX.trans hX1)) hn2).mono ?_; rintro e w2 ⟨B2, d2, rfl, hown2, hb2⟩; have hX2 := hX1.trans hb2) | (go_at_call 68; have tok := hX2; with_reducible refine (CopyCode_any A3 n3 c3 code _ (h3.ext (hX.trans hX2)) hn3).mono ?_; rintro e w3 ⟨B3, d3, rfl, hown3, hb3⟩; have hX3 := hX2.trans hb3; obtain ⟨f0, f1, f2, f3, f4⟩ := (hR.ext hX3).f5; obtain ⟨g0, g1, g2, g3, g4⟩ := (hR.ext hX3).c5) | (go_at_call 36; with_reducible refine (CopyBytes_any A1 n1 c1 data _ (h1.ext hX.drew) hn1).mono ?_; rintro e w1 ⟨B1, d1, rfl, hown1, hb1⟩; have hX1 := hb1.of_drew))
  go_wp2
  obtain ⟨q0, q1, q2, q3, q4⟩ := ((hR.ext hX3).s5 (.int .i64 lo) (.int .i64 hi) (.slice B1 n1 d1) (.slice B2 n2 d2) (.slice B3 n3 d3)).c5
  refine bodyPost_ret (v := .agg #[.int .i64 lo, .int .i64 hi, .slice B1 n1 d1, .slice B2 n2 d2, .slice B3 n3 d3]) (by simp [results, Try.results64, go_sem, q0, q1, q2, q3, q4]) rfl ?_
  have hRX := hR.ext hX3
  exact ⟨B1, B2, B3, d1, d2, d3, rfl, own_s5 (own_base (hb3.own (hb2.own hown1)) hsz) (own_blk_ne (hb3.own (hb2.own hown1)) hRX (by decide)) _ _ _ _ _,
    own_s5 (own_base (hb3.own hown2) (Nat.le_trans hsz hX1.size)) (own_blk_ne (hb3.own hown2) hRX (by decide)) _ _ _ _ _, own_s5 (own_base hown3 (Nat.le_trans hsz hX2.size)) (own_blk_ne hown3 hRX (by decide)) _ _ _ _ _, (hX.trans hX3).s5 (by omega) _ _ _ _ _⟩

set_option maxHeartbeats 1000000 in
theorem SameProgram_any (lo hi lo' hi' : Int) (A1 A2 A3 B1 B2 B3 : Option Addr) (n1 n2 n3 c1 c2 c3 m1 m2 m3 d1 d2 d3 : Nat) (data data' : List UInt8) (code code' : List Cd.Ins) (ts ts' : List (Int × Int)) (w : World)
    (h1 : Rd w 1 A1 n1 (bv data)) (h2 : Rd w 2 A2 n2 (tv ts)) (h3 : Rd w 8 A3 n3 (cv code)) (k1 : Rd w 1 B1 m1 (bv data')) (k2 : Rd w 2 B2 m2 (tv ts')) (k3 : Rd w 8 B3 m3 (cv code'))
    (hn2 : n2 * 16 ≤ 140737488355328) (hm2 : m2 * 16 ≤ 140737488355328) (hn3 : n3 * 56 ≤ 140737488355328) (hm3 : m3 * 56 ≤ 140737488355328) :
    Calls Try.prog 61 #[.agg #[.int .i64 lo, .int .i64 hi, .slice A1 n1 c1, .slice A2 n2 c2, .slice A3 n3 c3], .agg #[.int .i64 lo', .int .i64 hi', .slice B1 m1 d1, .slice B2 m2 d2, .slice B3 m3 d3]] w fun e w' =>
      ∃ r : Bool, (r = true ↔ (lo = lo' ∧ hi = hi' ∧ data = data' ∧ ts = ts' ∧ code = code')) ∧ e = .returned (.bool r) ∧ Ext w w' := by
  go_enter Try.func61, Try.ntmps61
  go_upto_region 1 with (fail)
  refine wp_world (fun W => Ext w W ∧ Blk W w.heap.size 90 #[.int .i64 lo, .int .i64 hi, .slice A1 n1 c1, .slice A2 n2 c2, .slice A3 n3 c3] ∧ Blk W (w.heap.size + 1) 90 #[.int .i64 lo', .int .i64 hi', .slice B1 m1 d1, .slice B2 m2 d2, .slice B3 m3 d3])
    ⟨((Ext.refl _).alloc _).alloc _, (Blk.new _ _ _).alloc _, by simpa using Blk.new (w.alloc _) 90 _⟩ ?_
  rintro W ⟨hX, hP, hR⟩
  obtain ⟨p0, p1, p2, p3, p4⟩ := hP.c5
  obtain ⟨r0, r1, r2, r3, r4⟩ := hR.c5
  go_wp2_with (first | (go_at_call 77; with_reducible refine (SameTables_any A2 B2 n2 m2 c2 d2 ts ts' _ (h2.ext hX) (k2.ext hX) hn2 hm2).mono ?_; rintro e w1 ⟨rfl, hX1⟩; have p41 := hX1.cell p4; have r41 := hX1.cell r4) | (go_at_call 87; with_reducible refine (SameCode_any A3 B3 n3 m3 c3 d3 code code' _ (h3.ext (hX.trans hX1)) (k3.ext (hX.trans hX1)) hn3 hm3).mono ?_; rintro e w2 ⟨r, hr, rfl, hX2⟩) | (go_at_call 33; with_reducible refine (SameBytes_any A1 B1 n1 m1 c1 d1 data data' _ (h1.ext hX) (k1.ext hX)).mono ?_; rintro e w2 ⟨rfl, rfl⟩))
  all_goals go_ret
  all_goals first | exact ⟨_, by simp_all, rfl, (hX.trans hX1).trans hX2⟩ | exact ⟨_, by simp_all, rfl, hX.trans hX1⟩ | exact ⟨_, by simp_all, rfl, hX⟩

theorem eqln22 (c : Nat) (w : World) : (binOp .eql 22 (.slice none 0 c) (.slice none 0 0)).run Try.prog w = .ok (.bool true) w := by
  have h : ∀ d : Nat, (Op.equalIn (d + 1) 22 (.slice none 0 c) (.slice none 0 0)).run Try.prog w = .ok true w := fun d => by simp [Op.equalIn, run_underlying Try.underlying22]
  simp [binOp, Op.equal, Op.maxDepth, h 9999]
theorem eqls22 (ad : Addr) (n c : Nat) (w : World) : (binOp .eql 22 (.slice (some ad) n c) (.slice none 0 0)).run Try.prog w = .ok (.bool false) w := by
  have h : ∀ d : Nat, (Op.equalIn (d + 1) 22 (.slice (some ad) n c) (.slice none 0 0)).run Try.prog w = .ok false w := fun d => by simp [Op.equalIn, run_underlying Try.underlying22]
  simp [binOp, Op.equal, Op.maxDepth, h 9999]
theorem eqln23 (c : Nat) (w : World) : (binOp .eql 23 (.slice none 0 c) (.slice none 0 0)).run Try.prog w = .ok (.bool true) w := by
  have h : ∀ d : Nat, (Op.equalIn (d + 1) 23 (.slice none 0 c) (.slice none 0 0)).run Try.prog w = .ok true w := fun d => by simp [Op.equalIn, run_underlying Try.underlying23]
  simp [binOp, Op.equal, Op.maxDepth, h 9999]
theorem eqls23 (ad : Addr) (n c : Nat) (w : World) : (binOp .eql 23 (.slice (some ad) n c) (.slice none 0 0)).run Try.prog w = .ok (.bool false) w := by
  have h : ∀ d : Nat, (Op.equalIn (d + 1) 23 (.slice (some ad) n c) (.slice none 0 0)).run Try.prog w = .ok false w := fun d => by simp [Op.equalIn, run_underlying Try.underlying23]
  simp [binOp, Op.equal, Op.maxDepth, h 9999]

set_option maxHeartbeats 400000 in
theorem CloneBytes_any (A : Option Addr) (n c : Nat) (bs : List UInt8) (w : World) (h : Rd w 1 A n (bv bs)) (hn : n ≤ 140737488355328) :
    Calls Try.prog 106 #[.slice A n c] w fun e w' => ∃ A' c', e = .returned (.slice A' n c') ∧ w'.ownsRow w.heap.size 5 1 (.slice A' n c') n (bv bs) ∧ Ext w w' := by
  obtain ⟨i0, hi0, hz0, hz1, hz2⟩ := info_parts info5
  cases A with
  | none =>
    have hn0 : n = 0 := by
      rcases Nat.eq_zero_or_pos n with h0 | h0
      · exact h0
      · obtain ⟨_, h1, _⟩ := h.2 h0
        cases h1
    subst hn0
    have hb : bv bs = [] := List.eq_nil_of_length_eq_zero (by have := h.1; omega)
    rw [hb]
    have hq := eqln22 c w
    go_enter Try.func106, Try.ntmps106
    go_wp2
    go_ret
    exact ⟨none, 0, rfl, World.ownsRow_nil _ _ _ _, Ext.refl _⟩
  | some ad =>
    have hq := eqls22 ad n c w
    go_enter Try.func106, Try.ntmps106
    go_wp2_with (at_builtin; refine wpList_app _ rfl _ _ 22 rfl w.heap.size 5 i0 _ 1 1 Try.underlying22 hi0 hz0 hz1 hz2 rfl (by omega) (.slice (some ⟨w.heap.size, 0, none⟩) 0 0) 0 [] rfl (own_emptyP w 5 1) (some ad) n c _ rfl (h.alloc _) (bv_one _) (by omega) (by omega) (by simp) ?_; intro v1 w1 hown1 hg1 hat1)
    go_ret
    obtain ⟨A', c', rfl, _⟩ := own_form hown1
    simp only [Nat.zero_add, List.nil_append] at hown1 ⊢
    exact ⟨A', c', rfl, hown1, (Ext.new w _).grown_own (own_emptyP w 5 1) hg1 (Nat.le_refl _)⟩

set_option maxHeartbeats 400000 in
theorem CloneTables_any (A : Option Addr) (n c : Nat) (bs : List (Int × Int)) (w : World) (h : Rd w 2 A n (tv bs)) (hn : n * 16 ≤ 140737488355328) :
    Calls Try.prog 107 #[.slice A n c] w fun e w' => ∃ A' c', e = .returned (.slice A' n c') ∧ w'.ownsRow w.heap.size 54 2 (.slice A' n c') n (tv bs) ∧ Ext w w' := by
  obtain ⟨i0, hi0, hz0, hz1, hz2⟩ := info_parts info54
  cases A with
  | none =>
    have hn0 : n = 0 := by
      rcases Nat.eq_zero_or_pos n with h0 | h0
      · exact h0
      · obtain ⟨_, h1, _⟩ := h.2 h0
        cases h1
    subst hn0
    have hb : tv bs = [] := List.eq_nil_of_length_eq_zero (by have := h.1; omega)
    rw [hb]
    have hq := eqln23 c w
    go_enter Try.func107, Try.ntmps107
    go_wp2
    go_ret
    exact ⟨none, 0, rfl, World.ownsRow_nil _ _ _ _, Ext.refl _⟩
  | some ad =>
    have hq := eqls23 ad n c w
    go_enter Try.func107, Try.ntmps107
    go_wp2_with (at_builtin; refine wpList_app _ rfl _ _ 23 rfl w.heap.size 54 i0 _ 2 16 Try.underlying23 hi0 hz0 hz1 hz2 rfl (by omega) (.slice (some ⟨w.heap.size, 0, none⟩) 0 0) 0 [] rfl (own_emptyP w 54 2) (some ad) n c _ rfl (h.alloc _) (tv_one _) (by omega) (by omega) (by simp) ?_; intro v1 w1 hown1 hg1 hat1)
    go_ret
    obtain ⟨A', c', rfl, _⟩ := own_form hown1
    simp only [Nat.zero_add, List.nil_append] at hown1 ⊢
    exact ⟨A', c', rfl, hown1, (Ext.new w _).grown_own (own_emptyP w 54 2) hg1 (Nat.le_refl _)⟩


/-! ### does an instruction point beyond the data? -/
theorem beyond_any (x : Cd.Ins) (m g : Nat) (w : World) (hB : Blk w g 3 #[.int .i64 (m : Int)]) : Calls Try.prog 142 #[.agg (insC x), .pointer (some ⟨g, 0, none⟩)] w fun e w' => e = .returned (.bool (Pk.reachB m x)) ∧ Ext w w' := by
  obtain ⟨op, nr, rg, sz, ds, sr, of, im⟩ := x
  have c0 := hB.c1
  go_enter Try.func142, Try.ntmps142
  simp only [insC]
  go_upto_region 1 with (fail)
  refine wp_world (fun W => Ext w W ∧ Blk W w.heap.size 64 #[.int .i64 op, .bool nr, .bool rg, .int .i64 sz, .int .i64 ds, .int .i64 sr, .int .i64 of, .int .i64 im]) ⟨Ext.new _ _, Blk.new _ _ _⟩ ?_
  rintro W ⟨hE, hP⟩
  obtain ⟨p0, p1, p2, p3, p4, p5, p6, p7⟩ := hP.c8
  have c1 := hE.cell c0
  go_wp2
  all_goals go_ret
  all_goals exact ⟨ret_bool (by simp [Pk.reachB, *]), hE⟩

def idxOf (o : Option Nat) : Int := match o with | some i => (i : Int) | none => -1
theorem reach_hit {l : List Cd.Ins} {m k : Nat} (h : k < l.length) (hno : (l.take k).any (Pk.reachB m) = false) (hf : Pk.reachB m l[k] = true) : Pk.reaches l m = some k := by
  unfold Pk.reaches
  rw [List.findIdx?_eq_some_iff_getElem]
  refine ⟨h, hf, fun j hj => ?_⟩
  have := List.any_eq_false.mp hno (l[j]) (by rw [List.mem_take_iff_getElem]; exact ⟨j, by omega, rfl⟩)
  simpa using this
theorem reach_none {l : List Cd.Ins} {m : Nat} (hno : l.any (Pk.reachB m) = false) : Pk.reaches l m = none := by
  unfold Pk.reaches
  rw [List.findIdx?_eq_none_iff]
  intro x hx
  have := List.any_eq_false.mp hno x hx
  simpa using this
theorem reach_miss {l : List Cd.Ins} {m k : Nat} (h : k < l.length) (hno : (l.take k).any (Pk.reachB m) = false) (hf : Pk.reachB m l[k] = false) : (l.take (k + 1)).any (Pk.reachB m) = false := by
  rw [List.take_succ_eq_append_getElem h, List.any_append, hno]
  simp [hf]

set_option maxHeartbeats 400000 in
theorem IndexIns_any (A : Option Addr) (n c : Nat) (l : List Cd.Ins) (m g : Nat) (w : World) (h : Rd w 8 A n (cv l)) (hn : n * 56 ≤ 140737488355328) (hB : Blk w g 3 #[.int .i64 (m : Int)]) :
    Calls Try.prog 141 #[.slice A n c, .func (.func 142) #[] #[.pointer (some ⟨g, 0, none⟩)]] w fun e w' => e = .returned (.int .i64 (idxOf (Pk.reaches l m))) ∧ Ext w w' := by
  have hx : l.length = n := by have := h.1; rw [cv_length] at this; omega
  have Hx := hd hx
  clear hx
  obtain ⟨X, hX⟩ : ∃ X, Pk.reaches l m = X := ⟨_, rfl⟩
  rw [hX]
  have HX := hd hX
  clear hX
  go_enter Try.func141, Try.ntmps141
  go_wp2
  go_loopw [8] (fun i wr => ∃ k : Nat, k ≤ n ∧ i = .int .i64 k ∧ Ext w wr ∧ Hid ((l.take k).any (Pk.reachB m) = false)) (fun i _ => n - (intOf i).toNat)
  case atStart => exact ⟨0, by omega, rfl, Ext.refl _, hd rfl⟩
  case round =>
    obtain ⟨k, hk, rfl, hX, Heq⟩ := hrel
    have hB1 := hB.ext hX
    by_cases hlt : k < n
    · obtain ⟨b, o, rfl, hc⟩ := (h.ext hX).form (by omega) (by omega)
      have hkx : k < l.length := by have := Hx.out; omega
      obtain ⟨q0, q1, q2, q3, q4, q5, q6, q7⟩ := ins_cells hc hkx
      clear hc
      have HH := hd (reach_hit (m := m) hkx Heq.out)
      have HM := hd (reach_miss (m := m) hkx Heq.out)
      obtain ⟨y, hy⟩ : ∃ y, l[k] = y := ⟨_, rfl⟩
      rw [hy] at q0 q1 q2 q3 q4 q5 q6 q7 HH HM
      clear hy
      have hcall := fun W hW => beyond_any y m g W hW
      obtain ⟨r, hr⟩ : ∃ r, Pk.reachB m y = r := ⟨_, rfl⟩
      rw [hr] at HH HM hcall
      obtain ⟨yo, yn, yr, yz, yd, ys, yf, yi⟩ := y
      simp only at q0 q1 q2 q3 q4 q5 q6 q7
      simp only [insC] at hcall
      have HC := hd hcall
      clear hcall hr
      cases r with
      | true =>
        go_wp2_with (go_at_call 142; (with_reducible refine (HC.out _ hB1).mono ?_); rintro e w1 ⟨rfl, hX1⟩)
        go_ret
        exact ⟨congrArg (fun z => Ending.returned (.int .i64 z)) (by rw [← HX.out, HH.out (by simp)]; rfl), hX.trans hX1⟩
      | false =>
        go_wp2_with (go_at_call 142; (with_reducible refine (HC.out _ hB1).mono ?_); rintro e w1 ⟨rfl, hX1⟩)
        go_roundw
        case rel => exact ⟨k + 1, by omega, by go_num, hX.trans hX1, hd (HM.out (by simp))⟩
        case measure => simp [intOf]; omega
    · go_wp2
      go_ret
      exact ⟨congrArg (fun z => Ending.returned (.int .i64 z)) (by rw [← HX.out, reach_none (by rw [← List.take_of_length_le (l := l) (i := k) (by rw [Hx.out]; omega), Heq.out])]; rfl), hX⟩

theorem reaches_any (A : Option Addr) (n c : Nat) (l : List Cd.Ins) (m : Nat) (w : World) (h : Rd w 8 A n (cv l)) (hn : n * 56 ≤ 140737488355328) :
    Calls Try.prog 108 #[.slice A n c, .int .i64 (m : Int)] w fun e w' => e = .returned (.int .i64 (idxOf (Pk.reaches l m))) ∧ Ext w w' := by
  go_enter Try.func108, Try.ntmps108
  go_upto_region 1 with (fail)
  refine wp_world (fun W => Ext w W ∧ Blk W w.heap.size 3 #[.int .i64 (m : Int)]) ⟨Ext.new _ _, Blk.new _ _ _⟩ ?_
  rintro W ⟨hE, hP⟩
  go_wp2_with (go_at_call 141; (with_reducible refine (IndexIns_any A n c l m _ _ (h.ext hE) hn hP).mono ?_); rintro e w1 ⟨rfl, hX⟩)
  go_ret
  exact ⟨rfl, hE.trans hX⟩

end Go.Proofs.Ytfcbedkidjclhaa
namespace Go.Proofs.Ytfcbedkidjclhaa
open Go.RowKit
set_option maxRecDepth 100000
set_option linter.unusedSimpArgs false
set_option linter.unusedVariables false

def PCkPost (x : Nat × Int) (w : World) (e : Ending) (w' : World) : Prop := e = .returned (.tuple #[.int .i64 (x.1 : Int), .int .i64 x.2]) ∧ Ext w w'
theorem own_apart {W W' : World} {base base' m n s s' : Nat} {xs ys : List Value} {e e' : TypeId} {u v : Value} (h : W.ownsRow base e s u m xs) (h' : W'.ownsRow base' e' s' v n ys) (hb : W.heap.size ≤ base') : v.ownBlock = none ∨ v.ownBlock ≠ u.ownBlock := by
  cases hv : v.ownBlock with
  | none => exact .inl rfl
  | some g =>
    right
    intro he
    have h1 := (h'.lt g hv).1
    have h2 := (h.lt g he.symm).2
    omega

set_option maxHeartbeats 1000000 in
theorem PCheck_any (lo hi : Int) (A1 A2 A3 : Option Addr) (n1 n2 n3 c1 c2 c3 : Nat) (data : List UInt8) (code : List Cd.Ins) (ts : List (Int × Int)) (w : World)
    (h1 : Rd w 1 A1 n1 (bv data)) (h2 : Rd w 2 A2 n2 (tv ts)) (h3 : Rd w 8 A3 n3 (cv code))
    (hn1 : n1 ≤ 140737488355328) (hn2 : n2 * 16 ≤ 140737488355328) (hn3 : n3 * 56 ≤ 140737488355328) :
    Calls Try.prog 62 #[.agg #[.int .i64 lo, .int .i64 hi, .slice A1 n1 c1, .slice A2 n2 c2, .slice A3 n3 c3]] w (PCkPost (Pk.pcheck ⟨lo, hi, data, ts, code⟩) w) := by
  have hd1 : data.length = n1 := by have := h1.1; rw [bv_length] at this; omega
  have hl3 : code.length = n3 := by have := h3.1; rw [cv_length] at this; omega
  obtain ⟨X, hX⟩ : ∃ X, Pk.pcheck ⟨lo, hi, data, ts, code⟩ = X := ⟨_, rfl⟩
  obtain ⟨s, hs⟩ : ∃ s, Pk.sizes lo hi n1 ts = s := ⟨_, rfl⟩
  obtain ⟨i, e, hc⟩ : ∃ i e, Cd.check code = (i, e) := ⟨_, _, rfl⟩
  rw [hX]
  have hX' := hX
  unfold Pk.pcheck at hX'
  simp only [hd1, hs, hc] at hX'
  have HS : Hid (∀ W : World, Rd W 2 A2 n2 (tv ts) → Calls Try.prog 70 #[.int .i64 lo, .int .i64 hi, .slice A1 n1 c1, .slice A2 n2 c2] W fun e w' => e = .returned (.int .i64 s) ∧ Ext W w') := hd fun W h => by
    have := sizes_any lo hi A1 A2 n1 n2 c1 c2 ts W h (by omega) hn2
    rw [hs] at this
    exact this
  have HC := hd hc
  have HX := hd hX'
  have H1 := hd hd1
  clear hX hX' hs hc hd1
  go_enter Try.func62, Try.ntmps62
  go_upto_region 1 with (fail)
  refine wp_world (fun W => Ext w W ∧ Blk W w.heap.size 90 #[.int .i64 lo, .int .i64 hi, .slice A1 n1 c1, .slice A2 n2 c2, .slice A3 n3 c3]) ⟨Ext.new _ _, Blk.new _ _ _⟩ ?_
  rintro W ⟨hE, hP⟩
  obtain ⟨p0, p1, p2, p3, p4⟩ := hP.c5
  by_cases h0 : s = 0
  · subst h0
    have HX1 := HX.out
    rw [if_neg (by decide)] at HX1
    go_upto_region 4 with (go_at_call 70; (with_reducible refine (HS.out _ (h2.ext hE)).mono ?_); rintro e v1 ⟨rfl, hX1⟩)
    have hE1 := hE.trans hX1
    obtain ⟨q0, q1, q2, q3, q4⟩ := (hP.ext hX1).c5
    by_cases h4 : e = 0
    · subst h4
      rw [if_neg (by decide)] at HX1
      by_cases h5 : n3 = 0
      · subst h5
        rw [if_pos (List.eq_nil_of_length_eq_zero hl3)] at HX1
        subst HX1
        clear HX
        go_wp2_with (go_at_call 49; (with_reducible refine (Check_any A3 0 c3 code _ (h3.ext hE1) (by omega)).mono ?_); rw [HC.out]; rintro e v2 ⟨rfl, hX2⟩; obtain ⟨r0, r1, r2, r3, r4⟩ := ((hP.ext hX1).ext hX2).c5)
        go_ret2
        exact ⟨rfl, hE1.trans hX2⟩
      · rw [if_neg (fun e => h5 (by rw [← hl3, e]; rfl))] at HX1
        have e5 : ((n3 : Int) == 0) = false := by simp; omega
        clear HX
        cases hr : Pk.reaches code n1 with
        | none =>
          have HR := hd hr
          rw [hr] at HX1
          subst HX1
          clear hr
          go_wp2_with (first | (go_at_call 49; (with_reducible refine (Check_any A3 n3 c3 code _ (h3.ext hE1) hn3).mono ?_); rw [HC.out]; rintro e v2 ⟨rfl, hX2⟩; obtain ⟨r0, r1, r2, r3, r4⟩ := ((hP.ext hX1).ext hX2).c5) | (go_at_call 108; (with_reducible refine (reaches_any A3 n3 c3 code n1 _ (h3.ext (hE1.trans hX2)) hn3).mono ?_); rw [HR.out]; rintro e v3 ⟨rfl, hX3⟩; simp only [idxOf]))
          go_ret2
          exact ⟨rfl, (hE1.trans hX2).trans hX3⟩
        | some j =>
          have HR := hd hr
          rw [hr] at HX1
          subst HX1
          clear hr
          go_wp2_with (first | (go_at_call 49; (with_reducible refine (Check_any A3 n3 c3 code _ (h3.ext hE1) hn3).mono ?_); rw [HC.out]; rintro e v2 ⟨rfl, hX2⟩; obtain ⟨r0, r1, r2, r3, r4⟩ := ((hP.ext hX1).ext hX2).c5) | (go_at_call 108; (with_reducible refine (reaches_any A3 n3 c3 code n1 _ (h3.ext (hE1.trans hX2)) hn3).mono ?_); rw [HR.out]; rintro e v3 ⟨rfl, hX3⟩; simp only [idxOf]))
          go_ret2
          exact ⟨rfl, (hE1.trans hX2).trans hX3⟩
    · rw [if_pos h4] at HX1
      subst HX1
      have e4 : (e != 0) = true := by simpa using h4
      clear HX h4
      go_wp2_with (go_at_call 49; (with_reducible refine (Check_any A3 n3 c3 code _ (h3.ext hE1) hn3).mono ?_); rw [HC.out]; rintro e v2 ⟨rfl, hX2⟩)
      go_ret2
      exact ⟨rfl, hE1.trans hX2⟩
  · have HX1 := HX.out
    rw [if_pos h0] at HX1
    subst HX1
    have e0 : (s != 0) = true := by simpa using h0
    clear HX h0
    go_wp2_with (go_at_call 70; (with_reducible refine (HS.out _ (h2.ext hE)).mono ?_); rintro e v1 ⟨rfl, hX1⟩)
    go_ret2
    exact ⟨rfl, hE.trans hX1⟩

set_option maxHeartbeats 2000000 in
theorem POf_any (lo hi : Int) (A1 A2 A3 : Option Addr) (n1 n2 n3 c1 c2 c3 : Nat) (data : List UInt8) (code : List Cd.Ins) (ts : List (Int × Int)) (w : World)
    (h1 : Rd w 1 A1 n1 (bv data)) (h2 : Rd w 2 A2 n2 (tv ts)) (h3 : Rd w 8 A3 n3 (cv code))
    (hn1 : n1 ≤ 140737488355328) (hn2 : n2 * 16 ≤ 140737488355328) (hn3 : n3 * 56 ≤ 140737488355328) :
    Calls Try.prog 60 #[.agg #[.int .i64 lo, .int .i64 hi, .slice A1 n1 c1, .slice A2 n2 c2, .slice A3 n3 c3]] w (DecPost (Pk.pof ⟨lo, hi, data, ts, code⟩) w) := by
  obtain ⟨i, e, hc⟩ : ∃ i e, Pk.pcheck ⟨lo, hi, data, ts, code⟩ = (i, e) := ⟨_, _, rfl⟩
  obtain ⟨X, hX⟩ : ∃ X, Pk.pof ⟨lo, hi, data, ts, code⟩ = X := ⟨_, rfl⟩
  rw [hX]
  have HX := hd hX
  have HC := hd hc
  go_enter Try.func60, Try.ntmps60
  go_upto_region 1 with (fail)
  refine wp_world (fun W => Ext w W ∧ Blk W w.heap.size 90 #[.int .i64 lo, .int .i64 hi, .slice A1 n1 c1, .slice A2 n2 c2, .slice A3 n3 c3] ∧ Blk W (w.heap.size + 1) 25 #[.int .i64 0, .int .i64 0, .slice none 0 0, .slice none 0 0, .slice none 0 0])
    ⟨(Ext.new _ _).alloc _, (Blk.new _ _ _).alloc _, by simpa using Blk.new (w.alloc _) 25 _⟩ ?_
  rintro W ⟨hX, hP, hR⟩
  have hsz := hP.lt
  obtain ⟨p0, p1, p2, p3, p4⟩ := hP.c5
  by_cases h0 : e = 0
  · subst h0
    have hf := Pk.check_fine (show (Pk.pcheck ⟨lo, hi, data, ts, code⟩).2 = 0 by rw [hc])
    have he : Cd.encode code = (Cd.flat code, 0, 0) := Cd.encode_ok hf.2.2.1 hf.2.2.2.1
    have hXe : X = (⟨lo, hi, data, ts, Cd.flat code⟩, 0, 0) := by
      rw [← HX.out]
      unfold Pk.pof
      rw [hc, if_neg (show ¬ ((0 : Int) ≠ 0) by decide), he]
    have hi0 : i = 0 := by have := hf.1; rw [hc] at this; exact congrArg Prod.fst this
    subst hi0
    have HE := hd he
    have HXE := hd hXe
    clear hf he hXe hc HX
    obtain ⟨F, hF⟩ : ∃ F, Cd.flat code = F := ⟨_, rfl⟩
    rw [hF] at HE HXE
    clear hF
    go_upto_region 7 with (first | (go_at_call 62; (with_reducible refine (PCheck_any lo hi A1 A2 A3 n1 n2 n3 c1 c2 c3 data code ts _ (h1.ext hX) (h2.ext hX) (h3.ext hX) hn1 hn2 hn3).mono ?_); rw [HC.out]; rintro e' v1 ⟨rfl, hX1⟩; obtain ⟨q0, q1, q2, q3, q4⟩ := (hP.ext hX1).c5) | (go_at_call 50; (with_reducible refine (CEncode_any A3 n3 c3 code _ (h3.ext (hX.trans hX1)) hn3).mono ?_); rw [HE.out]; rintro e' v2 ⟨A4, c4, rfl, own4, hX2⟩))
    have hX12 := hX1.trans hX2
    have hE := hX.trans hX12
    have hP2 := hP.ext hX12
    have hR2 := hR.ext hX12
    have hz1 := hX1.size
    have hz := hE.size
    clear p0 p1 p2 p3 p4 q0 q1 q2 q3 q4 hP hR
    have hX := hE
    have hP := hP2
    have hR := hR2
    clear hE hP2 hR2
    go_region_held3 (fun w' => w'.cell? ⟨w.heap.size, 0, none⟩ = some (.int .i64 lo) ∧ w'.cell? ⟨w.heap.size, 1, none⟩ = some (.int .i64 hi) ∧ w'.cell? ⟨w.heap.size, 2, none⟩ = some (.slice A1 n1 c1) ∧ w'.cell? ⟨w.heap.size, 3, none⟩ = some (.slice A2 n2 c2) ∧ w'.cell? ⟨w.heap.size, 4, none⟩ = some (.slice A3 n3 c3))
      (first | with_reducible exact hP.drew.c5 | with_reducible exact (hP.ext hY1).c5 | with_reducible exact (hP.ext hY2).c5 | go_keep)
      (first | (go_at_call 107; with_reducible refine (CloneTables_any A2 n2 c2 ts _ (h2.ext (hX.trans hY1)) hn2).mono ?_; rintro e w2 ⟨B2, d2, rfl, hown2, hb2⟩; have hY2 := hY1.trans hb2; obtain ⟨f0, f1, f2, f3, f4⟩ := (hR.ext hY2).f5; obtain ⟨g0, g1, g2, g3, g4⟩ := (hR.ext hY2).c5) | (go_at_call 106; with_reducible refine (CloneBytes_any A1 n1 c1 data _ (h1.ext hX.drew) hn1).mono ?_; rintro e w1 ⟨B1, d1, rfl, hown1, hb1⟩; have hY1 := hb1.of_drew))
    go_wp2
    obtain ⟨q0, q1, q2, q3, q4⟩ := ((hR.ext hY2).s5 (.int .i64 lo) (.int .i64 hi) (.slice B1 n1 d1) (.slice B2 n2 d2) (.slice A4 F.length c4)).c5
    refine bodyPost_ret (v := .tuple #[.agg #[.int .i64 lo, .int .i64 hi, .slice B1 n1 d1, .slice B2 n2 d2, .slice A4 F.length c4], .int .i64 0, .int .i64 0]) (by simp [results, Try.results60, go_sem, q0, q1, q2, q3, q4]) rfl ?_
    rw [HXE.out]
    have hRX := hR.ext hY2
    have o4 := hY2.own own4
    exact ⟨B1, n1, d1, B2, n2, d2, A4, F.length, c4, rfl, (hX.trans hY2).s5 (by omega) _ _ _ _ _,
      own_s5 (own_base (hb2.own hown1) hz) (own_blk_ne (hb2.own hown1) hRX (by decide)) _ _ _ _ _,
      own_s5 (own_base hown2 (Nat.le_trans hz hY1.size)) (own_blk_ne hown2 hRX (by decide)) _ _ _ _ _,
      own_s5 (own_base o4 (by omega)) (own_blk_ne o4 hRX (by decide)) _ _ _ _ _, own_apart own4 hown1 (Nat.le_refl _)⟩
  · have e0 : (e != 0) = true := by simpa using h0
    have hXe : X = (Pk.C0, i, e) := by
      rw [← HX.out]
      unfold Pk.pof
      rw [hc, if_pos h0]
    have HXE := hd hXe
    clear hXe hc HX h0
    go_upto_region 3 with (go_at_call 62; (with_reducible refine (PCheck_any lo hi A1 A2 A3 n1 n2 n3 c1 c2 c3 data code ts _ (h1.ext hX) (h2.ext hX) (h3.ext hX) hn1 hn2 hn3).mono ?_); rw [HC.out]; rintro e' v1 ⟨rfl, hX1⟩)
    obtain ⟨f0, f1, f2, f3, f4⟩ := (hR.ext hX1).f5
    obtain ⟨g0, g1, g2, g3, g4⟩ := (hR.ext hX1).c5
    go_wp2
    obtain ⟨q0, q1, q2, q3, q4⟩ := ((hR.ext hX1).s5 (.int .i64 0) (.int .i64 0) (.slice none 0 0) (.slice none 0 0) (.slice none 0 0)).c5
    refine bodyPost_ret (v := .tuple #[.agg #[.int .i64 0, .int .i64 0, .slice none 0 0, .slice none 0 0, .slice none 0 0], .int .i64 i, .int .i64 e]) (by simp [results, Try.results60, go_sem, q0, q1, q2, q3, q4]) rfl ?_
    exact DecPost.err HXE.out rfl ((hX.trans hX1).s5 (by omega) _ _ _ _ _)

end Go.Proofs.Ytfcbedkidjclhaa
namespace Go.Proofs.Ytfcbedkidjclhaa
open Go.RowKit
set_option maxRecDepth 100000
set_option linter.unusedSimpArgs false
set_option linter.unusedVariables false

theorem any_next {α : Type} {p : α → Bool} {l : List α} {k : Nat} (h : k < l.length) (h0 : (l.take k).any p = false) (h1 : p l[k] = false) : (l.take (k + 1)).any p = false := by
  rw [List.take_succ_eq_append_getElem h, List.any_append, h0]
  simp [h1]
theorem any_here {α : Type} {p : α → Bool} {l : List α} {k : Nat} (h : k < l.length) (h1 : p l[k] = true) : l.any p = true := by
  rw [List.any_eq_true]
  exact ⟨l[k], List.getElem_mem h, h1⟩

set_option maxHeartbeats 1000000 in
theorem RSizes_any (lo hi : Int) (A B : Option Addr) (n m c d : Nat) (ts : List (Int × Int)) (w : World) (h : Rd w 2 B m (tv ts)) (hn : n ≤ 9000000000000000000) (hm : m * 16 ≤ 140737488355328) :
    Calls Try.prog 74 #[.int .i64 lo, .int .i64 hi, .slice A n c, .slice B m d] w fun e w' => e = .returned (.int .i64 (Pk.sizes lo hi n ts)) ∧ Ext w w' := by
  have hx : ts.length = m := by have := h.1; rw [tv_length] at this; omega
  obtain ⟨S, hS⟩ : ∃ S, Pk.sizes lo hi n ts = S := ⟨_, rfl⟩
  rw [hS]
  unfold Pk.sizes at hS
  by_cases h0 : lo < 0 ∨ hi < lo ∨ 65535 < hi
  · rw [if_pos h0] at hS
    subst hS
    clear h hx
    go_enter Try.func74, Try.ntmps74
    rcases h0 with h0 | h0 | h0
    · go_wp2
      all_goals go_ret
      all_goals first | exact ⟨rfl, Ext.refl _⟩ | omega
    · go_wp2
      all_goals go_ret
      all_goals first | exact ⟨rfl, Ext.refl _⟩ | omega
    · go_wp2
      all_goals go_ret
      all_goals first | exact ⟨rfl, Ext.refl _⟩ | omega
  · rw [if_neg h0] at hS
    have l0 : ¬ lo < 0 := by omega
    have l1 : ¬ hi < lo := by omega
    have l2 : ¬ 65535 < hi := by omega
    clear h0
    have HS := hd hS
    clear hS
    by_cases h8 : 8 < m
    · have h8' : (8 : Int) < (m : Int) := by omega
      have hS := HS.out
      rw [if_pos (.inl (by omega))] at hS
      subst hS
      clear HS
      go_enter Try.func74, Try.ntmps74
      go_wp2
      go_ret
      exact ⟨rfl, Ext.refl _⟩
    · have h8' : ¬ (8 : Int) < (m : Int) := by omega
      go_enter Try.func74, Try.ntmps74
      go_wp2
      go_loopw [9] (fun i wr => ∃ (k : Nat), i = .int .i64 k ∧ k ≤ m ∧ Hid ((ts.take k).any Pk.wrongB = false) ∧ Ext w wr) (fun i _ => m - (intOf i).toNat)
      case atStart => exact ⟨0, rfl, by omega, hd (by simp), Ext.refl _⟩
      case round =>
        obtain ⟨k, rfl, hk, HN, hX⟩ := hrel
        by_cases hlt : k < m
        · have e1 : (k : Int) < (m : Int) := by omega
          obtain ⟨b, o, rfl, hc⟩ := (h.ext hX).form (by omega) (by omega)
          have hkl : k < ts.length := by omega
          have q0 := hc _ _ (tv_get0 ts k hkl)
          have q1 := hc _ _ (tv_get1 ts k hkl)
          rw [← Nat.add_assoc] at q1
          have HHERE := hd (fun hw => any_here (p := Pk.wrongB) hkl hw)
          have HNEXT := hd (fun hw => any_next (p := Pk.wrongB) hkl HN.out hw)
          obtain ⟨t, ht⟩ : ∃ t, ts[k] = t := ⟨_, rfl⟩
          rw [ht] at q0 q1 HHERE HNEXT
          obtain ⟨t1, t2⟩ := t
          simp only at q0 q1
          clear ht hc
          go_upto_region 9 with (fail)
          refine wp_world (fun W => Ext wr W ∧ Blk W wr.heap.size 54 #[.int .i64 t1, .int .i64 t2]) ⟨?_, ?_⟩ ?_
          · exact Ext.new _ _
          · exact Blk.new _ _ _
          rintro W ⟨hX2, hB⟩
          obtain ⟨p0, p1⟩ := hB.c2
          obtain ⟨wb, hwb⟩ : ∃ wb, Pk.wrongB (t1, t2) = wb := ⟨_, rfl⟩
          have hwe : wb = (decide (t1 < 1) || decide (64 < t1) || decide (t2 < 1) || decide (64 < t2)) := by rw [← hwb]; rfl
          have HWB := hd hwb
          have HWE := hd hwe
          clear hwb hwe q0 q1
          obtain ⟨a1, ha1⟩ : ∃ t, decide (t1 < 1) = t := ⟨_, rfl⟩
          obtain ⟨a2, ha2⟩ : ∃ t, decide (64 < t1) = t := ⟨_, rfl⟩
          obtain ⟨a3, ha3⟩ : ∃ t, decide (t2 < 1) = t := ⟨_, rfl⟩
          obtain ⟨a4, ha4⟩ : ∃ t, decide (64 < t2) = t := ⟨_, rfl⟩
          have hwe2 := HWE.out
          rw [ha1, ha2, ha3, ha4] at hwe2
          have HWE2 := hd hwe2
          clear hwe2 HWE
          go_cut [52] from 35 to 52 (fun v W2 => v = .bool wb ∧ W2 = W)
          case first =>
            cases a1 <;> cases a2 <;> cases a3 <;> cases a4
            all_goals go_wp2
            all_goals go_meet
            all_goals case rel => exact ⟨congrArg Value.bool (by rw [HWE2.out]; rfl), rfl⟩
          case rest =>
          obtain ⟨rfl, hwc⟩ := hcut
          rw [hwc]
          clear hwc ha1 ha2 ha3 ha4 HWE2 p0 p1
          cases wb with
          | true =>
            have hS := HS.out
            rw [if_pos (.inr (HHERE.out HWB.out))] at hS
            subst hS
            clear HS HHERE HNEXT HN
            go_wp2
            go_ret
            exact ⟨rfl, hX.trans hX2⟩
          | false =>
            go_wp2
            go_roundw
            case rel => exact ⟨k + 1, by go_num, by omega, hd (HNEXT.out HWB.out), hX.trans hX2⟩
            case measure => simp [intOf]; omega
        · obtain rfl : k = m := by omega
          have hno := HN.out
          rw [List.take_of_length_le (by omega)] at hno
          have hS := HS.out
          rw [if_neg (by rw [hno]; simp; omega)] at hS
          have e1 : ¬ (k : Int) < (k : Int) := by omega
          clear HS HN hno
          by_cases h4 : 4096 < n
          · have h4' : (4096 : Int) < (n : Int) := by omega
            rw [if_pos h4] at hS
            subst hS
            go_wp2
            go_ret
            exact ⟨rfl, hX⟩
          · have h4' : ¬ (4096 : Int) < (n : Int) := by omega
            rw [if_neg h4] at hS
            subst hS
            go_wp2
            go_ret
            exact ⟨rfl, hX⟩

set_option maxHeartbeats 1000000 in
theorem RUnits_any (A : Option Addr) (n c : Nat) (l : List Cd.Ins) (w : World) (h : Rd w 8 A n (cv l)) (hn : n * 56 ≤ 140737488355328) :
    Calls Try.prog 54 #[.slice A n c] w fun e w' => ∃ B d, e = .returned (.slice B (n + 1) d) ∧ w'.ownsRow w.heap.size 3 1 (.slice B (n + 1) d) (n + 1) (nv (Cd.units l)) ∧ Ext w w' := by
  have hl : l.length = n := by have := h.1; rw [cv_length] at this; omega
  have HL := hd hl
  clear hl
  obtain ⟨i0, hi0, hz0, hz1, hz2⟩ := info_parts info3
  go_enter Try.func54, Try.ntmps54
  go_wp2
  refine wp_world (fun W => Ext w W ∧ W.ownsRow w.heap.size 3 1 (.slice (some ⟨w.heap.size, 0, none⟩) 1 1) 1 (nv [0])) ⟨Ext.new _ _, ?_⟩ ?_
  · exact ⟨by simp [nv, iv], .inr ⟨w.heap.size, 1, #[.int .i64 0], rfl, Nat.le_refl _, Blk.new _ _ _, Nat.le_refl _, by decide, rfl, rfl⟩⟩
  rintro W ⟨hXW, hown0⟩
  go_loopw [3, 4, 5] (fun nn out i wr => ∃ (k m : Nat) (B : Option Addr) (d : Nat) (don : List Nat), k ≤ n ∧ m ≤ 2 * k ∧ i = .int .i64 k ∧ nn = .int .i64 m ∧ out = .slice B (k + 1) d ∧ wr.ownsRow w.heap.size 3 1 (.slice B (k + 1) d) (k + 1) (nv don) ∧ Ext w wr ∧ Hid (Cd.units l = don ++ (Cd.unitsFrom m (l.drop k)).tail)) (fun _ _ i _ => n - (intOf i).toNat)
  case atStart => exact ⟨0, 0, _, 1, [0], by omega, by omega, rfl, rfl, rfl, hown0, hXW, hd (by rw [List.drop_zero]; exact unitsFrom_head l 0)⟩
  case round =>
    obtain ⟨k, m, B, d, don, hk, hm, rfl, rfl, rfl, hown, hX, HE⟩ := hrel
    have hszr := hX.size
    by_cases hlt : k < n
    · obtain ⟨b, o, rfl, hc⟩ := (h.ext hX).form (by omega) (by omega)
      have hkl : k < l.length := by have := HL.out; omega
      obtain ⟨q0, q1, q2, q3, q4, q5, q6, q7⟩ := ins_cells hc hkl
      clear hc
      have HD := hd (show l.drop k = l[k] :: l.drop (k + 1) from List.drop_eq_getElem_cons hkl)
      obtain ⟨x, hx⟩ : ∃ x, l[k] = x := ⟨_, rfl⟩
      rw [hx] at q0 q1 q2 q3 q4 q5 q6 q7 HD
      clear hx
      obtain ⟨op, nr, rg, sz, ds, sr, of, im⟩ := x
      simp only at q0 q1 q2 q3 q4 q5 q6 q7
      have HE2 := hd (units_step (by rw [HE.out, HD.out] : Cd.units l = don ++ (Cd.unitsFrom m (⟨op, nr, rg, sz, ds, sr, of, im⟩ :: l.drop (k + 1))).tail))
      obtain ⟨a1, ha1⟩ : ∃ t, (op == 20) = t := ⟨_, rfl⟩
      obtain ⟨a2, ha2⟩ : ∃ t, (op == 21) = t := ⟨_, rfl⟩
      have hwd : Cd.wide op = (a1 || a2) := by rw [← ha1, ← ha2]; rfl
      have HWD := hd hwd
      clear hwd
      go_upto_region 7 with (fail)
      go_cut [28] from 15 to 28 (fun v W2 => v = .bool (a1 || a2) ∧ W2 = wr)
      case first =>
        cases a1 <;> cases a2
        all_goals go_wp2
        all_goals go_meet
        all_goals case rel => exact ⟨rfl, rfl⟩
      case rest =>
      obtain ⟨rfl, hwc⟩ := hcut
      rw [hwc]
      clear hwc ha1 ha2 q0 q1 q2 q3 q4 q5 q6 q7
      obtain ⟨a12, ha12⟩ : ∃ t, (a1 || a2) = t := ⟨_, rfl⟩
      rw [ha12] at HWD ⊢
      clear ha12
      cases a12 with
      | false =>
        have HW := hd (show Cd.width ⟨op, nr, rg, sz, ds, sr, of, im⟩ = 1 by simp [Cd.width, HWD.out])
        go_wp2_with (first | (at_builtin; refine wpList_app _ rfl _ _ 31 rfl w.heap.size 3 i0 _ 1 8 Try.underlying31 hi0 hz0 hz1 hz2 rfl (by omega) (.slice B (k + 1) d) (k + 1) (nv don) rfl (hown.alloc _) (some ⟨wr.heap.size, 0, none⟩) 1 1 [.int .i64 ((m : Int) + 1)] rfl (Rd.one _ _ _) (oneCell_int _) (by omega) (by omega) (by simp; omega) ?_; intro v1 w2 hown1 hg1 hat1; have hX1 := (hX.alloc _).grown_own (hown.alloc _) hg1 (Nat.le_refl _); obtain ⟨A3, c3, rfl, _⟩ := own_form hown1))
        go_roundw
        case rel => exact ⟨k + 1, m + 1, A3, c3, don ++ [m + 1], by omega, by omega, by go_num, by go_num, rfl, by rw [← nv_snoc]; exact hown1, hX1, hd (by have := HE2.out; rw [HW.out] at this; exact this)⟩
        case measure => simp [intOf]; omega
      | true =>
        have HW := hd (show Cd.width ⟨op, nr, rg, sz, ds, sr, of, im⟩ = 2 by simp [Cd.width, HWD.out])
        go_wp2_with (first | (at_builtin; refine wpList_app _ rfl _ _ 31 rfl w.heap.size 3 i0 _ 1 8 Try.underlying31 hi0 hz0 hz1 hz2 rfl (by omega) (.slice B (k + 1) d) (k + 1) (nv don) rfl (hown.alloc _) (some ⟨wr.heap.size, 0, none⟩) 1 1 [.int .i64 ((m : Int) + 1 + 1)] rfl (Rd.one _ _ _) (oneCell_int _) (by omega) (by omega) (by simp; omega) ?_; intro v1 w2 hown1 hg1 hat1; have hX1 := (hX.alloc _).grown_own (hown.alloc _) hg1 (Nat.le_refl _); obtain ⟨A3, c3, rfl, _⟩ := own_form hown1))
        go_roundw
        case rel => exact ⟨k + 1, m + 2, A3, c3, don ++ [m + 2], by omega, by omega, by go_num, by go_num, rfl, by rw [← nv_snoc]; exact hown1, hX1, hd (by have := HE2.out; rw [HW.out] at this; exact this)⟩
        case measure => simp [intOf]; omega
    · obtain rfl : k = n := by omega
      have hlk := HL.out
      have e0 : l.drop k = [] := List.drop_eq_nil_of_le (by omega)
      have HU := hd (show Cd.units l = don by rw [HE.out, e0]; simp [Cd.unitsFrom])
      clear hlk e0
      go_wp2
      go_ret
      exact ⟨B, d, rfl, by rw [HU.out]; exact hown, hX⟩


theorem reach_hitK {l : List Cd.Ins} {m k : Nat} (h : k < l.length) (hno : (l.take k).any (Pk.reachB m) = false) (hf : Pk.reachB m l[k] = true) : Pk.reaches l m = some k := by
  unfold Pk.reaches
  rw [List.findIdx?_eq_some_iff_getElem]
  refine ⟨h, hf, fun j hj => ?_⟩
  have h1 : (l.take k).length = k := by rw [List.length_take]; omega
  have := (List.any_eq_false.mp hno) (l.take k)[j] (List.getElem_mem (by omega))
  simpa using this
theorem reach_noneK {l : List Cd.Ins} {m : Nat} (hno : l.any (Pk.reachB m) = false) : Pk.reaches l m = none := by
  unfold Pk.reaches
  rw [List.findIdx?_eq_none_iff]
  intro x hx
  have := (List.any_eq_false.mp hno) x hx
  simpa using this
/-- where the first of these stands, as a number -/
def reachN (r : Option Nat) : Int := match r with | some i => (i : Nat) | none => -1

set_option maxHeartbeats 1000000 in
theorem RBeyond_any (A : Option Addr) (n c : Nat) (l : List Cd.Ins) (m : Nat) (w : World) (h : Rd w 8 A n (cv l)) (hn : n * 56 ≤ 140737488355328) :
    Calls Try.prog 110 #[.slice A n c, .int .i64 (m : Int)] w fun e w' => e = .returned (.int .i64 (reachN (Pk.reaches l m))) ∧ Ext w w' := by
  have hl : l.length = n := by have := h.1; rw [cv_length] at this; omega
  obtain ⟨X, hX⟩ : ∃ X, reachN (Pk.reaches l m) = X := ⟨_, rfl⟩
  rw [hX]
  have HX := hd hX
  clear hX
  go_enter Try.func110, Try.ntmps110
  go_wp2
  go_loopw [5] (fun i wr => ∃ (k : Nat), i = .int .i64 k ∧ k ≤ n ∧ Hid ((l.take k).any (Pk.reachB m) = false) ∧ wr = w) (fun i _ => n - (intOf i).toNat)
  case atStart => exact ⟨0, rfl, by omega, hd (by simp), rfl⟩
  case round =>
    obtain ⟨k, rfl, hk, HN, rfl⟩ := hrel
    by_cases hlt : k < n
    · have e1 : (k : Int) < (n : Int) := by omega
      obtain ⟨b, o, rfl, hc⟩ := h.form (by omega) (by omega)
      have hkl : k < l.length := by omega
      obtain ⟨q0, q1, q2, q3, q4, q5, q6, q7⟩ := ins_cells hc hkl
      have HHERE := hd (fun hw => reach_hitK (m := m) hkl HN.out hw)
      have HNEXT := hd (fun hw => any_next (p := Pk.reachB m) hkl HN.out hw)
      obtain ⟨x, hx⟩ : ∃ x, l[k] = x := ⟨_, rfl⟩
      rw [hx] at q0 q1 q2 q3 q4 q5 q6 q7 HHERE HNEXT
      clear hx hc
      obtain ⟨op, nr, rg, sz, ds, sr, of, im⟩ := x
      simp only at q0 q1 q2 q3 q4 q5 q6 q7
      obtain ⟨a1, ha1⟩ : ∃ t, (op == 21) = t := ⟨_, rfl⟩
      obtain ⟨a2, ha2⟩ : ∃ t, decide ((m : Int) < im) = t := ⟨_, rfl⟩
      have hrb : Pk.reachB m ⟨op, nr, rg, sz, ds, sr, of, im⟩ = (a1 && a2) := by rw [← ha1, ← ha2]; rfl
      rw [hrb] at HHERE HNEXT
      clear hrb
      go_upto_region 4 with (fail)
      go_cut [26] from 12 to 26 (fun v W2 => v = .bool (a1 && a2) ∧ W2 = wr)
      case first =>
        cases a1 <;> cases a2
        all_goals go_wp2
        all_goals go_meet
        all_goals case rel => exact ⟨rfl, rfl⟩
      case rest =>
      obtain ⟨rfl, hwc⟩ := hcut
      rw [hwc]
      clear hwc ha1 ha2 q0 q1 q2 q3 q4 q5 q6 q7
      obtain ⟨a12, ha12⟩ : ∃ t, (a1 && a2) = t := ⟨_, rfl⟩
      rw [ha12] at HHERE HNEXT ⊢
      clear ha12
      cases a12 with
      | true =>
        have HXE := hd (show X = (k : Int) by rw [← HX.out, HHERE.out rfl]; rfl)
        clear HX HHERE HNEXT
        go_wp2
        go_ret
        exact ⟨by rw [HXE.out]; rfl, Ext.refl _⟩
      | false =>
        go_wp2
        go_roundw
        case rel => exact ⟨k + 1, by go_num, by omega, hd (HNEXT.out rfl), by first | exact trivial | rfl⟩
        case measure => simp [intOf]; omega
    · obtain rfl : k = n := by omega
      have hno := HN.out
      rw [List.take_of_length_le (by omega)] at hno
      have HXE := hd (show X = -1 by rw [← HX.out, reach_noneK hno]; rfl)
      have e1 : ¬ (k : Int) < (k : Int) := by omega
      clear HX HN hno
      go_wp2
      go_ret
      exact ⟨by rw [HXE.out]; rfl, Ext.refl _⟩

end Go.Proofs.Ytfcbedkidjclhaa
namespace Go.Proofs.Ytfcbedkidjclhaa
open Go.RowKit
set_option maxRecDepth 100000
set_option linter.unusedSimpArgs false
set_option linter.unusedVariables false

set_option maxHeartbeats 1000000 in
theorem RPCheck_any (lo hi : Int) (A1 A2 A3 : Option Addr) (n1 n2 n3 c1 c2 c3 : Nat) (data : List UInt8) (code : List Cd.Ins) (ts : List (Int × Int)) (w : World)
    (h1 : Rd w 1 A1 n1 (bv data)) (h2 : Rd w 2 A2 n2 (tv ts)) (h3 : Rd w 8 A3 n3 (cv code))
    (hn1 : n1 ≤ 140737488355328) (hn2 : n2 * 16 ≤ 140737488355328) (hn3 : n3 * 56 ≤ 140737488355328) :
    Calls Try.prog 109 #[.agg #[.int .i64 lo, .int .i64 hi, .slice A1 n1 c1, .slice A2 n2 c2, .slice A3 n3 c3]] w (PCkPost (Pk.pcheck ⟨lo, hi, data, ts, code⟩) w) := by
  have hd1 : data.length = n1 := by have := h1.1; rw [bv_length] at this; omega
  have hl3 : code.length = n3 := by have := h3.1; rw [cv_length] at this; omega
  obtain ⟨X, hX⟩ : ∃ X, Pk.pcheck ⟨lo, hi, data, ts, code⟩ = X := ⟨_, rfl⟩
  obtain ⟨s, hs⟩ : ∃ s, Pk.sizes lo hi n1 ts = s := ⟨_, rfl⟩
  obtain ⟨i, e, hc⟩ : ∃ i e, Cd.check code = (i, e) := ⟨_, _, rfl⟩
  rw [hX]
  have hX' := hX
  unfold Pk.pcheck at hX'
  simp only [hd1, hs, hc] at hX'
  have HS : Hid (∀ W : World, Rd W 2 A2 n2 (tv ts) → Calls Try.prog 74 #[.int .i64 lo, .int .i64 hi, .slice A1 n1 c1, .slice A2 n2 c2] W fun e w' => e = .returned (.int .i64 s) ∧ Ext W w') := hd fun W h => by
    have := RSizes_any lo hi A1 A2 n1 n2 c1 c2 ts W h (by omega) hn2
    rw [hs] at this
    exact this
  have HC := hd hc
  have HX := hd hX'
  have H1 := hd hd1
  clear hX hX' hs hc hd1
  go_enter Try.func109, Try.ntmps109
  go_upto_region 1 with (fail)
  refine wp_world (fun W => Ext w W ∧ Blk W w.heap.size 90 #[.int .i64 lo, .int .i64 hi, .slice A1 n1 c1, .slice A2 n2 c2, .slice A3 n3 c3]) ⟨Ext.new _ _, Blk.new _ _ _⟩ ?_
  rintro W ⟨hE, hP⟩
  obtain ⟨p0, p1, p2, p3, p4⟩ := hP.c5
  by_cases h0 : s = 0
  · subst h0
    have HX1 := HX.out
    rw [if_neg (by decide)] at HX1
    go_upto_region 4 with (go_at_call 74; (with_reducible refine (HS.out _ (h2.ext hE)).mono ?_); rintro e v1 ⟨rfl, hX1⟩)
    have hE1 := hE.trans hX1
    obtain ⟨q0, q1, q2, q3, q4⟩ := (hP.ext hX1).c5
    by_cases h4 : e = 0
    · subst h4
      rw [if_neg (by decide)] at HX1
      by_cases h5 : n3 = 0
      · subst h5
        rw [if_pos (List.eq_nil_of_length_eq_zero hl3)] at HX1
        subst HX1
        clear HX
        go_wp2_with (go_at_call 99; (with_reducible refine (RCheck_any A3 0 c3 code _ (h3.ext hE1) (by omega)).mono ?_); rw [HC.out]; rintro e v2 ⟨rfl, hX2⟩; obtain ⟨r0, r1, r2, r3, r4⟩ := ((hP.ext hX1).ext hX2).c5)
        go_ret2
        exact ⟨rfl, hE1.trans hX2⟩
      · rw [if_neg (fun e => h5 (by rw [← hl3, e]; rfl))] at HX1
        have e5 : ((n3 : Int) == 0) = false := by simp; omega
        clear HX
        cases hr : Pk.reaches code n1 with
        | none =>
          have HR := hd hr
          rw [hr] at HX1
          subst HX1
          clear hr
          go_wp2_with (first | (go_at_call 99; (with_reducible refine (RCheck_any A3 n3 c3 code _ (h3.ext hE1) hn3).mono ?_); rw [HC.out]; rintro e v2 ⟨rfl, hX2⟩; obtain ⟨r0, r1, r2, r3, r4⟩ := ((hP.ext hX1).ext hX2).c5) | (go_at_call 110; (with_reducible refine (RBeyond_any A3 n3 c3 code n1 _ (h3.ext (hE1.trans hX2)) hn3).mono ?_); rw [HR.out]; rintro e v3 ⟨rfl, hX3⟩; simp only [reachN]))
          go_ret2
          exact ⟨rfl, (hE1.trans hX2).trans hX3⟩
        | some j =>
          have HR := hd hr
          rw [hr] at HX1
          subst HX1
          clear hr
          go_wp2_with (first | (go_at_call 99; (with_reducible refine (RCheck_any A3 n3 c3 code _ (h3.ext hE1) hn3).mono ?_); rw [HC.out]; rintro e v2 ⟨rfl, hX2⟩; obtain ⟨r0, r1, r2, r3, r4⟩ := ((hP.ext hX1).ext hX2).c5) | (go_at_call 110; (with_reducible refine (RBeyond_any A3 n3 c3 code n1 _ (h3.ext (hE1.trans hX2)) hn3).mono ?_); rw [HR.out]; rintro e v3 ⟨rfl, hX3⟩; simp only [reachN]))
          go_ret2
          exact ⟨rfl, (hE1.trans hX2).trans hX3⟩
    · rw [if_pos h4] at HX1
      subst HX1
      have e4 : (e != 0) = true := by simpa using h4
      clear HX h4
      go_wp2_with (go_at_call 99; (with_reducible refine (RCheck_any A3 n3 c3 code _ (h3.ext hE1) hn3).mono ?_); rw [HC.out]; rintro e v2 ⟨rfl, hX2⟩)
      go_ret2
      exact ⟨rfl, hE1.trans hX2⟩
  · have HX1 := HX.out
    rw [if_pos h0] at HX1
    subst HX1
    have e0 : (s != 0) = true := by simpa using h0
    clear HX h0
    go_wp2_with (go_at_call 74; (with_reducible refine (HS.out _ (h2.ext hE)).mono ?_); rintro e v1 ⟨rfl, hX1⟩)
    go_ret2
    exact ⟨rfl, hE.trans hX1⟩

set_option maxHeartbeats 4000000 in
theorem ROf_any (lo hi : Int) (A1 A2 A3 : Option Addr) (n1 n2 n3 c1 c2 c3 : Nat) (data : List UInt8) (code : List Cd.Ins) (ts : List (Int × Int)) (w : World)
    (h1 : Rd w 1 A1 n1 (bv data)) (h2 : Rd w 2 A2 n2 (tv ts)) (h3 : Rd w 8 A3 n3 (cv code))
    (hn1 : n1 ≤ 140737488355328) (hn2 : n2 * 16 ≤ 140737488355328) (hn3 : n3 * 56 ≤ 140737488355328) :
    Calls Try.prog 63 #[.agg #[.int .i64 lo, .int .i64 hi, .slice A1 n1 c1, .slice A2 n2 c2, .slice A3 n3 c3]] w (DecPost (Pk.pof ⟨lo, hi, data, ts, code⟩) w) := by
  obtain ⟨i, e, hc⟩ : ∃ i e, Pk.pcheck ⟨lo, hi, data, ts, code⟩ = (i, e) := ⟨_, _, rfl⟩
  obtain ⟨X, hX⟩ : ∃ X, Pk.pof ⟨lo, hi, data, ts, code⟩ = X := ⟨_, rfl⟩
  rw [hX]
  have HX := hd hX
  have HC := hd hc
  go_enter Try.func63, Try.ntmps63
  go_upto_region 1 with (fail)
  refine wp_world (fun W => Ext w W ∧ Blk W w.heap.size 90 #[.int .i64 lo, .int .i64 hi, .slice A1 n1 c1, .slice A2 n2 c2, .slice A3 n3 c3] ∧ Blk W (w.heap.size + 1) 25 #[.int .i64 0, .int .i64 0, .slice none 0 0, .slice none 0 0, .slice none 0 0])
    ⟨(Ext.new _ _).alloc _, (Blk.new _ _ _).alloc _, by simpa using Blk.new (w.alloc _) 25 _⟩ ?_
  rintro W ⟨hX, hP, hR⟩
  have hsz := hP.lt
  have hsz2 := hR.lt
  obtain ⟨p0, p1, p2, p3, p4⟩ := hP.c5
  by_cases h0 : e = 0
  · subst h0
    have hf := Pk.check_fine (show (Pk.pcheck ⟨lo, hi, data, ts, code⟩).2 = 0 by rw [hc])
    have he : Cd.encode code = (Cd.flat code, 0, 0) := Cd.encode_ok hf.2.2.1 hf.2.2.2.1
    have hXe : X = (⟨lo, hi, data, ts, Cd.flat code⟩, 0, 0) := by
      rw [← HX.out]
      unfold Pk.pof
      rw [hc, if_neg (show ¬ ((0 : Int) ≠ 0) by decide), he]
    have hi0 : i = 0 := by have := hf.1; rw [hc] at this; exact congrArg Prod.fst this
    subst hi0
    have HE := hd he
    have HXE := hd hXe
    clear hf he hXe hc HX
    obtain ⟨F, hF⟩ : ∃ F, Cd.flat code = F := ⟨_, rfl⟩
    rw [hF] at HE HXE
    clear hF
    go_upto_region 5 with (first | (go_at_call 109; (with_reducible refine (RPCheck_any lo hi A1 A2 A3 n1 n2 n3 c1 c2 c3 data code ts _ (h1.ext hX) (h2.ext hX) (h3.ext hX) hn1 hn2 hn3).mono ?_); rw [HC.out]; rintro e' v1 ⟨rfl, hX1⟩; obtain ⟨q0, q1, q2, q3, q4⟩ := (hP.ext hX1).c5) | (go_at_call 53; (with_reducible refine (REncode_any A3 n3 c3 code _ (h3.ext (hX.trans hX1)) hn3).mono ?_); rw [HE.out]; rintro e' v2 ⟨A4, c4, rfl, own4, hX2⟩))
    have hX12 := hX1.trans hX2
    have hE := hX.trans hX12
    have hP2 := hP.ext hX12
    have hR2 := hR.ext hX12
    have hz1 := hX1.size
    have hz2' := hX2.size
    have hz := hE.size
    clear p0 p1 p2 p3 p4 q0 q1 q2 q3 q4 hP hR
    have hX := hE
    have hP := hP2
    have hR := hR2
    clear hE hP2 hR2
    obtain ⟨r0, r1, r2, r3, r4⟩ := hP.c5
    obtain ⟨i5, hi5, hz5, hs5, hb5⟩ := info_parts info5
    obtain ⟨i54, hi54, hz54, hs54, hb54⟩ := info_parts info54
    go_upto_region 6 with (fail)
    refine wp_world (fun W' => Ext v2 W' ∧ Blk W' v2.heap.size 25 #[.int .i64 lo, .int .i64 hi, .slice none 0 0, .slice none 0 0, .slice A4 F.length c4]) ⟨?_, ?_⟩ ?_
    · exact Ext.new _ _
    · exact Blk.new _ _ _
    obtain ⟨gp, hgp⟩ : ∃ gp, v2.heap.size = gp := ⟨_, rfl⟩
    rw [hgp]
    rintro W4 ⟨hX4, hB4⟩
    have hP4 := hP.ext hX4
    have hR4 := hR.ext hX4
    have own4'' := hX4.own own4
    have hv3 := hX.size
    clear r0 r1 r2 r3 r4 hP hR own4
    obtain ⟨r0, r1, r2, r3, r4⟩ := hP4.c5
    obtain ⟨t0, t1, t2, t3, t4⟩ := hB4.c5
    obtain ⟨u0, u1, u2, u3, u4⟩ := hB4.f5
    go_upto_region 7 with (refine wl_appendK (.tmp 35) (.tmp 37) 22 W4.heap.size 5 i5 _ 1 1 Try.underlying22 hi5 hz5 hs5 hb5 rfl (by omega) _ 0 [] rfl (World.ownsRow_nil _ _ _ _) A1 n1 c1 (bv data) rfl (h1.ext (hX.trans hX4)) (bv_one _) (by omega) (by omega) (Nat.le_refl _) ?_; intro v5 W5 own5 hg5; rw [Nat.zero_add, List.nil_append] at own5; have hX5 : Ext W4 W5 := (Ext.refl W4).grown_own (World.ownsRow_nil W4 W4.heap.size 5 1) hg5 (Nat.le_refl _); obtain ⟨D5, e5', rfl, -⟩ := own_form own5; obtain ⟨y0, y1, y2, y3, y4⟩ := (hB4.ext hX5).c5; obtain ⟨z0, z1, z2, z3, z4⟩ := (hB4.ext hX5).f5)
    have hB5 := (hB4.ext hX5).set_ 2 (.slice D5 n1 e5')
    refine wp_world (fun W' => Kp (fun b => b = gp) W4 W' ∧ Blk W' gp 25 #[.int .i64 lo, .int .i64 hi, .slice D5 n1 e5', .slice none 0 0, .slice A4 F.length c4] ∧ W'.ownsRow W4.heap.size 5 1 (.slice D5 n1 e5') n1 (bv data)) ⟨Kp.set (S := fun b => b = gp) (Kp.of_ext hX5) ⟨gp, 2, none⟩ (.inl rfl) _, hB5, own_set own5 (p := ⟨gp, 2, none⟩) (own_blk_ne own5 (hB4.ext hX5) (by decide)) _⟩ ?_
    rintro W6 ⟨hK6, hB6, own6⟩
    clear y0 y1 y2 y3 y4 z0 z1 z2 z3 z4 t0 t1 t2 t3 t4 u0 u1 u2 u3 u4 hB5 own5 hX5 hg5 r0 r1 r2 r3 r4
    have hgpW : w.heap.size ≤ gp := by omega
    have hX6 : Ext w W6 := hK6.ext (hX.trans hX4) (fun k e => by omega)
    have nP : w.heap.size ≠ gp := by have := hsz; omega
    have nR : w.heap.size + 1 ≠ gp := by have := hsz2; omega
    have hP6 := hK6.blk hP4 nP
    have hR6 := hK6.blk hR4 nR
    have own46 := hK6.own own4'' (fun k e1 e2 => own_blk_ne own4'' hB4 (by decide) (by rw [e1, e2]))
    obtain ⟨r0, r1, r2, r3, r4⟩ := hP6.c5
    obtain ⟨t0, t1, t2, t3, t4⟩ := hB6.c5
    go_upto_region 8 with (refine wl_appendK (.tmp 41) (.tmp 43) 23 W6.heap.size 54 i54 _ 2 16 Try.underlying23 hi54 hz54 hs54 hb54 rfl (by omega) _ 0 [] rfl (World.ownsRow_nil _ _ _ _) A2 n2 c2 (tv ts) rfl (h2.ext hX6) (tv_one _) (by omega) (by omega) (Nat.le_refl _) ?_; intro v7 W7 own7 hg7; rw [Nat.zero_add, List.nil_append] at own7; have hX7 : Ext W6 W7 := (Ext.refl W6).grown_own (World.ownsRow_nil W6 W6.heap.size 54 2) hg7 (Nat.le_refl _); obtain ⟨D7, e7', rfl, -⟩ := own_form own7; obtain ⟨y0, y1, y2, y3, y4⟩ := (hB6.ext hX7).c5; obtain ⟨z0, z1, z2, z3, z4⟩ := (hB6.ext hX7).f5)
    have hB7 := (hB6.ext hX7).set_ 3 (.slice D7 n2 e7')
    refine wp_world (fun W' => Kp (fun b => b = gp) W6 W' ∧ Blk W' gp 25 #[.int .i64 lo, .int .i64 hi, .slice D5 n1 e5', .slice D7 n2 e7', .slice A4 F.length c4] ∧ W'.ownsRow W6.heap.size 54 2 (.slice D7 n2 e7') n2 (tv ts)) ⟨Kp.set (S := fun b => b = gp) (Kp.of_ext hX7) ⟨gp, 3, none⟩ (.inl rfl) _, hB7, own_set own7 (p := ⟨gp, 3, none⟩) (own_blk_ne own7 (hB6.ext hX7) (by decide)) _⟩ ?_
    rintro W8 ⟨hK8, hB8, own8⟩
    clear y0 y1 y2 y3 y4 z0 z1 z2 z3 z4 t0 t1 t2 t3 t4 hB7 own7 hX7 hg7 r0 r1 r2 r3 r4
    have hX8 : Ext w W8 := hK8.ext hX6 (fun k e => by omega)
    have hR8 := hK8.blk hR6 nR
    have own48 := hK8.own own46 (fun k e1 e2 => own_blk_ne own46 hB6 (by decide) (by rw [e1, e2]))
    have own58 := hK8.own own6 (fun k e1 e2 => own_blk_ne own6 hB6 (by decide) (by rw [e1, e2]))
    have hs4 := (hX.trans hX4).size
    have hs6 := hX6.size
    have hap : (Value.slice D5 n1 e5').ownBlock = none ∨ (Value.slice D5 n1 e5').ownBlock ≠ (Value.slice A4 F.length c4).ownBlock := own_apart own4'' own6 (Nat.le_refl _)
    clear hR6 hP6 hP4 hR4 own46 own6 own4'' hK6 hK8
    have HAP := hd hap
    clear hap
    obtain ⟨t0, t1, t2, t3, t4⟩ := hB8.c5
    obtain ⟨f0, f1, f2, f3, f4⟩ := hR8.f5
    obtain ⟨g0, g1, g2, g3, g4⟩ := hR8.c5
    go_wp2
    obtain ⟨q0, q1, q2, q3, q4⟩ := (hR8.s5 (.int .i64 lo) (.int .i64 hi) (.slice D5 n1 e5') (.slice D7 n2 e7') (.slice A4 F.length c4)).c5
    refine bodyPost_ret (v := .tuple #[.agg #[.int .i64 lo, .int .i64 hi, .slice D5 n1 e5', .slice D7 n2 e7', .slice A4 F.length c4], .int .i64 0, .int .i64 0]) (by simp [results, Try.results63, go_sem, q0, q1, q2, q3, q4]) rfl ?_
    rw [HXE.out]
    exact ⟨D5, n1, e5', D7, n2, e7', A4, F.length, c4, rfl, hX8.s5 (by omega) _ _ _ _ _,
      own_s5 (own_base own58 hs4) (own_blk_ne own58 hR8 (by decide)) _ _ _ _ _,
      own_s5 (own_base own8 hs6) (own_blk_ne own8 hR8 (by decide)) _ _ _ _ _,
      own_s5 (own_base own48 (by omega)) (own_blk_ne own48 hR8 (by decide)) _ _ _ _ _, HAP.out⟩
  · have e0 : (e != 0) = true := by simpa using h0
    have hXe : X = (Pk.C0, i, e) := by
      rw [← HX.out]
      unfold Pk.pof
      rw [hc, if_pos h0]
    have HXE := hd hXe
    clear hXe hc HX h0
    go_upto_region 3 with (go_at_call 109; (with_reducible refine (RPCheck_any lo hi A1 A2 A3 n1 n2 n3 c1 c2 c3 data code ts _ (h1.ext hX) (h2.ext hX) (h3.ext hX) hn1 hn2 hn3).mono ?_); rw [HC.out]; rintro e' v1 ⟨rfl, hX1⟩)
    obtain ⟨f0, f1, f2, f3, f4⟩ := (hR.ext hX1).f5
    obtain ⟨g0, g1, g2, g3, g4⟩ := (hR.ext hX1).c5
    go_wp2
    obtain ⟨q0, q1, q2, q3, q4⟩ := ((hR.ext hX1).s5 (.int .i64 0) (.int .i64 0) (.slice none 0 0) (.slice none 0 0) (.slice none 0 0)).c5
    refine bodyPost_ret (v := .tuple #[.agg #[.int .i64 0, .int .i64 0, .slice none 0 0, .slice none 0 0, .slice none 0 0], .int .i64 i, .int .i64 e]) (by simp [results, Try.results63, go_sem, q0, q1, q2, q3, q4]) rfl ?_
    exact DecPost.err HXE.out rfl ((hX.trans hX1).s5 (by omega) _ _ _ _ _)

end Go.Proofs.Ytfcbedkidjclhaa
