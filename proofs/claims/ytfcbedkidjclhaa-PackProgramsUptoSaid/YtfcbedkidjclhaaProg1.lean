/-
  The contracts of the statements' own copies and comparisons of programs, and of slices.Clone.
  Conditions: each slice reads as a list and takes no more than 2^47 bytes.
-/
import Derived.Test.YtfcbedkidjclhaaCode16
import Derived.Test.YtfcbedkidjclhaaCode8
import Derived.Test.YtfcbedkidjclhaaCode7
import Derived.Test.YtfcbedkidjclhaaDec6
import Derived.Test.YtfcbedkidjclhaaProgM
namespace Go.Proofs.Ytfcbedkidjclhaa
open Go.RowKit
set_option maxRecDepth 100000
set_option linter.unusedSimpArgs false
set_option linter.unusedVariables false

theorem cv_oneP (l : List Cd.Ins) : ∀ u ∈ cv l, u.oneCell' = true := by
  intro u hu
  simp only [cv, List.mem_flatMap] at hu
  obtain ⟨y, _, hy⟩ := hu
  simp [insC] at hy
  rcases hy with rfl | rfl | rfl | rfl | rfl | rfl | rfl | rfl <;> rfl
theorem own_emptyP (w : World) (e : TypeId) (sz : Nat) : (w.alloc (.cells #[] e)).ownsRow w.heap.size e sz (.slice (some ⟨w.heap.size, 0, none⟩) 0 0) 0 [] :=
  ⟨by simp, .inr ⟨w.heap.size, 0, #[], rfl, Nat.le_refl _, Blk.new _ _ _, Nat.le_refl _, Nat.zero_le _, by simp, by simp⟩⟩
theorem decode_lenP {bs : List UInt8} {l : List Cd.Ins} {p : Nat} {e : Int} (h : Cd.decode bs = (l, p, e)) : l.length ≤ 4096 := by
  by_cases he : e = 0
  · subst he; exact (Cd.decode_ok h).2.2.2.2
  · rw [(Cd.decode_bad h he).1]; simp

set_option maxHeartbeats 400000 in
theorem CopyCode_any (A : Option Addr) (n c : Nat) (l : List Cd.Ins) (w : World) (h : Rd w 8 A n (cv l)) (hn : n * 56 ≤ 140737488355328) :
    Calls Try.prog 68 #[.slice A n c] w fun e w' => ∃ A' c', e = .returned (.slice A' n c') ∧ w'.ownsRow w.heap.size 64 8 (.slice A' n c') n (cv l) ∧ Ext w w' := by
  obtain ⟨i0, hi0, hz0, hz1, hz2⟩ := info_parts info64
  go_enter Try.func68, Try.ntmps68
  go_wp2_with (at_builtin; refine wpList_app _ rfl _ _ 57 rfl w.heap.size 64 i0 _ 8 56 Try.underlying57 hi0 hz0 hz1 hz2 rfl (by omega) (.slice none 0 0) 0 [] rfl (World.ownsRow_nil _ _ _ _) A n c _ rfl h (cv_oneP _) (by omega) (by omega) (Nat.le_refl _) ?_; intro v1 w1 hown1 hg1 hat1)
  go_ret
  obtain ⟨A', c', rfl, _⟩ := own_form hown1
  simp only [Nat.zero_add, List.nil_append] at hown1 ⊢
  exact ⟨A', c', rfl, hown1, (Ext.refl _).grown hg1 (by simp [Value.ownBlock])⟩

set_option maxHeartbeats 1000000 in
theorem CopyProgram_any (lo hi : Int) (A1 A2 A3 : Option Addr) (n1 n2 n3 c1 c2 c3 : Nat) (data : List UInt8) (code : List Cd.Ins) (ts : List (Int × Int)) (w : World)
    (h1 : Rd w 1 A1 n1 (bv data)) (h2 : Rd w 2 A2 n2 (tv ts)) (h3 : Rd w 8 A3 n3 (cv code))
    (hn1 : n1 ≤ 140737488355328) (hn2 : n2 * 16 ≤ 140737488355328) (hn3 : n3 * 56 ≤ 140737488355328) :
    Calls Try.prog 64 #[.agg #[.int .i64 lo, .int .i64 hi, .slice A1 n1 c1, .slice A2 n2 c2, .slice A3 n3 c3]] w fun e w' =>
      ∃ B1 B2 B3 d1 d2 d3, e = .returned (.agg #[.int .i64 lo, .int .i64 hi, .slice B1 n1 d1, .slice B2 n2 d2, .slice B3 n3 d3]) ∧ w'.ownsRow w.heap.size 5 1 (.slice B1 n1 d1) n1 (bv data) ∧ w'.ownsRow w.heap.size 54 2 (.slice B2 n2 d2) n2 (tv ts) ∧ w'.ownsRow w.heap.size 64 8 (.slice B3 n3 d3) n3 (cv code) ∧ Ext w w' := by
  go_enter Try.func64, Try.ntmps64
  go_wp2
  refine wp_world (fun W => w.heap.size ≤ W.heap.size ∧ Ext w W ∧ Blk W w.heap.size 90 #[.int .i64 lo, .int .i64 hi, .slice A1 n1 c1, .slice A2 n2 c2, .slice A3 n3 c3] ∧ Blk W (w.heap.size + 1) 90 #[.int .i64 0, .int .i64 0, .slice none 0 0, .slice none 0 0, .slice none 0 0])
    ⟨by simp; omega, by simp [Ext]; go_grown, (Blk.new _ _ _).alloc _, by simpa using Blk.new (w.alloc _) 90 _⟩ ?_
  rintro W ⟨hsz, hX, hP, hR⟩
  go_region_held3 (fun w' => w'.cell? ⟨w.heap.size, 0, none⟩ = some (.int .i64 lo) ∧ w'.cell? ⟨w.heap.size, 1, none⟩ = some (.int .i64 hi) ∧ w'.cell? ⟨w.heap.size, 2, none⟩ = some (.slice A1 n1 c1) ∧ w'.cell? ⟨w.heap.size, 3, none⟩ = some (.slice A2 n2 c2) ∧ w'.cell? ⟨w.heap.size, 4, none⟩ = some (.slice A3 n3 c3))
    (first | with_reducible exact hP.drew.c5 | with_reducible exact (hP.ext hX1).c5 | with_reducible exact (hP.ext hX2).c5 | with_reducible exact (hP.ext hX3).c5 | go_keep)
    (first | (go_at_call 26; with_reducible refine (CopyTables_any A2 n2 c2 ts _ (h2.ext (hX.trans hX1)) hn2).mono ?_; rintro e w2 ⟨B2, d2, rfl, hown2, hb2⟩; have hX2 := hX1.trans hb2) | (go_at_call 68; have tok := hX2; with_reducible refine (CopyCode_any A3 n3 c3 code _ (h3.ext (hX.trans hX2)) hn3).mono ?_; rintro e w3 ⟨B3, d3, rfl, hown3, hb3⟩; have hX3 := hX2.trans hb3; obtain ⟨f0, f1, f2, f3, f4⟩ := (hR.ext hX3).f5; obtain ⟨g0, g1, g2, g3, g4⟩ := (hR.ext hX3).c5) | (go_at_call 36; with_reducible refine (CopyBytes_any A1 n1 c1 data _ (h1.ext hX.drew) hn1).mono ?_; rintro e w1 ⟨B1, d1, rfl, hown1, hb1⟩; have hX1 := hb1.of_drew))
  go_wp2
  obtain ⟨q0, q1, q2, q3, q4⟩ := ((hR.ext hX3).s5 (.int .i64 lo) (.int .i64 hi) (.slice B1 n1 d1) (.slice B2 n2 d2) (.slice B3 n3 d3)).c5
  refine bodyPost_ret (v := .agg #[.int .i64 lo, .int .i64 hi, .slice B1 n1 d1, .slice B2 n2 d2, .slice B3 n3 d3]) (by simp [results, Try.results64, go_sem, q0, q1, q2, q3, q4]) rfl ?_
  have hRX := hR.ext hX3
  exact ⟨B1, B2, B3, d1, d2, d3, rfl, own_s5 (own_base (hb3.own (hb2.own hown1)) hsz) (own_blk_ne (hb3.own (hb2.own hown1)) hRX (by decide)) _ _ _ _ _,
    own_s5 (own_base (hb3.own hown2) (Nat.le_trans hsz hX1.size)) (own_blk_ne (hb3.own hown2) hRX (by decide)) _ _ _ _ _, own_s5 (own_base hown3 (Nat.le_trans hsz hX2.size)) (own_blk_ne hown3 hRX (by decide)) _ _ _ _ _, (hX.trans hX3).s5 (by omega) _ _ _ _ _⟩

set_option maxHeartbeats 1000000 in
theorem SameProgram_any (lo hi lo' hi' : Int) (A1 A2 A3 B1 B2 B3 : Option Addr) (n1 n2 n3 c1 c2 c3 m1 m2 m3 d1 d2 d3 : Nat) (data data' : List UInt8) (code code' : List Cd.Ins) (ts ts' : List (Int × Int)) (w : World)
    (h1 : Rd w 1 A1 n1 (bv data)) (h2 : Rd w 2 A2 n2 (tv ts)) (h3 : Rd w 8 A3 n3 (cv code)) (k1 : Rd w 1 B1 m1 (bv data')) (k2 : Rd w 2 B2 m2 (tv ts')) (k3 : Rd w 8 B3 m3 (cv code'))
    (hn2 : n2 * 16 ≤ 140737488355328) (hm2 : m2 * 16 ≤ 140737488355328) (hn3 : n3 * 56 ≤ 140737488355328) (hm3 : m3 * 56 ≤ 140737488355328) :
    Calls Try.prog 61 #[.agg #[.int .i64 lo, .int .i64 hi, .slice A1 n1 c1, .slice A2 n2 c2, .slice A3 n3 c3], .agg #[.int .i64 lo', .int .i64 hi', .slice B1 m1 d1, .slice B2 m2 d2, .slice B3 m3 d3]] w fun e w' =>
      ∃ r : Bool, (r = true ↔ (lo = lo' ∧ hi = hi' ∧ data = data' ∧ ts = ts' ∧ code = code')) ∧ e = .returned (.bool r) ∧ Ext w w' := by
  go_enter Try.func61, Try.ntmps61
  go_upto_region 1 with (fail)
  refine wp_world (fun W => Ext w W ∧ Blk W w.heap.size 90 #[.int .i64 lo, .int .i64 hi, .slice A1 n1 c1, .slice A2 n2 c2, .slice A3 n3 c3] ∧ Blk W (w.heap.size + 1) 90 #[.int .i64 lo', .int .i64 hi', .slice B1 m1 d1, .slice B2 m2 d2, .slice B3 m3 d3])
    ⟨((Ext.refl _).alloc _).alloc _, (Blk.new _ _ _).alloc _, by simpa using Blk.new (w.alloc _) 90 _⟩ ?_
  rintro W ⟨hX, hP, hR⟩
  obtain ⟨p0, p1, p2, p3, p4⟩ := hP.c5
  obtain ⟨r0, r1, r2, r3, r4⟩ := hR.c5
  go_wp2_with (first | (go_at_call 77; with_reducible refine (SameTables_any A2 B2 n2 m2 c2 d2 ts ts' _ (h2.ext hX) (k2.ext hX) hn2 hm2).mono ?_; rintro e w1 ⟨rfl, hX1⟩; have p41 := hX1.cell p4; have r41 := hX1.cell r4) | (go_at_call 87; with_reducible refine (SameCode_any A3 B3 n3 m3 c3 d3 code code' _ (h3.ext (hX.trans hX1)) (k3.ext (hX.trans hX1)) hn3 hm3).mono ?_; rintro e w2 ⟨r, hr, rfl, hX2⟩) | (go_at_call 33; with_reducible refine (SameBytes_any A1 B1 n1 m1 c1 d1 data data' _ (h1.ext hX) (k1.ext hX)).mono ?_; rintro e w2 ⟨rfl, rfl⟩))
  all_goals go_ret
  all_goals first | exact ⟨_, by simp_all, rfl, (hX.trans hX1).trans hX2⟩ | exact ⟨_, by simp_all, rfl, hX.trans hX1⟩ | exact ⟨_, by simp_all, rfl, hX⟩

theorem eqln22 (c : Nat) (w : World) : (binOp .eql 22 (.slice none 0 c) (.slice none 0 0)).run Try.prog w = .ok (.bool true) w := by
  have h : ∀ d : Nat, (Op.equalIn (d + 1) 22 (.slice none 0 c) (.slice none 0 0)).run Try.prog w = .ok true w := fun d => by simp [Op.equalIn, run_underlying Try.underlying22]
  simp [binOp, Op.equal, Op.maxDepth, h 9999]
theorem eqls22 (ad : Addr) (n c : Nat) (w : World) : (binOp .eql 22 (.slice (some ad) n c) (.slice none 0 0)).run Try.prog w = .ok (.bool false) w := by
  have h : ∀ d : Nat, (Op.equalIn (d + 1) 22 (.slice (some ad) n c) (.slice none 0 0)).run Try.prog w = .ok false w := fun d => by simp [Op.equalIn, run_underlying Try.underlying22]
  simp [binOp, Op.equal, Op.maxDepth, h 9999]
theorem eqln23 (c : Nat) (w : World) : (binOp .eql 23 (.slice none 0 c) (.slice none 0 0)).run Try.prog w = .ok (.bool true) w := by
  have h : ∀ d : Nat, (Op.equalIn (d + 1) 23 (.slice none 0 c) (.slice none 0 0)).run Try.prog w = .ok true w := fun d => by simp [Op.equalIn, run_underlying Try.underlying23]
  simp [binOp, Op.equal, Op.maxDepth, h 9999]
theorem eqls23 (ad : Addr) (n c : Nat) (w : World) : (binOp .eql 23 (.slice (some ad) n c) (.slice none 0 0)).run Try.prog w = .ok (.bool false) w := by
  have h : ∀ d : Nat, (Op.equalIn (d + 1) 23 (.slice (some ad) n c) (.slice none 0 0)).run Try.prog w = .ok false w := fun d => by simp [Op.equalIn, run_underlying Try.underlying23]
  simp [binOp, Op.equal, Op.maxDepth, h 9999]

set_option maxHeartbeats 400000 in
theorem CloneBytes_any (A : Option Addr) (n c : Nat) (bs : List UInt8) (w : World) (h : Rd w 1 A n (bv bs)) (hn : n ≤ 140737488355328) :
    Calls Try.prog 106 #[.slice A n c] w fun e w' => ∃ A' c', e = .returned (.slice A' n c') ∧ w'.ownsRow w.heap.size 5 1 (.slice A' n c') n (bv bs) ∧ Ext w w' := by
  obtain ⟨i0, hi0, hz0, hz1, hz2⟩ := info_parts info5
  cases A with
  | none =>
    have hn0 : n = 0 := by
      rcases Nat.eq_zero_or_pos n with h0 | h0
      · exact h0
      · obtain ⟨_, h1, _⟩ := h.2 h0
        cases h1
    subst hn0
    have hb : bv bs = [] := List.eq_nil_of_length_eq_zero (by have := h.1; omega)
    rw [hb]
    have hq := eqln22 c w
    go_enter Try.func106, Try.ntmps106
    go_wp2
    go_ret
    exact ⟨none, 0, rfl, World.ownsRow_nil _ _ _ _, Ext.refl _⟩
  | some ad =>
    have hq := eqls22 ad n c w
    go_enter Try.func106, Try.ntmps106
    go_wp2_with (at_builtin; refine wpList_app _ rfl _ _ 22 rfl w.heap.size 5 i0 _ 1 1 Try.underlying22 hi0 hz0 hz1 hz2 rfl (by omega) (.slice (some ⟨w.heap.size, 0, none⟩) 0 0) 0 [] rfl (own_emptyP w 5 1) (some ad) n c _ rfl (h.alloc _) (bv_one _) (by omega) (by omega) (by simp) ?_; intro v1 w1 hown1 hg1 hat1)
    go_ret
    obtain ⟨A', c', rfl, _⟩ := own_form hown1
    simp only [Nat.zero_add, List.nil_append] at hown1 ⊢
    exact ⟨A', c', rfl, hown1, (Ext.new w _).grown_own (own_emptyP w 5 1) hg1 (Nat.le_refl _)⟩

set_option maxHeartbeats 400000 in
theorem CloneTables_any (A : Option Addr) (n c : Nat) (bs : List (Int × Int)) (w : World) (h : Rd w 2 A n (tv bs)) (hn : n * 16 ≤ 140737488355328) :
    Calls Try.prog 107 #[.slice A n c] w fun e w' => ∃ A' c', e = .returned (.slice A' n c') ∧ w'.ownsRow w.heap.size 54 2 (.slice A' n c') n (tv bs) ∧ Ext w w' := by
  obtain ⟨i0, hi0, hz0, hz1, hz2⟩ := info_parts info54
  cases A with
  | none =>
    have hn0 : n = 0 := by
      rcases Nat.eq_zero_or_pos n with h0 | h0
      · exact h0
      · obtain ⟨_, h1, _⟩ := h.2 h0
        cases h1
    subst hn0
    have hb : tv bs = [] := List.eq_nil_of_length_eq_zero (by have := h.1; omega)
    rw [hb]
    have hq := eqln23 c w
    go_enter Try.func107, Try.ntmps107
    go_wp2
    go_ret
    exact ⟨none, 0, rfl, World.ownsRow_nil _ _ _ _, Ext.refl _⟩
  | some ad =>
    have hq := eqls23 ad n c w
    go_enter Try.func107, Try.ntmps107
    go_wp2_with (at_builtin; refine wpList_app _ rfl _ _ 23 rfl w.heap.size 54 i0 _ 2 16 Try.underlying23 hi0 hz0 hz1 hz2 rfl (by omega) (.slice (some ⟨w.heap.size, 0, none⟩) 0 0) 0 [] rfl (own_emptyP w 54 2) (some ad) n c _ rfl (h.alloc _) (tv_one _) (by omega) (by omega) (by simp) ?_; intro v1 w1 hown1 hg1 hat1)
    go_ret
    obtain ⟨A', c', rfl, _⟩ := own_form hown1
    simp only [Nat.zero_add, List.nil_append] at hown1 ⊢
    exact ⟨A', c', rfl, hown1, (Ext.new w _).grown_own (own_emptyP w 54 2) hg1 (Nat.le_refl _)⟩


/-! ### does an instruction point beyond the data? -/
theorem beyond_any (x : Cd.Ins) (m g : Nat) (w : World) (hB : Blk w g 3 #[.int .i64 (m : Int)]) : Calls Try.prog 142 #[.agg (insC x), .pointer (some ⟨g, 0, none⟩)] w fun e w' => e = .returned (.bool (Pk.reachB m x)) ∧ Ext w w' := by
  obtain ⟨op, nr, rg, sz, ds, sr, of, im⟩ := x
  have c0 := hB.c1
  go_enter Try.func142, Try.ntmps142
  simp only [insC]
  go_upto_region 1 with (fail)
  refine wp_world (fun W => Ext w W ∧ Blk W w.heap.size 64 #[.int .i64 op, .bool nr, .bool rg, .int .i64 sz, .int .i64 ds, .int .i64 sr, .int .i64 of, .int .i64 im]) ⟨Ext.new _ _, Blk.new _ _ _⟩ ?_
  rintro W ⟨hE, hP⟩
  obtain ⟨p0, p1, p2, p3, p4, p5, p6, p7⟩ := hP.c8
  have c1 := hE.cell c0
  go_wp2
  all_goals go_ret
  all_goals exact ⟨ret_bool (by simp [Pk.reachB, *]), hE⟩

def idxOf (o : Option Nat) : Int := match o with | some i => (i : Int) | none => -1
theorem reach_hit {l : List Cd.Ins} {m k : Nat} (h : k < l.length) (hno : (l.take k).any (Pk.reachB m) = false) (hf : Pk.reachB m l[k] = true) : Pk.reaches l m = some k := by
  unfold Pk.reaches
  rw [List.findIdx?_eq_some_iff_getElem]
  refine ⟨h, hf, fun j hj => ?_⟩
  have := List.any_eq_false.mp hno (l[j]) (by rw [List.mem_take_iff_getElem]; exact ⟨j, by omega, rfl⟩)
  simpa using this
theorem reach_none {l : List Cd.Ins} {m : Nat} (hno : l.any (Pk.reachB m) = false) : Pk.reaches l m = none := by
  unfold Pk.reaches
  rw [List.findIdx?_eq_none_iff]
  intro x hx
  have := List.any_eq_false.mp hno x hx
  simpa using this
theorem reach_miss {l : List Cd.Ins} {m k : Nat} (h : k < l.length) (hno : (l.take k).any (Pk.reachB m) = false) (hf : Pk.reachB m l[k] = false) : (l.take (k + 1)).any (Pk.reachB m) = false := by
  rw [List.take_succ_eq_append_getElem h, List.any_append, hno]
  simp [hf]

set_option maxHeartbeats 400000 in
theorem IndexIns_any (A : Option Addr) (n c : Nat) (l : List Cd.Ins) (m g : Nat) (w : World) (h : Rd w 8 A n (cv l)) (hn : n * 56 ≤ 140737488355328) (hB : Blk w g 3 #[.int .i64 (m : Int)]) :
    Calls Try.prog 141 #[.slice A n c, .func (.func 142) #[] #[.pointer (some ⟨g, 0, none⟩)]] w fun e w' => e = .returned (.int .i64 (idxOf (Pk.reaches l m))) ∧ Ext w w' := by
  have hx : l.length = n := by have := h.1; rw [cv_length] at this; omega
  have Hx := hd hx
  clear hx
  obtain ⟨X, hX⟩ : ∃ X, Pk.reaches l m = X := ⟨_, rfl⟩
  rw [hX]
  have HX := hd hX
  clear hX
  go_enter Try.func141, Try.ntmps141
  go_wp2
  go_loopw [8] (fun i wr => ∃ k : Nat, k ≤ n ∧ i = .int .i64 k ∧ Ext w wr ∧ Hid ((l.take k).any (Pk.reachB m) = false)) (fun i _ => n - (intOf i).toNat)
  case atStart => exact ⟨0, by omega, rfl, Ext.refl _, hd rfl⟩
  case round =>
    obtain ⟨k, hk, rfl, hX, Heq⟩ := hrel
    have hB1 := hB.ext hX
    by_cases hlt : k < n
    · obtain ⟨b, o, rfl, hc⟩ := (h.ext hX).form (by omega) (by omega)
      have hkx : k < l.length := by have := Hx.out; omega
      obtain ⟨q0, q1, q2, q3, q4, q5, q6, q7⟩ := ins_cells hc hkx
      clear hc
      have HH := hd (reach_hit (m := m) hkx Heq.out)
      have HM := hd (reach_miss (m := m) hkx Heq.out)
      obtain ⟨y, hy⟩ : ∃ y, l[k] = y := ⟨_, rfl⟩
      rw [hy] at q0 q1 q2 q3 q4 q5 q6 q7 HH HM
      clear hy
      have hcall := fun W hW => beyond_any y m g W hW
      obtain ⟨r, hr⟩ : ∃ r, Pk.reachB m y = r := ⟨_, rfl⟩
      rw [hr] at HH HM hcall
      obtain ⟨yo, yn, yr, yz, yd, ys, yf, yi⟩ := y
      simp only at q0 q1 q2 q3 q4 q5 q6 q7
      simp only [insC] at hcall
      have HC := hd hcall
      clear hcall hr
      cases r with
      | true =>
        go_wp2_with (go_at_call 142; (with_reducible refine (HC.out _ hB1).mono ?_); rintro e w1 ⟨rfl, hX1⟩)
        go_ret
        exact ⟨congrArg (fun z => Ending.returned (.int .i64 z)) (by rw [← HX.out, HH.out (by simp)]; rfl), hX.trans hX1⟩
      | false =>
        go_wp2_with (go_at_call 142; (with_reducible refine (HC.out _ hB1).mono ?_); rintro e w1 ⟨rfl, hX1⟩)
        go_roundw
        case rel => exact ⟨k + 1, by omega, by go_num, hX.trans hX1, hd (HM.out (by simp))⟩
        case measure => simp [intOf]; omega
    · go_wp2
      go_ret
      exact ⟨congrArg (fun z => Ending.returned (.int .i64 z)) (by rw [← HX.out, reach_none (by rw [← List.take_of_length_le (l := l) (i := k) (by rw [Hx.out]; omega), Heq.out])]; rfl), hX⟩

theorem reaches_any (A : Option Addr) (n c : Nat) (l : List Cd.Ins) (m : Nat) (w : World) (h : Rd w 8 A n (cv l)) (hn : n * 56 ≤ 140737488355328) :
    Calls Try.prog 108 #[.slice A n c, .int .i64 (m : Int)] w fun e w' => e = .returned (.int .i64 (idxOf (Pk.reaches l m))) ∧ Ext w w' := by
  go_enter Try.func108, Try.ntmps108
  go_upto_region 1 with (fail)
  refine wp_world (fun W => Ext w W ∧ Blk W w.heap.size 3 #[.int .i64 (m : Int)]) ⟨Ext.new _ _, Blk.new _ _ _⟩ ?_
  rintro W ⟨hE, hP⟩
  go_wp2_with (go_at_call 141; (with_reducible refine (IndexIns_any A n c l m _ _ (h.ext hE) hn hP).mono ?_); rintro e w1 ⟨rfl, hX⟩)
  go_ret
  exact ⟨rfl, hE.trans hX⟩

end Go.Proofs.Ytfcbedkidjclhaa
