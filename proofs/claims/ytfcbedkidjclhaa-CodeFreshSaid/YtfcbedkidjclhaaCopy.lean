/-
  The contracts of the statements' own copies and comparisons (warrantlaw00): CopyBytes, CopyTables, CopyPack, SameBytes, SameTables, SamePack.
  Conditions: each slice reads as a list and takes no more than 2^47 bytes.
-/
import Derived.Test.YtfcbedkidjclhaaBase
namespace Go.Proofs.Ytfcbedkidjclhaa
open Go.RowKit
theorem info5 : (Try.prog.info? 5).map (fun i => (i.zero, i.size, i.bytes)) = some (some (.int .u8 0), 1, 1) := by kernel_rfl
theorem info54 : (Try.prog.info? 54).map (fun i => (i.zero, i.size, i.bytes)) = some (some (.agg #[.int .i64 0, .int .i64 0]), 2, 16) := by kernel_rfl

set_option maxHeartbeats 400000 in
theorem CopyBytes_any (A : Option Addr) (n c : Nat) (bs : List UInt8) (w : World) (h : Rd w 1 A n (bv bs)) (hn : n ≤ 140737488355328) :
    Calls Try.prog 36 #[.slice A n c] w fun e w' => ∃ A' c', e = .returned (.slice A' n c') ∧ w'.ownsRow w.heap.size 5 1 (.slice A' n c') n (bv bs) ∧ Ext w w' := by
  obtain ⟨i0, hi0, hz0, hz1, hz2⟩ := info_parts info5
  go_enter Try.func36, Try.ntmps36
  go_wp2_with (at_builtin; refine wpList_app _ rfl _ _ 22 rfl w.heap.size 5 i0 _ 1 1 Try.underlying22 hi0 hz0 hz1 hz2 rfl (by omega) (.slice none 0 0) 0 [] rfl (World.ownsRow_nil _ _ _ _) A n c _ rfl h (bv_one _) (by omega) (by omega) (Nat.le_refl _) ?_; intro v1 w1 hown1 hg1 hat1)
  go_ret
  obtain ⟨A', c', rfl, _⟩ := own_form hown1
  simp only [Nat.zero_add, List.nil_append] at hown1 ⊢
  exact ⟨A', c', rfl, hown1, (Ext.refl _).grown hg1 (by simp [Value.ownBlock])⟩

set_option maxHeartbeats 400000 in
theorem CopyTables_any (A : Option Addr) (n c : Nat) (ts : List (Int × Int)) (w : World) (h : Rd w 2 A n (tv ts)) (hn : n * 16 ≤ 140737488355328) :
    Calls Try.prog 26 #[.slice A n c] w fun e w' => ∃ A' c', e = .returned (.slice A' n c') ∧ w'.ownsRow w.heap.size 54 2 (.slice A' n c') n (tv ts) ∧ Ext w w' := by
  obtain ⟨i0, hi0, hz0, hz1, hz2⟩ := info_parts info54
  go_enter Try.func26, Try.ntmps26
  go_wp2_with (at_builtin; refine wpList_app _ rfl _ _ 23 rfl w.heap.size 54 i0 _ 2 16 Try.underlying23 hi0 hz0 hz1 hz2 rfl (by omega) (.slice none 0 0) 0 [] rfl (World.ownsRow_nil _ _ _ _) A n c _ rfl h (tv_one _) (by omega) (by omega) (Nat.le_refl _) ?_; intro v1 w1 hown1 hg1 hat1)
  go_ret
  obtain ⟨A', c', rfl, _⟩ := own_form hown1
  simp only [Nat.zero_add, List.nil_append] at hown1 ⊢
  exact ⟨A', c', rfl, hown1, (Ext.refl _).grown hg1 (by simp [Value.ownBlock])⟩

set_option maxHeartbeats 1000000 in
theorem CopyPack_any (lo hi : Int) (A1 A2 A3 : Option Addr) (n1 n2 n3 c1 c2 c3 : Nat) (data code : List UInt8) (ts : List (Int × Int)) (w : World)
    (h1 : Rd w 1 A1 n1 (bv data)) (h2 : Rd w 2 A2 n2 (tv ts)) (h3 : Rd w 1 A3 n3 (bv code))
    (hn1 : n1 ≤ 140737488355328) (hn2 : n2 * 16 ≤ 140737488355328) (hn3 : n3 ≤ 140737488355328) :
    Calls Try.prog 29 #[.agg #[.int .i64 lo, .int .i64 hi, .slice A1 n1 c1, .slice A2 n2 c2, .slice A3 n3 c3]] w fun e w' =>
      ∃ B1 B2 B3 d1 d2 d3, e = .returned (.agg #[.int .i64 lo, .int .i64 hi, .slice B1 n1 d1, .slice B2 n2 d2, .slice B3 n3 d3]) ∧ w'.ownsRow w.heap.size 5 1 (.slice B1 n1 d1) n1 (bv data) ∧ w'.ownsRow w.heap.size 54 2 (.slice B2 n2 d2) n2 (tv ts) ∧ w'.ownsRow w.heap.size 5 1 (.slice B3 n3 d3) n3 (bv code) ∧ Ext w w' := by
  go_enter Try.func29, Try.ntmps29
  go_wp2
  refine wp_world (fun W => w.heap.size ≤ W.heap.size ∧ Ext w W ∧ Blk W w.heap.size 25 #[.int .i64 lo, .int .i64 hi, .slice A1 n1 c1, .slice A2 n2 c2, .slice A3 n3 c3] ∧ Blk W (w.heap.size + 1) 25 #[.int .i64 0, .int .i64 0, .slice none 0 0, .slice none 0 0, .slice none 0 0])
    ⟨by simp; omega, by simp [Ext]; go_grown, (Blk.new _ _ _).alloc _, by simpa using Blk.new (w.alloc _) 25 _⟩ ?_
  rintro W ⟨hsz, hX, hP, hR⟩
  go_region_held3 (fun w' => w'.cell? ⟨w.heap.size, 0, none⟩ = some (.int .i64 lo) ∧ w'.cell? ⟨w.heap.size, 1, none⟩ = some (.int .i64 hi) ∧ w'.cell? ⟨w.heap.size, 2, none⟩ = some (.slice A1 n1 c1) ∧ w'.cell? ⟨w.heap.size, 3, none⟩ = some (.slice A2 n2 c2) ∧ w'.cell? ⟨w.heap.size, 4, none⟩ = some (.slice A3 n3 c3))
    (first | with_reducible exact hP.drew.c5 | with_reducible exact (hP.ext hX1).c5 | with_reducible exact (hP.ext hX2).c5 | with_reducible exact (hP.ext hX3).c5 | go_keep)
    (first | (go_at_call 26; with_reducible refine (CopyTables_any A2 n2 c2 ts _ (h2.ext (hX.trans hX1)) hn2).mono ?_; rintro e w2 ⟨B2, d2, rfl, hown2, hb2⟩; have hX2 := hX1.trans hb2) | (go_at_call 36; have tok := hX2; with_reducible refine (CopyBytes_any A3 n3 c3 code _ (h3.ext (hX.trans hX2)) hn3).mono ?_; rintro e w3 ⟨B3, d3, rfl, hown3, hb3⟩; have hX3 := hX2.trans hb3; obtain ⟨f0, f1, f2, f3, f4⟩ := (hR.ext hX3).f5; obtain ⟨g0, g1, g2, g3, g4⟩ := (hR.ext hX3).c5) | (go_at_call 36; with_reducible refine (CopyBytes_any A1 n1 c1 data _ (h1.ext hX.drew) hn1).mono ?_; rintro e w1 ⟨B1, d1, rfl, hown1, hb1⟩; have hX1 := hb1.of_drew))
  go_wp2
  obtain ⟨q0, q1, q2, q3, q4⟩ := ((hR.ext hX3).s5 (.int .i64 lo) (.int .i64 hi) (.slice B1 n1 d1) (.slice B2 n2 d2) (.slice B3 n3 d3)).c5
  refine bodyPost_ret (v := .agg #[.int .i64 lo, .int .i64 hi, .slice B1 n1 d1, .slice B2 n2 d2, .slice B3 n3 d3]) (by simp [results, Try.results29, go_sem, q0, q1, q2, q3, q4]) rfl ?_
  have hRX := hR.ext hX3
  exact ⟨B1, B2, B3, d1, d2, d3, rfl, own_s5 (own_base (hb3.own (hb2.own hown1)) hsz) (own_blk_ne (hb3.own (hb2.own hown1)) hRX (by decide)) _ _ _ _ _,
    own_s5 (own_base (hb3.own hown2) (Nat.le_trans hsz hX1.size)) (own_blk_ne (hb3.own hown2) hRX (by decide)) _ _ _ _ _, own_s5 (own_base hown3 (Nat.le_trans hsz hX2.size)) (own_blk_ne hown3 hRX (by decide)) _ _ _ _ _, (hX.trans hX3).s5 (by omega) _ _ _ _ _⟩
set_option maxHeartbeats 400000 in
theorem SameBytes_any (A B : Option Addr) (n m c d : Nat) (xs ys : List UInt8) (w : World) (h : Rd w 1 A n (bv xs)) (h' : Rd w 1 B m (bv ys)) :
    Calls Try.prog 33 #[.slice A n c, .slice B m d] w fun e w' => e = .returned (.bool (xs == ys)) ∧ w = w' := by
  have k1 := run_str (P := Try.prog) w 22 9 5 A n c xs Try.underlying22 Try.underlying5 Try.underlying9 h
  have k2 := run_str (P := Try.prog) w 22 9 5 B m d ys Try.underlying22 Try.underlying5 Try.underlying9 h'
  go_enter Try.func33, Try.ntmps33
  go_wp2
  go_ret
  exact ⟨rfl, rfl⟩

theorem neq54 (a b c d : Int) (w : World) : (binOp .neq 54 (.agg #[.int .i64 a, .int .i64 b]) (.agg #[.int .i64 c, .int .i64 d])).run Try.prog w = .ok (.bool (!(a == c && b == d))) w := by
  have hp : Try.prog.stoodInHeld 54 = false := by kernel_rfl
  simp [go_sem, Try.underlying54, Try.underlying3, hp]
  by_cases h1 : a = c <;> by_cases h2 : b = d <;> simp [h1, h2]
theorem neq54_no (x y : Int × Int) (h : x = y) (w : World) : (binOp .neq 54 (.agg #[.int .i64 x.1, .int .i64 x.2]) (.agg #[.int .i64 y.1, .int .i64 y.2])).run Try.prog w = .ok (.bool false) w := by
  subst h
  rw [neq54]; simp
theorem neq54_yes (x y : Int × Int) (h : x ≠ y) (w : World) : (binOp .neq 54 (.agg #[.int .i64 x.1, .int .i64 x.2]) (.agg #[.int .i64 y.1, .int .i64 y.2])).run Try.prog w = .ok (.bool true) w := by
  rw [neq54]
  have : (x.1 == y.1 && x.2 == y.2) = false := by
    rw [Bool.eq_false_iff]
    intro hh
    simp at hh
    exact h (Prod.ext hh.1 hh.2)
  rw [this]; rfl

/-- a search for the first place where two lists of one length part -/
theorem beq_step {α : Type} [BEq α] [LawfulBEq α] {xs ys : List α} {k : Nat} (hx : k < xs.length) (hy : k < ys.length) (h : xs.take k = ys.take k) (e : xs[k] = ys[k]) : xs.take (k + 1) = ys.take (k + 1) := by
  rw [List.take_succ_eq_append_getElem hx, List.take_succ_eq_append_getElem hy, h, e]
theorem beq_end {α : Type} [BEq α] [LawfulBEq α] {xs ys : List α} {k : Nat} (hx : xs.length = k) (hy : ys.length = k) (h : xs.take k = ys.take k) : (xs == ys) = true := by
  rw [List.take_of_length_le (by omega), List.take_of_length_le (by omega)] at h
  simp [h]
theorem beq_stop {α : Type} [BEq α] [LawfulBEq α] {xs ys : List α} {k : Nat} (hx : k < xs.length) (hy : k < ys.length) (e : xs[k] ≠ ys[k]) : (xs == ys) = false := by
  rw [Bool.eq_false_iff]
  intro h
  simp at h
  subst h
  exact e rfl
theorem beq_len {α : Type} [BEq α] [LawfulBEq α] {xs ys : List α} (e : xs.length ≠ ys.length) : (xs == ys) = false := by
  rw [Bool.eq_false_iff]
  intro h
  simp at h
  subst h
  exact e rfl
theorem ret_bool {a b : Bool} (h : a = b) : Ending.returned (.bool a) = .returned (.bool b) := by rw [h]

set_option maxHeartbeats 1000000 in
theorem SameTables_any (A B : Option Addr) (n m c d : Nat) (xs ys : List (Int × Int)) (w : World) (h : Rd w 2 A n (tv xs)) (h' : Rd w 2 B m (tv ys)) (hn : n * 16 ≤ 140737488355328) (hm : m * 16 ≤ 140737488355328) :
    Calls Try.prog 77 #[.slice A n c, .slice B m d] w fun e w' => e = .returned (.bool (xs == ys)) ∧ Ext w w' := by
  have hx : xs.length = n := by have := h.1; rw [tv_length] at this; omega
  have hy : ys.length = m := by have := h'.1; rw [tv_length] at this; omega
  have Hx := hd hx
  have Hy := hd hy
  clear hx hy
  by_cases hnm : n = m
  · subst hnm
    go_enter Try.func77, Try.ntmps77
    go_wp2
    go_loopw [5] (fun i wr => ∃ k : Nat, k ≤ n ∧ i = .int .i64 k ∧ Ext w wr ∧ xs.take k = ys.take k) (fun i _ => n - (intOf i).toNat)
    case atStart => exact ⟨0, by omega, rfl, Ext.refl _, by simp⟩
    case round =>
      obtain ⟨k, hk, rfl, hX, heq⟩ := hrel
      have Heq := hd heq
      clear heq
      by_cases hlt : k < n
      · obtain ⟨b, o, rfl, hc⟩ := (h.ext hX).form (by omega) (by omega)
        obtain ⟨b', o', rfl, hc'⟩ := (h'.ext hX).form (by omega) (by omega)
        have hkx : k < xs.length := by have := Hx.out; omega
        have hky : k < ys.length := by have := Hy.out; omega
        have c0 := hc _ _ (tv_get0 xs k hkx)
        have c1 : wr.cell? ⟨b, o + k * 2 + 1, none⟩ = some (.int .i64 xs[k].2) := hc _ _ (tv_get1 xs k hkx)
        have c2 := hc' _ _ (tv_get0 ys k hky)
        have c3 : wr.cell? ⟨b', o' + k * 2 + 1, none⟩ = some (.int .i64 ys[k].2) := hc' _ _ (tv_get1 ys k hky)
        clear hc hc'
        by_cases he : xs[k] = ys[k]
        · have hq := neq54_no _ _ he
          have He := hd he
          clear he
          go_wp2
          go_quiet (fail)
          go_wp2
          go_roundw
          case rel => exact ⟨k + 1, by omega, by go_num, hX.drewN _, beq_step hkx hky Heq.out He.out⟩
          case measure => simp [intOf]; omega
        · have hq := neq54_yes _ _ he
          have He := hd he
          clear he
          go_wp2
          go_quiet (fail)
          go_wp2
          go_ret
          exact ⟨ret_bool (beq_stop hkx hky He.out).symm, hX.drewN _⟩
      · go_wp2
        go_ret
        have hkn : k = n := by omega
        subst hkn
        exact ⟨ret_bool (beq_end Hx.out Hy.out Heq.out).symm, hX⟩
  · go_enter Try.func77, Try.ntmps77
    go_wp2
    go_ret
    exact ⟨ret_bool (beq_len (by rw [Hx.out, Hy.out]; omega)).symm, Ext.refl _⟩
def samePackB (lo hi : Int) (d : List UInt8) (t : List (Int × Int)) (c : List UInt8) (lo' hi' : Int) (d' : List UInt8) (t' : List (Int × Int)) (c' : List UInt8) : Bool :=
  lo == lo' && hi == hi' && d == d' && t == t' && c == c'

set_option maxHeartbeats 1000000 in
theorem SamePack_any (lo hi lo' hi' : Int) (A1 A2 A3 B1 B2 B3 : Option Addr) (n1 n2 n3 c1 c2 c3 m1 m2 m3 d1 d2 d3 : Nat) (data code data' code' : List UInt8) (ts ts' : List (Int × Int)) (w : World)
    (h1 : Rd w 1 A1 n1 (bv data)) (h2 : Rd w 2 A2 n2 (tv ts)) (h3 : Rd w 1 A3 n3 (bv code)) (k1 : Rd w 1 B1 m1 (bv data')) (k2 : Rd w 2 B2 m2 (tv ts')) (k3 : Rd w 1 B3 m3 (bv code'))
    (hn2 : n2 * 16 ≤ 140737488355328) (hm2 : m2 * 16 ≤ 140737488355328) :
    Calls Try.prog 30 #[.agg #[.int .i64 lo, .int .i64 hi, .slice A1 n1 c1, .slice A2 n2 c2, .slice A3 n3 c3], .agg #[.int .i64 lo', .int .i64 hi', .slice B1 m1 d1, .slice B2 m2 d2, .slice B3 m3 d3]] w fun e w' =>
      e = .returned (.bool (samePackB lo hi data ts code lo' hi' data' ts' code')) ∧ Ext w w' := by
  go_enter Try.func30, Try.ntmps30
  go_upto_region 1 with (fail)
  refine wp_world (fun W => Ext w W ∧ Blk W w.heap.size 25 #[.int .i64 lo, .int .i64 hi, .slice A1 n1 c1, .slice A2 n2 c2, .slice A3 n3 c3] ∧ Blk W (w.heap.size + 1) 25 #[.int .i64 lo', .int .i64 hi', .slice B1 m1 d1, .slice B2 m2 d2, .slice B3 m3 d3])
    ⟨((Ext.refl _).alloc _).alloc _, (Blk.new _ _ _).alloc _, by simpa using Blk.new (w.alloc _) 25 _⟩ ?_
  rintro W ⟨hX, hP, hR⟩
  obtain ⟨p0, p1, p2, p3, p4⟩ := hP.c5
  obtain ⟨r0, r1, r2, r3, r4⟩ := hR.c5
  go_wp2_with (first | (go_at_call 77; with_reducible refine (SameTables_any A2 B2 n2 m2 c2 d2 ts ts' _ (h2.ext hX) (k2.ext hX) hn2 hm2).mono ?_; rintro e w1 ⟨rfl, hX1⟩; have p41 := hX1.cell p4; have r41 := hX1.cell r4) | (go_at_call 33; have tok := hX1; with_reducible refine (SameBytes_any A3 B3 n3 m3 c3 d3 code code' _ (h3.ext (hX.trans hX1)) (k3.ext (hX.trans hX1))).mono ?_; rintro e w2 ⟨rfl, rfl⟩) | (go_at_call 33; with_reducible refine (SameBytes_any A1 B1 n1 m1 c1 d1 data data' _ (h1.ext hX) (k1.ext hX)).mono ?_; rintro e w2 ⟨rfl, rfl⟩))
  all_goals go_ret
  all_goals first | exact ⟨ret_bool (by simp [samePackB, *]), hX.trans hX1⟩ | exact ⟨ret_bool (by simp [samePackB, *]), hX⟩
end Go.Proofs.Ytfcbedkidjclhaa
