/-
  The contracts of the statements' SameCode and SameInts: true just if the two lists are one.
  Conditions: the lists can be read, their bytes within what may be handed in.
-/
import Derived.Test.YtfcbedkidjclhaaCode6
import Derived.BigQuiet
namespace Go.Proofs.Ytfcbedkidjclhaa
open Go.RowKit
set_option maxRecDepth 100000
set_option linter.unusedSimpArgs false
set_option linter.unusedVariables false

theorem list_step {α : Type} {xs ys : List α} {k : Nat} (hx : k < xs.length) (hy : k < ys.length) (h : xs.take k = ys.take k) (e : xs[k] = ys[k]) : xs.take (k + 1) = ys.take (k + 1) := by
  rw [List.take_succ_eq_append_getElem hx, List.take_succ_eq_append_getElem hy, h, e]
theorem list_end {α : Type} {xs ys : List α} {k : Nat} (hx : xs.length = k) (hy : ys.length = k) (h : xs.take k = ys.take k) : xs = ys := by
  rwa [List.take_of_length_le (by omega), List.take_of_length_le (by omega)] at h
theorem list_ne {α : Type} {xs ys : List α} {k : Nat} (hx : k < xs.length) (hy : k < ys.length) (e : xs[k] ≠ ys[k]) : xs ≠ ys := by
  intro h
  subst h
  exact e rfl

theorem neq64 (x y : Cd.Ins) : ∃ r : Bool, (∀ w : World, (binOp .neq 64 (.agg (insC x)) (.agg (insC y))).run Try.prog w = .ok (.bool r) w) ∧ (r = false ↔ x = y) := by
  have hp : Try.prog.stoodInHeld 64 = false := by kernel_rfl
  obtain ⟨a0, a1, a2, a3, a4, a5, a6, a7⟩ := x
  obtain ⟨b0, b1, b2, b3, b4, b5, b6, b7⟩ := y
  refine ⟨!(a0 == b0 && (a1 == b1 && (a2 == b2 && (a3 == b3 && (a4 == b4 && (a5 == b5 && (a6 == b6 && a7 == b7))))))), fun w => ?_, ?_⟩
  · simp [go_sem, insC, Try.underlying64, Try.underlying3, Try.underlying4, hp]
    repeat' split
    all_goals simp_all
  · simp

set_option maxHeartbeats 1000000 in
theorem SameInts_any (A B : Option Addr) (n m c d : Nat) (xs ys : List Int) (w : World) (h : Rd w 1 A n (iv xs)) (h' : Rd w 1 B m (iv ys)) (hn : n * 8 ≤ 140737488355328) (hm : m * 8 ≤ 140737488355328) :
    Calls Try.prog 101 #[.slice A n c, .slice B m d] w fun e w' => ∃ r : Bool, (r = true ↔ xs = ys) ∧ e = .returned (.bool r) ∧ Ext w w' := by
  have hx : xs.length = n := by have := h.1; rw [iv_length] at this; omega
  have hy : ys.length = m := by have := h'.1; rw [iv_length] at this; omega
  have Hx := hd hx
  have Hy := hd hy
  clear hx hy
  by_cases hnm : n = m
  · subst hnm
    go_enter Try.func101, Try.ntmps101
    go_wp2
    go_loopw [5] (fun i wr => ∃ k : Nat, k ≤ n ∧ i = .int .i64 k ∧ Ext w wr ∧ Hid (xs.take k = ys.take k)) (fun i _ => n - (intOf i).toNat)
    case atStart => exact ⟨0, by omega, rfl, Ext.refl _, hd (by simp)⟩
    case round =>
      obtain ⟨k, hk, rfl, hX, Heq⟩ := hrel
      by_cases hlt : k < n
      · obtain ⟨b, o, rfl, hc⟩ := (h.ext hX).form (by omega) (by omega)
        obtain ⟨b', o', rfl, hc'⟩ := (h'.ext hX).form (by omega) (by omega)
        have hkx : k < xs.length := by have := Hx.out; omega
        have hky : k < ys.length := by have := Hy.out; omega
        have c0 := hc _ _ (iv_get xs k hkx)
        have c2 := hc' _ _ (iv_get ys k hky)
        clear hc hc'
        by_cases he : xs[k] = ys[k]
        · have hq : (xs[k] != ys[k]) = false := by simpa using he
          have He := hd he
          clear he
          go_wp2
          go_quiet (fail)
          go_wp2
          go_roundw
          case rel => exact ⟨k + 1, by omega, by go_num, hX.drewN _, hd (list_step hkx hky Heq.out He.out)⟩
          case measure => simp [intOf]; omega
        · have hq : (xs[k] != ys[k]) = true := by simpa using he
          have He := hd he
          clear he
          go_wp2
          go_quiet (fail)
          go_wp2
          go_ret
          exact ⟨false, by simp [list_ne hkx hky He.out], rfl, hX.drewN _⟩
      · go_wp2
        go_ret
        have hkn : k = n := by omega
        subst hkn
        exact ⟨true, by simp [list_end Hx.out Hy.out Heq.out], rfl, hX⟩
  · go_enter Try.func101, Try.ntmps101
    go_wp2
    go_ret
    exact ⟨false, by
      have : xs ≠ ys := fun e => hnm (by have := Hx.out; have := Hy.out; subst e; omega)
      simp [this], rfl, Ext.refl _⟩

set_option maxHeartbeats 2000000 in
theorem SameCode_any (A B : Option Addr) (n m c d : Nat) (xs ys : List Cd.Ins) (w : World) (h : Rd w 8 A n (cv xs)) (h' : Rd w 8 B m (cv ys)) (hn : n * 56 ≤ 140737488355328) (hm : m * 56 ≤ 140737488355328) :
    Calls Try.prog 87 #[.slice A n c, .slice B m d] w fun e w' => ∃ r : Bool, (r = true ↔ xs = ys) ∧ e = .returned (.bool r) ∧ Ext w w' := by
  have hx : xs.length = n := by have := h.1; rw [cv_length] at this; omega
  have hy : ys.length = m := by have := h'.1; rw [cv_length] at this; omega
  have Hx := hd hx
  have Hy := hd hy
  clear hx hy
  by_cases hnm : n = m
  · subst hnm
    go_enter Try.func87, Try.ntmps87
    go_wp2
    go_loopw [5] (fun i wr => ∃ k : Nat, k ≤ n ∧ i = .int .i64 k ∧ Ext w wr ∧ Hid (xs.take k = ys.take k)) (fun i _ => n - (intOf i).toNat)
    case atStart => exact ⟨0, by omega, rfl, Ext.refl _, hd (by simp)⟩
    case round =>
      obtain ⟨k, hk, rfl, hX, Heq⟩ := hrel
      by_cases hlt : k < n
      · obtain ⟨b, o, rfl, hc⟩ := (h.ext hX).form (by omega) (by omega)
        obtain ⟨b', o', rfl, hc'⟩ := (h'.ext hX).form (by omega) (by omega)
        have hkx : k < xs.length := by have := Hx.out; omega
        have hky : k < ys.length := by have := Hy.out; omega
        obtain ⟨q0, q1, q2, q3, q4, q5, q6, q7⟩ := ins_cells hc hkx
        obtain ⟨t0, t1, t2, t3, t4, t5, t6, t7⟩ := ins_cells hc' hky
        clear hc hc'
        obtain ⟨r, hb, hr⟩ := neq64 xs[k] ys[k]
        have hb' : ∀ w : World, (binOp .neq 64 (.agg #[.int .i64 xs[k].op, .bool xs[k].narrow, .bool xs[k].reg, .int .i64 xs[k].size, .int .i64 xs[k].dst, .int .i64 xs[k].src, .int .i64 xs[k].off, .int .i64 xs[k].imm]) (.agg #[.int .i64 ys[k].op, .bool ys[k].narrow, .bool ys[k].reg, .int .i64 ys[k].size, .int .i64 ys[k].dst, .int .i64 ys[k].src, .int .i64 ys[k].off, .int .i64 ys[k].imm])).run Try.prog w = .ok (.bool r) w := hb
        have HR := hd hr
        clear hb hr
        cases r with
        | false =>
          have He := HR.out.1 rfl
          have HE := hd He
          clear He
          go_wp2
          go_quiet (fail)
          go_wp2
          go_roundw
          case rel => exact ⟨k + 1, by omega, by go_num, hX.drewN _, hd (list_step hkx hky Heq.out HE.out)⟩
          case measure => simp [intOf]; omega
        | true =>
          have HE := hd (show xs[k] ≠ ys[k] from fun e => by have := HR.out.2 e; cases this)
          go_wp2
          go_quiet (fail)
          go_wp2
          go_ret
          exact ⟨false, by simp [list_ne hkx hky HE.out], rfl, hX.drewN _⟩
      · go_wp2
        go_ret
        have hkn : k = n := by omega
        subst hkn
        exact ⟨true, by simp [list_end Hx.out Hy.out Heq.out], rfl, hX⟩
  · go_enter Try.func87, Try.ntmps87
    go_wp2
    go_ret
    exact ⟨false, by
      have : xs ≠ ys := fun e => hnm (by have := Hx.out; have := Hy.out; subst e; omega)
      simp [this], rfl, Ext.refl _⟩

end Go.Proofs.Ytfcbedkidjclhaa
