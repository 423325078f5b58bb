/-
  The contracts of pack's sizes (with slices.ContainsFunc, slices.IndexFunc and wrong).
  Conditions: the list of tables reads as a list; lengths below the reach.
-/
import Derived.Test.YtfcbedkidjclhaaCopy
import Derived.Test.YtfcbedkidjclhaaPackM
namespace Go.Proofs.Ytfcbedkidjclhaa
open Go.RowKit
set_option maxRecDepth 100000

theorem any_hit {α : Type} {p : α → Bool} {l : List α} {k : Nat} (hk : k < l.length) (h : p l[k] = true) : l.any p = true := List.any_eq_true.2 ⟨l[k], List.getElem_mem _, h⟩
theorem any_miss {α : Type} {p : α → Bool} {l : List α} {k : Nat} (hk : k < l.length) (h : (l.take k).any p = false) (h' : p l[k] = false) : (l.take (k + 1)).any p = false := by
  rw [List.take_succ_eq_append_getElem hk, List.any_append, h]
  simp [h']
set_option maxHeartbeats 400000 in
theorem wrong_any (a b : Int) (w : World) : Calls Try.prog 112 #[.agg #[.int .i64 a, .int .i64 b]] w fun e w' => e = .returned (.bool (Pk.wrongB (a, b))) ∧ Ext w w' := by
  go_enter Try.func112, Try.ntmps112
  go_wp2
  all_goals go_ret
  all_goals exact ⟨ret_bool (by simp [Pk.wrongB, *]), (Ext.refl _).alloc _⟩

theorem wrong_yes (a b : Int) (w : World) (hb : Pk.wrongB (a, b) = true) : Calls Try.prog 112 #[.agg #[.int .i64 a, .int .i64 b]] w fun e w' => e = .returned (.bool true) ∧ Ext w w' := (wrong_any a b w).mono fun _ _ h => by rw [hb] at h; exact h
theorem wrong_no (a b : Int) (w : World) (hb : Pk.wrongB (a, b) = false) : Calls Try.prog 112 #[.agg #[.int .i64 a, .int .i64 b]] w fun e w' => e = .returned (.bool false) ∧ Ext w w' := (wrong_any a b w).mono fun _ _ h => by rw [hb] at h; exact h

/-- a number that is from 0 on just if something is so -/
def SignOf (b : Bool) (w : World) (e : Ending) (w' : World) : Prop := (∃ i : Int, e = .returned (.int .i64 i) ∧ (b = true → 0 ≤ i) ∧ (b = false → i < 0)) ∧ Ext w w'

set_option maxHeartbeats 400000 in
theorem IndexTables_any (A : Option Addr) (n c : Nat) (ts : List (Int × Int)) (w : World) (h : Rd w 2 A n (tv ts)) (hn : n * 16 ≤ 140737488355328) :
    Calls Try.prog 143 #[.slice A n c, .func (.func 112) #[] #[]] w (SignOf (ts.any Pk.wrongB) w) := by
  have hx : ts.length = n := by have := h.1; rw [tv_length] at this; omega
  have Hx := hd hx
  clear hx
  go_enter Try.func143, Try.ntmps143
  go_wp2
  go_loopw [8] (fun i wr => ∃ k : Nat, k ≤ n ∧ i = .int .i64 k ∧ Ext w wr ∧ Hid ((ts.take k).any Pk.wrongB = false)) (fun i _ => n - (intOf i).toNat)
  case atStart => exact ⟨0, by omega, rfl, Ext.refl _, hd rfl⟩
  case round =>
    obtain ⟨k, hk, rfl, hX, Heq⟩ := hrel
    by_cases hlt : k < n
    · obtain ⟨b, o, rfl, hc⟩ := (h.ext hX).form (by omega) (by omega)
      have hkx : k < ts.length := by have := Hx.out; omega
      have c0 := hc _ _ (tv_get0 ts k hkx)
      have c1 : wr.cell? ⟨b, o + k * 2 + 1, none⟩ = some (.int .i64 ts[k].2) := hc _ _ (tv_get1 ts k hkx)
      clear hc
      cases he : Pk.wrongB ts[k] with
      | true =>
        have He := hd he
        clear he
        go_wp2_with (go_at_call 112; with_reducible refine (wrong_yes _ _ _ He.out).mono ?_; rintro e w1 ⟨rfl, hX1⟩)
        go_ret
        exact ⟨⟨k, rfl, fun _ => by omega, fun hf => absurd hf (by rw [any_hit hkx He.out]; simp)⟩, hX.trans hX1⟩
      | false =>
        have He := hd he
        clear he
        go_wp2_with (go_at_call 112; with_reducible refine (wrong_no _ _ _ He.out).mono ?_; rintro e w1 ⟨rfl, hX1⟩)
        go_roundw
        case rel => exact ⟨k + 1, by omega, by go_num, hX.trans hX1, hd (any_miss hkx Heq.out He.out)⟩
        case measure => simp [intOf]; omega
    · go_wp2
      go_ret
      exact ⟨⟨-1, rfl, fun hf => absurd hf (by rw [← List.take_of_length_le (l := ts) (i := k) (by rw [Hx.out]; omega), Heq.out]; simp), fun _ => by omega⟩, hX⟩

set_option maxHeartbeats 400000 in
theorem ContainsTables_any (A : Option Addr) (n c : Nat) (ts : List (Int × Int)) (w : World) (h : Rd w 2 A n (tv ts)) (hn : n * 16 ≤ 140737488355328) :
    Calls Try.prog 111 #[.slice A n c, .func (.func 112) #[] #[]] w fun e w' => e = .returned (.bool (ts.any Pk.wrongB)) ∧ Ext w w' := by
  go_enter Try.func111, Try.ntmps111
  go_wp2_with (go_at_call 143; (with_reducible refine (IndexTables_any A n c ts _ h hn).mono ?_); rintro e w1 ⟨⟨i, rfl, hi, hj⟩, hX⟩; have Hi := hd hi; have Hj := hd hj; clear hi hj)
  all_goals go_ret
  cases hb : ts.any Pk.wrongB with
  | true => have := Hi.out hb; exact ⟨ret_bool (by simp [this]), hX⟩
  | false => have := Hj.out hb; exact ⟨ret_bool (by simp [this]), hX⟩

set_option maxHeartbeats 400000 in
theorem sizes_any (lo hi : Int) (A B : Option Addr) (n m c d : Nat) (ts : List (Int × Int)) (w : World) (h : Rd w 2 B m (tv ts)) (hn : n ≤ 9000000000000000000) (hm : m * 16 ≤ 140737488355328) :
    Calls Try.prog 70 #[.int .i64 lo, .int .i64 hi, .slice A n c, .slice B m d] w fun e w' => e = .returned (.int .i64 (Pk.sizes lo hi n ts)) ∧ Ext w w' := by
  have hx : ts.length = m := by have := h.1; rw [tv_length] at this; omega
  have Hx := hd hx
  clear hx
  obtain ⟨q, hq⟩ : ∃ q, ts.any Pk.wrongB = q := ⟨_, rfl⟩
  have hct := fun W : World => ContainsTables_any (A := B) (n := m) (c := d) (ts := ts) W
  rw [hq] at hct
  have HQ := hd hq
  have HC := hd hct
  clear hq hct
  go_enter Try.func70, Try.ntmps70
  go_wp2_with (go_at_call 111; (with_reducible refine (HC.out _ h hm).mono ?_); rintro e w1 ⟨rfl, hX⟩)
  all_goals go_ret
  all_goals refine ⟨congrArg (fun x => Ending.returned (.int .i64 x)) (?_ : (_ : Int) = _), ?_⟩
  all_goals first | assumption | exact Ext.refl _ | skip
  all_goals unfold Pk.sizes
  all_goals rw [Hx.out, HQ.out]
  all_goals cases q <;> simp at * <;> (repeat' split) <;> first | rfl | omega
end Go.Proofs.Ytfcbedkidjclhaa
