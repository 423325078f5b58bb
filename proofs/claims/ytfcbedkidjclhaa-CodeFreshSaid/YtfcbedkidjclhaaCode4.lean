/-
  The contracts of package code's tables: operations by digit, digits by operation, sizes.
  No condition.
-/
import Derived.Test.YtfcbedkidjclhaaCode3
namespace Go.Proofs.Ytfcbedkidjclhaa
open Go.RowKit
set_option maxRecDepth 100000
set_option linter.unusedSimpArgs false
set_option linter.unusedVariables false

theorem alu_any (w : World) : Calls Try.prog 134 #[] w fun e w' => e = .returned (.agg #[.int .i64 1, .int .i64 2, .int .i64 3, .int .i64 4, .int .i64 8, .int .i64 9, .int .i64 11, .int .i64 12, .int .i64 14, .int .i64 5, .int .i64 10, .int .i64 15, .int .i64 13, .int .i64 17, .int .i64 0, .int .i64 0]) ∧ Ext w w' := by
  go_enter Try.func134, Try.ntmps134
  go_wp2
  refine bodyPost_ret (v := .agg #[.int .i64 1, .int .i64 2, .int .i64 3, .int .i64 4, .int .i64 8, .int .i64 9, .int .i64 11, .int .i64 12, .int .i64 14, .int .i64 5, .int .i64 10, .int .i64 15, .int .i64 13, .int .i64 17, .int .i64 0, .int .i64 0]) (by simp [results, Try.results134, go_sem]) rfl ⟨rfl, ?_⟩
  repeat (first | exact Ext.new _ _ | refine Ext.set ?_ (Nat.le_refl _) _)
theorem alu_idx (k : Nat) (hk : k < 16) (w : World) : ∃ x, (Instr.index 174 (.agg #[.int .i64 1, .int .i64 2, .int .i64 3, .int .i64 4, .int .i64 8, .int .i64 9, .int .i64 11, .int .i64 12, .int .i64 14, .int .i64 5, .int .i64 10, .int .i64 15, .int .i64 13, .int .i64 17, .int .i64 0, .int .i64 0]) (.int .i64 (k : Int))).run Try.prog w = .ok (.int .i64 x) w ∧ Cd.aluOps.drop k = x :: Cd.aluOps.drop (k + 1) := by
  rcases (by omega : k = 0 ∨ k = 1 ∨ k = 2 ∨ k = 3 ∨ k = 4 ∨ k = 5 ∨ k = 6 ∨ k = 7 ∨ k = 8 ∨ k = 9 ∨ k = 10 ∨ k = 11 ∨ k = 12 ∨ k = 13 ∨ k = 14 ∨ k = 15) with rfl | rfl | rfl | rfl | rfl | rfl | rfl | rfl | rfl | rfl | rfl | rfl | rfl | rfl | rfl | rfl <;> exact ⟨_, by simp [go_sem, Instr.index, Try.underlying174], rfl⟩

theorem jmp_any (w : World) : Calls Try.prog 136 #[] w fun e w' => e = .returned (.agg #[.int .i64 26, .int .i64 27, .int .i64 29, .int .i64 30, .int .i64 37, .int .i64 28, .int .i64 33, .int .i64 34, .int .i64 38, .int .i64 39, .int .i64 31, .int .i64 32, .int .i64 35, .int .i64 36, .int .i64 0, .int .i64 0]) ∧ Ext w w' := by
  go_enter Try.func136, Try.ntmps136
  go_wp2
  refine bodyPost_ret (v := .agg #[.int .i64 26, .int .i64 27, .int .i64 29, .int .i64 30, .int .i64 37, .int .i64 28, .int .i64 33, .int .i64 34, .int .i64 38, .int .i64 39, .int .i64 31, .int .i64 32, .int .i64 35, .int .i64 36, .int .i64 0, .int .i64 0]) (by simp [results, Try.results136, go_sem]) rfl ⟨rfl, ?_⟩
  repeat (first | exact Ext.new _ _ | refine Ext.set ?_ (Nat.le_refl _) _)
theorem jmp_idx (k : Nat) (hk : k < 16) (w : World) : ∃ x, (Instr.index 174 (.agg #[.int .i64 26, .int .i64 27, .int .i64 29, .int .i64 30, .int .i64 37, .int .i64 28, .int .i64 33, .int .i64 34, .int .i64 38, .int .i64 39, .int .i64 31, .int .i64 32, .int .i64 35, .int .i64 36, .int .i64 0, .int .i64 0]) (.int .i64 (k : Int))).run Try.prog w = .ok (.int .i64 x) w ∧ Cd.jumpOps.drop k = x :: Cd.jumpOps.drop (k + 1) := by
  rcases (by omega : k = 0 ∨ k = 1 ∨ k = 2 ∨ k = 3 ∨ k = 4 ∨ k = 5 ∨ k = 6 ∨ k = 7 ∨ k = 8 ∨ k = 9 ∨ k = 10 ∨ k = 11 ∨ k = 12 ∨ k = 13 ∨ k = 14 ∨ k = 15) with rfl | rfl | rfl | rfl | rfl | rfl | rfl | rfl | rfl | rfl | rfl | rfl | rfl | rfl | rfl | rfl <;> exact ⟨_, by simp [go_sem, Instr.index, Try.underlying174], rfl⟩

theorem siz_any (w : World) : Calls Try.prog 145 #[] w fun e w' => e = .returned (.agg #[.int .i64 4, .int .i64 2, .int .i64 1, .int .i64 8]) ∧ Ext w w' := by
  go_enter Try.func145, Try.ntmps145
  go_wp2
  refine bodyPost_ret (v := .agg #[.int .i64 4, .int .i64 2, .int .i64 1, .int .i64 8]) (by simp [results, Try.results145, go_sem]) rfl ⟨rfl, ?_⟩
  repeat (first | exact Ext.new _ _ | refine Ext.set ?_ (Nat.le_refl _) _)
theorem siz_idx (k : Nat) (hk : k < 4) (w : World) : ∃ x, (Instr.index 180 (.agg #[.int .i64 4, .int .i64 2, .int .i64 1, .int .i64 8]) (.int .i64 (k : Int))).run Try.prog w = .ok (.int .i64 x) w ∧ Cd.sizes.drop k = x :: Cd.sizes.drop (k + 1) := by
  rcases (by omega : k = 0 ∨ k = 1 ∨ k = 2 ∨ k = 3) with rfl | rfl | rfl | rfl <;> exact ⟨_, by simp [go_sem, Instr.index, Try.underlying180], rfl⟩

set_option maxHeartbeats 1000000 in
theorem digit_alu (op : Int) (w : World) : Calls Try.prog 133 #[.agg #[.int .i64 1, .int .i64 2, .int .i64 3, .int .i64 4, .int .i64 8, .int .i64 9, .int .i64 11, .int .i64 12, .int .i64 14, .int .i64 5, .int .i64 10, .int .i64 15, .int .i64 13, .int .i64 17, .int .i64 0, .int .i64 0], .int .i64 op] w fun e w' => e = .returned (.int .i64 (Cd.digitOf Cd.aluOps op)) ∧ Ext w w' := by
  go_enter Try.func133, Try.ntmps133
  go_wp2
  refine wp_world (fun W => Ext w W) (Ext.new _ _) ?_
  intro W hX
  go_loopw [8] (fun i wr => ∃ k : Nat, k ≤ 16 ∧ i = .int .i64 k ∧ Ext w wr ∧ Hid (Cd.digitOf Cd.aluOps op = Cd.digitFrom k (Cd.aluOps.drop k) op)) (fun i _ => 16 - (intOf i).toNat)
  case atStart => exact ⟨0, by omega, rfl, hX, hd rfl⟩
  case round =>
    obtain ⟨k, hk, rfl, hXr, HE⟩ := hrel
    by_cases hlt : k < 16
    · obtain ⟨x, ix, hd1⟩ := alu_idx k hlt wr
      have HD := hd hd1
      clear hd1
      by_cases hx : x = op
      · subst hx
        go_wp2
        go_ret
        exact ⟨ret_int (by rw [HE.out, HD.out, Cd.digitFrom, if_pos rfl]), hXr⟩
      · have hb : (x == op) = false := by simpa using hx
        go_wp2
        go_roundw
        case rel => exact ⟨k + 1, by omega, by go_num, hXr, hd (by rw [HE.out, HD.out, Cd.digitFrom, if_neg hx]; rfl)⟩
        case measure => simp [intOf]; omega
    · obtain rfl : k = 16 := by omega
      go_wp2
      go_ret
      exact ⟨ret_int (by rw [HE.out]; rfl), hXr⟩

set_option maxHeartbeats 1000000 in
theorem digit_jmp (op : Int) (w : World) : Calls Try.prog 133 #[.agg #[.int .i64 26, .int .i64 27, .int .i64 29, .int .i64 30, .int .i64 37, .int .i64 28, .int .i64 33, .int .i64 34, .int .i64 38, .int .i64 39, .int .i64 31, .int .i64 32, .int .i64 35, .int .i64 36, .int .i64 0, .int .i64 0], .int .i64 op] w fun e w' => e = .returned (.int .i64 (Cd.digitOf Cd.jumpOps op)) ∧ Ext w w' := by
  go_enter Try.func133, Try.ntmps133
  go_wp2
  refine wp_world (fun W => Ext w W) (Ext.new _ _) ?_
  intro W hX
  go_loopw [8] (fun i wr => ∃ k : Nat, k ≤ 16 ∧ i = .int .i64 k ∧ Ext w wr ∧ Hid (Cd.digitOf Cd.jumpOps op = Cd.digitFrom k (Cd.jumpOps.drop k) op)) (fun i _ => 16 - (intOf i).toNat)
  case atStart => exact ⟨0, by omega, rfl, hX, hd rfl⟩
  case round =>
    obtain ⟨k, hk, rfl, hXr, HE⟩ := hrel
    by_cases hlt : k < 16
    · obtain ⟨x, ix, hd1⟩ := jmp_idx k hlt wr
      have HD := hd hd1
      clear hd1
      by_cases hx : x = op
      · subst hx
        go_wp2
        go_ret
        exact ⟨ret_int (by rw [HE.out, HD.out, Cd.digitFrom, if_pos rfl]), hXr⟩
      · have hb : (x == op) = false := by simpa using hx
        go_wp2
        go_roundw
        case rel => exact ⟨k + 1, by omega, by go_num, hXr, hd (by rw [HE.out, HD.out, Cd.digitFrom, if_neg hx]; rfl)⟩
        case measure => simp [intOf]; omega
    · obtain rfl : k = 16 := by omega
      go_wp2
      go_ret
      exact ⟨ret_int (by rw [HE.out]; rfl), hXr⟩

set_option maxHeartbeats 1000000 in
theorem sizeBits_any (sz : Int) (w : World) : Calls Try.prog 135 #[.int .i64 sz] w fun e w' => e = .returned (.int .i64 (Cd.sizeBits sz)) ∧ Ext w w' := by
  go_enter Try.func135, Try.ntmps135
  go_wp2_with (go_at_call 145; (with_reducible refine (siz_any _).mono ?_); rintro e v ⟨rfl, hX⟩)
  go_loopw [6] (fun i wr => Ext w wr ∧ ((i = .int .i64 0) ∨ (i = .int .i64 1 ∧ Hid (sz ≠ 4)) ∨ (i = .int .i64 2 ∧ Hid (sz ≠ 4 ∧ sz ≠ 2)) ∨ (i = .int .i64 3 ∧ Hid (sz ≠ 4 ∧ sz ≠ 2 ∧ sz ≠ 1)) ∨ (i = .int .i64 4 ∧ Hid (sz ≠ 4 ∧ sz ≠ 2 ∧ sz ≠ 1 ∧ sz ≠ 8)))) (fun i _ => 4 - (intOf i).toNat)
  case atStart => exact ⟨hX, .inl rfl⟩
  case round =>
    obtain ⟨hXr, rfl | ⟨rfl, H⟩ | ⟨rfl, H⟩ | ⟨rfl, H⟩ | ⟨rfl, H⟩⟩ := hrel
    · have ix : (Instr.index 180 (.agg #[.int .i64 4, .int .i64 2, .int .i64 1, .int .i64 8]) (.int .i64 0)).run Try.prog wr = .ok (.int .i64 4) wr := by simp [go_sem, Instr.index, Try.underlying180]
      by_cases hx : (4 : Int) = sz
      · have hb : ((4 : Int) == sz) = true := by simpa using hx
        have HX := hd hx
        clear hx
        go_wp2
        go_ret
        exact ⟨ret_int (by rw [← HX.out]; rfl), hXr⟩
      · have hb : ((4 : Int) == sz) = false := by simpa using hx
        go_wp2
        go_roundw
        case rel => exact ⟨hXr, .inr (.inl ⟨rfl, hd (by omega)⟩)⟩
        case measure => simp [intOf]
    · have ix : (Instr.index 180 (.agg #[.int .i64 4, .int .i64 2, .int .i64 1, .int .i64 8]) (.int .i64 1)).run Try.prog wr = .ok (.int .i64 2) wr := by simp [go_sem, Instr.index, Try.underlying180]
      by_cases hx : (2 : Int) = sz
      · have hb : ((2 : Int) == sz) = true := by simpa using hx
        have HX := hd hx
        clear hx
        go_wp2
        go_ret
        exact ⟨ret_int (by rw [← HX.out]; rfl), hXr⟩
      · have hb : ((2 : Int) == sz) = false := by simpa using hx
        go_wp2
        go_roundw
        case rel => exact ⟨hXr, .inr (.inr (.inl ⟨rfl, hd (by have := H.out; omega)⟩))⟩
        case measure => simp [intOf]
    · have ix : (Instr.index 180 (.agg #[.int .i64 4, .int .i64 2, .int .i64 1, .int .i64 8]) (.int .i64 2)).run Try.prog wr = .ok (.int .i64 1) wr := by simp [go_sem, Instr.index, Try.underlying180]
      by_cases hx : (1 : Int) = sz
      · have hb : ((1 : Int) == sz) = true := by simpa using hx
        have HX := hd hx
        clear hx
        go_wp2
        go_ret
        exact ⟨ret_int (by rw [← HX.out]; rfl), hXr⟩
      · have hb : ((1 : Int) == sz) = false := by simpa using hx
        go_wp2
        go_roundw
        case rel => exact ⟨hXr, .inr (.inr (.inr (.inl ⟨rfl, hd (by have := H.out; omega)⟩)))⟩
        case measure => simp [intOf]
    · have ix : (Instr.index 180 (.agg #[.int .i64 4, .int .i64 2, .int .i64 1, .int .i64 8]) (.int .i64 3)).run Try.prog wr = .ok (.int .i64 8) wr := by simp [go_sem, Instr.index, Try.underlying180]
      by_cases hx : (8 : Int) = sz
      · have hb : ((8 : Int) == sz) = true := by simpa using hx
        have HX := hd hx
        clear hx
        go_wp2
        go_ret
        exact ⟨ret_int (by rw [← HX.out]; rfl), hXr⟩
      · have hb : ((8 : Int) == sz) = false := by simpa using hx
        go_wp2
        go_roundw
        case rel => exact ⟨hXr, .inr (.inr (.inr (.inr (⟨rfl, hd (by have := H.out; omega)⟩))))⟩
        case measure => simp [intOf]
    · go_wp2
      go_ret
      exact ⟨ret_int (by have := H.out; grind [Cd.sizeBits]), hXr⟩

end Go.Proofs.Ytfcbedkidjclhaa
