/-
  The contracts of package code's operation, chosen.
  Conditions: the opcode is a byte.
-/
import Derived.Test.YtfcbedkidjclhaaCode10
namespace Go.Proofs.Ytfcbedkidjclhaa
open Go.RowKit
set_option maxRecDepth 100000
set_option linter.unusedSimpArgs false
set_option linter.unusedVariables false

def aluT : Array Value := #[.int .i64 1, .int .i64 2, .int .i64 3, .int .i64 4, .int .i64 8, .int .i64 9, .int .i64 11, .int .i64 12, .int .i64 14, .int .i64 5, .int .i64 10, .int .i64 15, .int .i64 13, .int .i64 17, .int .i64 0, .int .i64 0]
def jmpT : Array Value := #[.int .i64 26, .int .i64 27, .int .i64 29, .int .i64 30, .int .i64 37, .int .i64 28, .int .i64 33, .int .i64 34, .int .i64 38, .int .i64 39, .int .i64 31, .int .i64 32, .int .i64 35, .int .i64 36, .int .i64 0, .int .i64 0]
theorem getD_of_drop {l : List Int} {k : Nat} {x : Int} {t : List Int} (h : l.drop k = x :: t) : l.getD k 0 = x := by
  have : (l.drop k)[0]? = some x := by rw [h]; rfl
  rw [List.getElem?_drop, Nat.add_zero] at this
  rw [List.getD_eq_getElem?_getD, this]
  rfl
theorem alu_at (c : Nat) (hc : c < 256) (w : World) : (Instr.index 174 (.agg aluT) (.int .i64 ((c : Int) / 16))).run Try.prog w = .ok (.int .i64 (Cd.aluOps.getD (c / 16) 0)) w := by
  obtain ⟨x, h1, h2⟩ := alu_idx (c / 16) (by omega) w
  rw [getD_of_drop h2, ← h1]
  rfl
theorem jmp_at (c : Nat) (hc : c < 256) (w : World) : (Instr.index 174 (.agg jmpT) (.int .i64 ((c : Int) / 16))).run Try.prog w = .ok (.int .i64 (Cd.jumpOps.getD (c / 16) 0)) w := by
  obtain ⟨x, h1, h2⟩ := jmp_idx (c / 16) (by omega) w
  rw [getD_of_drop h2, ← h1]
  rfl
theorem siz_at (c : Nat) (hc : c < 256) (w : World) : (Instr.index 180 (.agg #[.int .i64 4, .int .i64 2, .int .i64 1, .int .i64 8]) (.int .i64 ((c : Int) / 8 % 4))).run Try.prog w = .ok (.int .i64 (Cd.sizes.getD (c / 8 % 4) 0)) w := by
  obtain ⟨x, h1, h2⟩ := siz_idx (c / 8 % 4) (by omega) w
  rw [getD_of_drop h2, ← h1]
  rfl
theorem and3 (c : Nat) (h : c < 256) : bits .and .i64 ((c : Int) / 8) 3 = (c : Int) / 8 % 4 := by
  have := int_and (c / 8) 3 (by omega) (by omega)
  have e : c / 8 &&& 3 = c / 8 % 4 := Nat.and_two_pow_sub_one_eq_mod (c / 8) 2
  rw [e] at this
  exact this

theorem operation_alu_eq {c : Nat} {op : Int} {nw rg : Bool} (HO : Cd.aluOps.getD (c / 16) 0 = op) (HK : (nw = true ∧ c % 8 = 4) ∨ (nw = false ∧ c % 8 = 7)) (HR : decide (c / 8 % 2 = 1) = rg) :
    Cd.operation c = if op = 17 then Cd.swapped c else (⟨op, nw, rg, 0, 0, 0, 0, 0⟩, !((decide (op = 14) && rg) || decide (op = 0))) := by
  unfold Cd.operation
  rw [HO, HR]
  rcases HK with ⟨rfl, h⟩ | ⟨rfl, h⟩
  · rw [if_pos (.inl h), h]
    rfl
  · rw [if_pos (.inr h), h]
    rfl

set_option maxHeartbeats 4000000 in
theorem operation_alu (c : Nat) (hc : c < 256) (nw : Bool) (hk : (nw = true ∧ c % 8 = 4) ∨ (nw = false ∧ c % 8 = 7)) (w : World) : Calls Try.prog 120 #[.int .i64 c] w (OpPost (Cd.operation c) w) := by
  have h7 := and7 c hc
  have h8 := and8 c hc
  have h3 := and3 c hc
  have hs := siz_at c hc
  have ha := alu_at c hc
  unfold aluT at ha
  generalize Cd.sizes.getD (c / 8 % 4) 0 = sz at hs
  obtain ⟨op, hop⟩ : ∃ op, Cd.aluOps.getD (c / 16) 0 = op := ⟨_, rfl⟩
  rw [hop] at ha
  have HO := hd hop
  clear hop
  have HK := hd hk
  obtain ⟨rg, hrg⟩ : ∃ rg, (((c : Int) / 8 % 2 * 8) != 0) = rg := ⟨_, rfl⟩
  have HR := hd (show decide (c / 8 % 2 = 1) = rg by rw [← hrg, Bool.eq_iff_iff]; simp; omega)
  go_enter Try.func120, Try.ntmps120
  go_upto_region 1 with (fail)
  refine wp_box64 ?_
  intro W hX hP
  have p0 := hP.cell 0
  go_region_held3 (fun w' => w'.cell? ⟨w.heap.size, 0, none⟩ = some (.int .i64 0)) (first | exact p0 | go_keep | exact hX1.cell p0) (first | (go_at_call 145; (with_reducible refine (siz_any _).mono ?_); rintro e w1 ⟨rfl, hX1⟩))
  go_upto_region 2 with (fail)
  refine wp_world (fun W1 => Ext w W1 ∧ Blk W1 w.heap.size 64 #[.int .i64 0, .bool false, .bool false, .int .i64 0, .int .i64 0, .int .i64 0, .int .i64 0, .int .i64 0]) ⟨hX.drew.trans hX1, hP.drew.ext hX1⟩ ?_
  clear p0 hX hP hX1 hs
  rintro W1 ⟨X1, P1⟩
  have e47 : (((c : Int) % 8 == 4) = true ∧ nw = true) ∨ (((c : Int) % 8 == 4) = false ∧ ((c : Int) % 8 == 7) = true ∧ nw = false) := by
    rcases hk with ⟨rfl, h⟩ | ⟨rfl, h⟩
    · exact .inl ⟨by simp; omega, rfl⟩
    · exact .inr ⟨by simp; omega, by simp; omega, rfl⟩
  clear hk
  rcases e47 with ⟨e4, hnw⟩ | ⟨e4, e7, hnw⟩
  all_goals subst hnw
  · go_upto_region 7 with (first | (go_at_call 134; (with_reducible refine (alu_any _).mono ?_); rintro e w2 ⟨rfl, hX2⟩) | ((with_reducible refine wl_store64 _ _ _ ?_ ?_ (Blk.new _ 64 _) ?_ ?_); exact rfl; exact ⟨_, _, _, _, _, _, _, _, rfl⟩; exact rfl; intro cells hcells; obtain rfl := Value.agg.inj hcells; clear hcells))
    refine wp_world (fun W3 => Ext w W3 ∧ Blk W3 w2.heap.size 64 #[.int .i64 op, .bool true, .bool rg, .int .i64 0, .int .i64 0, .int .i64 0, .int .i64 0, .int .i64 0] ∧ Blk W3 w.heap.size 64 #[.int .i64 0, .bool false, .bool false, .int .i64 0, .int .i64 0, .int .i64 0, .int .i64 0, .int .i64 0]) ⟨((X1.trans hX2).trans (Ext.new _ _)).row (by have := (X1.trans hX2).size; omega) _, (Blk.new _ _ _).row _, ((P1.ext hX2).alloc _).row_far (by have := (P1.ext hX2).lt; omega) _⟩ ?_
    clear X1 P1 hX2
    rintro W3 ⟨X3, P3, Q3⟩
    obtain ⟨q0, q1, q2, q3, q4, q5, q6, q7⟩ := P3.c8
    go_wp2_with (first | (go_at_call 146; (with_reducible refine (swapped_any c hc _).mono ?_); rintro e w4 ⟨rfl, hX4⟩) | ((with_reducible refine wl_load64 _ _ ?_ P3 ?_ ?_); exact rfl; exact rfl) | ((with_reducible refine wl_store64 _ _ _ ?_ ?_ Q3 ?_ ?_); exact rfl; exact ⟨_, _, _, _, _, _, _, _, rfl⟩; exact rfl; intro cells hcells; obtain rfl := Value.agg.inj hcells; clear hcells) | ((with_reducible refine wl_store64 _ _ _ ?_ ?_ (Q3.ext hX4) ?_ ?_); exact rfl; exact ⟨_, _, _, _, _, _, _, _, rfl⟩; exact rfl; intro cells hcells; obtain rfl := Value.agg.inj hcells; clear hcells))
    all_goals refine bodyPost_ret (results_cell_slot rfl _ _ w.heap.size 64 _ _ rfl (by first | exact Q3.row _ | exact (Q3.ext hX4).row _) Try.underlying64 rfl (by kernel_rfl)) rfl ⟨op_leaf ?_, by first | exact X3.row (Nat.le_refl _) _ | exact (X3.trans hX4).row (Nat.le_refl _) _⟩
    · rw [operation_alu_eq (nw := true) HO.out (by simpa using HK.out) HR.out, if_pos (by simp_all)]
    all_goals (rw [operation_alu_eq (nw := true) HO.out (by simpa using HK.out) HR.out, if_neg (by simp_all)]; simp_all)
  · go_upto_region 7 with (first | (go_at_call 134; (with_reducible refine (alu_any _).mono ?_); rintro e w2 ⟨rfl, hX2⟩) | ((with_reducible refine wl_store64 _ _ _ ?_ ?_ (Blk.new _ 64 _) ?_ ?_); exact rfl; exact ⟨_, _, _, _, _, _, _, _, rfl⟩; exact rfl; intro cells hcells; obtain rfl := Value.agg.inj hcells; clear hcells))
    refine wp_world (fun W3 => Ext w W3 ∧ Blk W3 w2.heap.size 64 #[.int .i64 op, .bool false, .bool rg, .int .i64 0, .int .i64 0, .int .i64 0, .int .i64 0, .int .i64 0] ∧ Blk W3 w.heap.size 64 #[.int .i64 0, .bool false, .bool false, .int .i64 0, .int .i64 0, .int .i64 0, .int .i64 0, .int .i64 0]) ⟨((X1.trans hX2).trans (Ext.new _ _)).row (by have := (X1.trans hX2).size; omega) _, (Blk.new _ _ _).row _, ((P1.ext hX2).alloc _).row_far (by have := (P1.ext hX2).lt; omega) _⟩ ?_
    clear X1 P1 hX2
    rintro W3 ⟨X3, P3, Q3⟩
    obtain ⟨q0, q1, q2, q3, q4, q5, q6, q7⟩ := P3.c8
    go_wp2_with (first | (go_at_call 146; (with_reducible refine (swapped_any c hc _).mono ?_); rintro e w4 ⟨rfl, hX4⟩) | ((with_reducible refine wl_load64 _ _ ?_ P3 ?_ ?_); exact rfl; exact rfl) | ((with_reducible refine wl_store64 _ _ _ ?_ ?_ Q3 ?_ ?_); exact rfl; exact ⟨_, _, _, _, _, _, _, _, rfl⟩; exact rfl; intro cells hcells; obtain rfl := Value.agg.inj hcells; clear hcells) | ((with_reducible refine wl_store64 _ _ _ ?_ ?_ (Q3.ext hX4) ?_ ?_); exact rfl; exact ⟨_, _, _, _, _, _, _, _, rfl⟩; exact rfl; intro cells hcells; obtain rfl := Value.agg.inj hcells; clear hcells))
    all_goals refine bodyPost_ret (results_cell_slot rfl _ _ w.heap.size 64 _ _ rfl (by first | exact Q3.row _ | exact (Q3.ext hX4).row _) Try.underlying64 rfl (by kernel_rfl)) rfl ⟨op_leaf ?_, by first | exact X3.row (Nat.le_refl _) _ | exact (X3.trans hX4).row (Nat.le_refl _) _⟩
    · rw [operation_alu_eq (nw := false) HO.out (by simpa using HK.out) HR.out, if_pos (by simp_all)]
    all_goals (rw [operation_alu_eq (nw := false) HO.out (by simpa using HK.out) HR.out, if_neg (by simp_all)]; simp_all)

theorem operation_jmp_eq {c : Nat} {op : Int} {nw rg : Bool} (HO : Cd.jumpOps.getD (c / 16) 0 = op) (HK : (nw = false ∧ c % 8 = 5) ∨ (nw = true ∧ c % 8 = 6)) (HR : decide (c / 8 % 2 = 1) = rg) :
    Cd.operation c = (⟨op, nw, rg, 0, 0, 0, 0, 0⟩, decide (op ≠ 0) && !((decide (op = 38) || decide (op = 39)) && (nw || rg)) && !(decide (op = 26) && rg)) := by
  unfold Cd.operation
  rw [HO, HR]
  rcases HK with ⟨rfl, h⟩ | ⟨rfl, h⟩
  · rw [if_neg (by omega), if_pos (.inl h), h]
    rfl
  · rw [if_neg (by omega), if_pos (.inr h), h]
    rfl

set_option maxHeartbeats 4000000 in
theorem operation_jmp (c : Nat) (hc : c < 256) (nw : Bool) (hk : (nw = false ∧ c % 8 = 5) ∨ (nw = true ∧ c % 8 = 6)) (w : World) : Calls Try.prog 120 #[.int .i64 c] w (OpPost (Cd.operation c) w) := by
  have h7 := and7 c hc
  have h8 := and8 c hc
  have h3 := and3 c hc
  have hs := siz_at c hc
  have ha := jmp_at c hc
  unfold jmpT at ha
  generalize Cd.sizes.getD (c / 8 % 4) 0 = sz at hs
  obtain ⟨op, hop⟩ : ∃ op, Cd.jumpOps.getD (c / 16) 0 = op := ⟨_, rfl⟩
  rw [hop] at ha
  have HO := hd hop
  clear hop
  have HK := hd hk
  obtain ⟨rg, hrg⟩ : ∃ rg, (((c : Int) / 8 % 2 * 8) != 0) = rg := ⟨_, rfl⟩
  have HR := hd (show decide (c / 8 % 2 = 1) = rg by rw [← hrg, Bool.eq_iff_iff]; simp; omega)
  go_enter Try.func120, Try.ntmps120
  go_upto_region 1 with (fail)
  refine wp_box64 ?_
  intro W hX hP
  have p0 := hP.cell 0
  go_region_held3 (fun w' => w'.cell? ⟨w.heap.size, 0, none⟩ = some (.int .i64 0)) (first | exact p0 | go_keep | exact hX1.cell p0) (first | (go_at_call 145; (with_reducible refine (siz_any _).mono ?_); rintro e w1 ⟨rfl, hX1⟩))
  go_upto_region 2 with (fail)
  refine wp_world (fun W1 => Ext w W1 ∧ Blk W1 w.heap.size 64 #[.int .i64 0, .bool false, .bool false, .int .i64 0, .int .i64 0, .int .i64 0, .int .i64 0, .int .i64 0]) ⟨hX.drew.trans hX1, hP.drew.ext hX1⟩ ?_
  clear p0 hX hP hX1 hs
  rintro W1 ⟨X1, P1⟩
  have e4 : ((c : Int) % 8 == 4) = false := by rcases hk with ⟨rfl, h⟩ | ⟨rfl, h⟩ <;> simp <;> omega
  have e7 : ((c : Int) % 8 == 7) = false := by rcases hk with ⟨rfl, h⟩ | ⟨rfl, h⟩ <;> simp <;> omega
  have e56 : (((c : Int) % 8 == 5) = true ∧ ((c : Int) % 8 == 6) = false ∧ nw = false) ∨ (((c : Int) % 8 == 5) = false ∧ ((c : Int) % 8 == 6) = true ∧ nw = true) := by
    rcases hk with ⟨rfl, h⟩ | ⟨rfl, h⟩
    · exact .inl ⟨by simp; omega, by simp; omega, rfl⟩
    · exact .inr ⟨by simp; omega, by simp; omega, rfl⟩
  clear hk
  rcases e56 with ⟨e5, e6, hnw⟩ | ⟨e5, e6, hnw⟩
  all_goals subst hnw
  · go_upto_region 16 with (first | (go_at_call 136; (with_reducible refine (jmp_any _).mono ?_); rintro e w2 ⟨rfl, hX2⟩) | ((with_reducible refine wl_store64 _ _ _ ?_ ?_ (Blk.new _ 64 _) ?_ ?_); exact rfl; exact ⟨_, _, _, _, _, _, _, _, rfl⟩; exact rfl; intro cells hcells; obtain rfl := Value.agg.inj hcells; clear hcells))
    refine wp_world (fun W3 => Ext w W3 ∧ Blk W3 w2.heap.size 64 #[.int .i64 op, .bool false, .bool rg, .int .i64 0, .int .i64 0, .int .i64 0, .int .i64 0, .int .i64 0] ∧ Blk W3 w.heap.size 64 #[.int .i64 0, .bool false, .bool false, .int .i64 0, .int .i64 0, .int .i64 0, .int .i64 0, .int .i64 0]) ⟨((X1.trans hX2).trans (Ext.new _ _)).row (by have := (X1.trans hX2).size; omega) _, (Blk.new _ _ _).row _, ((P1.ext hX2).alloc _).row_far (by have := (P1.ext hX2).lt; omega) _⟩ ?_
    clear X1 P1 hX2
    rintro W3 ⟨X3, P3, Q3⟩
    obtain ⟨q0, q1, q2, q3, q4, q5, q6, q7⟩ := P3.c8
    go_wp2_with (first | ((with_reducible refine wl_load64 _ _ ?_ P3 ?_ ?_); exact rfl; exact rfl) | ((with_reducible refine wl_store64 _ _ _ ?_ ?_ Q3 ?_ ?_); exact rfl; exact ⟨_, _, _, _, _, _, _, _, rfl⟩; exact rfl; intro cells hcells; obtain rfl := Value.agg.inj hcells; clear hcells))
    all_goals refine bodyPost_ret (results_cell_slot rfl _ _ w.heap.size 64 _ _ rfl (Q3.row _) Try.underlying64 rfl (by kernel_rfl)) rfl ⟨op_leaf ?_, X3.row (Nat.le_refl _) _⟩
    all_goals (rw [operation_jmp_eq (nw := false) HO.out (by simpa using HK.out) HR.out]; simp [*])
  · go_upto_region 16 with (first | (go_at_call 136; (with_reducible refine (jmp_any _).mono ?_); rintro e w2 ⟨rfl, hX2⟩) | ((with_reducible refine wl_store64 _ _ _ ?_ ?_ (Blk.new _ 64 _) ?_ ?_); exact rfl; exact ⟨_, _, _, _, _, _, _, _, rfl⟩; exact rfl; intro cells hcells; obtain rfl := Value.agg.inj hcells; clear hcells))
    refine wp_world (fun W3 => Ext w W3 ∧ Blk W3 w2.heap.size 64 #[.int .i64 op, .bool true, .bool rg, .int .i64 0, .int .i64 0, .int .i64 0, .int .i64 0, .int .i64 0] ∧ Blk W3 w.heap.size 64 #[.int .i64 0, .bool false, .bool false, .int .i64 0, .int .i64 0, .int .i64 0, .int .i64 0, .int .i64 0]) ⟨((X1.trans hX2).trans (Ext.new _ _)).row (by have := (X1.trans hX2).size; omega) _, (Blk.new _ _ _).row _, ((P1.ext hX2).alloc _).row_far (by have := (P1.ext hX2).lt; omega) _⟩ ?_
    clear X1 P1 hX2
    rintro W3 ⟨X3, P3, Q3⟩
    obtain ⟨q0, q1, q2, q3, q4, q5, q6, q7⟩ := P3.c8
    go_wp2_with (first | ((with_reducible refine wl_load64 _ _ ?_ P3 ?_ ?_); exact rfl; exact rfl) | ((with_reducible refine wl_store64 _ _ _ ?_ ?_ Q3 ?_ ?_); exact rfl; exact ⟨_, _, _, _, _, _, _, _, rfl⟩; exact rfl; intro cells hcells; obtain rfl := Value.agg.inj hcells; clear hcells))
    all_goals refine bodyPost_ret (results_cell_slot rfl _ _ w.heap.size 64 _ _ rfl (Q3.row _) Try.underlying64 rfl (by kernel_rfl)) rfl ⟨op_leaf ?_, X3.row (Nat.le_refl _) _⟩
    all_goals (rw [operation_jmp_eq (nw := true) HO.out (by simpa using HK.out) HR.out]; simp [*])

theorem operation_rest_eq {c : Nat} (h4 : c % 8 ≠ 4) (h5 : c % 8 ≠ 5) (h6 : c % 8 ≠ 6) (h7 : c % 8 ≠ 7) : Cd.operation c = if c % 8 = 0 then (⟨20, false, false, 0, 0, 0, 0, 0⟩, decide (c = 24)) else Cd.mem c (Cd.sizes.getD (c / 8 % 4) 0) := by
  unfold Cd.operation
  rw [if_neg (by omega), if_neg (by omega)]
  rfl

set_option maxHeartbeats 4000000 in
theorem operation_rest (c : Nat) (hc : c < 256) (k4 : c % 8 ≠ 4) (k5 : c % 8 ≠ 5) (k6 : c % 8 ≠ 6) (k7 : c % 8 ≠ 7) (w : World) : Calls Try.prog 120 #[.int .i64 c] w (OpPost (Cd.operation c) w) := by
  have h7 := and7 c hc
  have h8 := and8 c hc
  have h3 := and3 c hc
  have hs := siz_at c hc
  have HE := operation_rest_eq k4 k5 k6 k7
  generalize Cd.sizes.getD (c / 8 % 4) 0 = sz at hs HE
  rw [HE]
  clear HE
  have e4 : ((c : Int) % 8 == 4) = false := by simp; omega
  have e5 : ((c : Int) % 8 == 5) = false := by simp; omega
  have e6 : ((c : Int) % 8 == 6) = false := by simp; omega
  have e7 : ((c : Int) % 8 == 7) = false := by simp; omega
  by_cases k0 : c % 8 = 0
  · have e0 : ((c : Int) % 8 == 0) = true := by simp; omega
    rw [if_pos k0]
    have e24 : decide (c = 24) = ((c : Int) == 24) := by rw [Bool.eq_iff_iff]; simp; omega
    rw [e24]
    clear k0 k4 k5 k6 k7 e24
    go_enter Try.func120, Try.ntmps120
    go_upto_region 1 with (fail)
    refine wp_box64 ?_
    intro W hX hP
    have p0 := hP.cell 0
    go_region_held3 (fun w' => w'.cell? ⟨w.heap.size, 0, none⟩ = some (.int .i64 0)) (first | exact p0 | go_keep | exact hX1.cell p0) (first | (go_at_call 145; (with_reducible refine (siz_any _).mono ?_); rintro e w1 ⟨rfl, hX1⟩))
    go_upto_region 2 with (fail)
    refine wp_world (fun W1 => Ext w W1 ∧ Blk W1 w.heap.size 64 #[.int .i64 0, .bool false, .bool false, .int .i64 0, .int .i64 0, .int .i64 0, .int .i64 0, .int .i64 0]) ⟨hX.drew.trans hX1, hP.drew.ext hX1⟩ ?_
    clear p0 hX hP hX1 hs
    rintro W1 ⟨X1, P1⟩
    go_wp2_with ((with_reducible refine wl_store64 _ _ _ ?_ ?_ P1 ?_ ?_); exact rfl; exact ⟨_, _, _, _, _, _, _, _, rfl⟩; exact rfl; intro cells hcells; obtain rfl := Value.agg.inj hcells; clear hcells)
    refine bodyPost_ret (results_cell_slot rfl _ _ w.heap.size 64 _ _ rfl (P1.row _) Try.underlying64 rfl (by kernel_rfl)) rfl ⟨rfl, X1.row (Nat.le_refl _) _⟩
  · have e0 : ((c : Int) % 8 == 0) = false := by simp; omega
    rw [if_neg k0]
    clear k0 k4 k5 k6 k7
    go_enter Try.func120, Try.ntmps120
    go_upto_region 1 with (fail)
    refine wp_box64 ?_
    intro W hX hP
    have p0 := hP.cell 0
    go_region_held3 (fun w' => w'.cell? ⟨w.heap.size, 0, none⟩ = some (.int .i64 0)) (first | exact p0 | go_keep | exact hX1.cell p0) (first | (go_at_call 145; (with_reducible refine (siz_any _).mono ?_); rintro e w1 ⟨rfl, hX1⟩))
    go_upto_region 2 with (fail)
    refine wp_world (fun W1 => Ext w W1 ∧ Blk W1 w.heap.size 64 #[.int .i64 0, .bool false, .bool false, .int .i64 0, .int .i64 0, .int .i64 0, .int .i64 0, .int .i64 0]) ⟨hX.drew.trans hX1, hP.drew.ext hX1⟩ ?_
    clear p0 hX hP hX1 hs
    rintro W1 ⟨X1, P1⟩
    go_wp2_with (first | (go_at_call 147; (with_reducible refine (memory_any c hc sz _).mono ?_); rintro e w4 ⟨rfl, hX4⟩) | ((with_reducible refine wl_store64 _ _ _ ?_ ?_ (P1.ext hX4) ?_ ?_); exact rfl; exact ⟨_, _, _, _, _, _, _, _, rfl⟩; exact rfl; intro cells hcells; obtain rfl := Value.agg.inj hcells; clear hcells))
    refine bodyPost_ret (results_cell_slot rfl _ _ w.heap.size 64 _ _ rfl ((P1.ext hX4).row _) Try.underlying64 rfl (by kernel_rfl)) rfl ⟨rfl, (X1.trans hX4).row (Nat.le_refl _) _⟩

theorem operation_any (c : Nat) (hc : c < 256) (w : World) : Calls Try.prog 120 #[.int .i64 c] w (OpPost (Cd.operation c) w) := by
  by_cases k4 : c % 8 = 4
  · exact operation_alu c hc true (.inl ⟨rfl, k4⟩) w
  · by_cases k7 : c % 8 = 7
    · exact operation_alu c hc false (.inr ⟨rfl, k7⟩) w
    · by_cases k5 : c % 8 = 5
      · exact operation_jmp c hc false (.inl ⟨rfl, k5⟩) w
      · by_cases k6 : c % 8 = 6
        · exact operation_jmp c hc true (.inr ⟨rfl, k6⟩) w
        · exact operation_rest c hc k4 k5 k6 k7 w

end Go.Proofs.Ytfcbedkidjclhaa
