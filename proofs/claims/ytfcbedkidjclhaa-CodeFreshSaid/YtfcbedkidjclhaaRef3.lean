/-
  The contract of the document's Rows: the table.
  No condition.
-/
import Derived.Test.YtfcbedkidjclhaaRef2
namespace Go.Proofs.Ytfcbedkidjclhaa
open Go.RowKit
set_option maxRecDepth 100000
set_option linter.unusedSimpArgs false
set_option linter.unusedVariables false

/-- the table so far, the call's own -/
structure Tab (w W : World) (base : Nat) (v : Value) (n : Nat) (l : List Rf.Row) : Prop where
  own : W.ownsRow base 134 11 v n (rv l)
  app : Ext w W
  le : base ≤ W.heap.size
  ge : w.heap.size ≤ base
theorem Tab.step {w W W' : World} {base : Nat} {v v' : Value} {n n' : Nat} {l l' : List Rf.Row} (h : Tab w W base v n l) (ho : W'.ownsRow base 134 11 v' n' (rv l')) (ha : App W W' v v') : Tab w W' base v' n' l' :=
  ⟨ho, ha.ext_own h.app h.own h.ge, Nat.le_trans h.le ha.size, h.ge⟩
theorem Tab.ext_ {w W W' : World} {base : Nat} {v : Value} {n : Nat} {l : List Rf.Row} (h : Tab w W base v n l) (k : Ext W W') : Tab w W' base v n l :=
  ⟨k.own h.own, h.app.trans k, Nat.le_trans h.le k.size, h.ge⟩
theorem Tab.start (w : World) : Tab w w w.heap.size (.slice none 0 0) 0 [] := ⟨World.ownsRow_nil .., Ext.refl _, Nat.le_refl _, Nat.le_refl _⟩

theorem wl_app134 {ops : Array Oper} {rest : List Oper} {dst : Option Tmp} {ty : TypeId} {ps : String} {af : Array Edge} {a : Act} {w W : World} {Q : Exit → Act → World → Prop} (x y : Operand) (base n : Nat) (v : Value) (xs : List Rf.Row)
    {c op sz d s f m e : Int} {nr rg wr : Bool} (hO : Tab w W base v n xs) (hn : n ≤ 1000) (hx : a.eval x = v) (hy : a.eval y = .slice (some ⟨W.heap.size, 0, none⟩) 1 1)
    (h : ∀ v' W', Tab w W' base v' (n + 1) (xs ++ [⟨c, op, sz, nr, rg, d, s, f, m, e, wr⟩]) → App W W' v v' → wpList Try.prog ops Q rest (a.put dst v') W') :
    wpList Try.prog ops Q (⟨dst, .call { callee := .builtin .append, args := #[x, y], argTypes := #[66, 66] }, ty, ps, af, none⟩ :: rest) a
      (W.alloc (.cells #[.int .i64 c, .int .i64 op, .int .i64 sz, .bool nr, .bool rg, .int .i64 d, .int .i64 s, .int .i64 f, .int .i64 m, .int .i64 e, .bool wr] 134)) := by
  obtain ⟨i0, hi0, hz0, hz1, hz2⟩ := info_parts info134
  have hRow := Rd.row W ⟨c, op, sz, nr, rg, d, s, f, m, e, wr⟩
  have hOne := rowC_one ⟨c, op, sz, nr, rg, d, s, f, m, e, wr⟩
  have hS := rv_snoc xs ⟨c, op, sz, nr, rg, d, s, f, m, e, wr⟩
  refine wpList_app _ rfl x y 66 rfl base 134 i0 _ 11 80 Try.underlying66 hi0 hz0 hz1 hz2 rfl (by omega) v n (rv xs) hx (hO.own.alloc _) (some ⟨W.heap.size, 0, none⟩) 1 1 _ hy hRow hOne (by omega) (by omega) (by have := hO.le; simp; omega) ?_
  intro v' W' ho hg ha
  rw [hS] at ho
  refine (fun (z : _ ∧ _) => h v' W' z.1 z.2) ?_
  have hA := (App.of_ext (Ext.new W _) v).trans (App.of_law hg ha)
  exact ⟨hO.step ho hA, hA⟩

/-- the four digits, where the table does not lie -/
structure Dig (W : World) (g : Nat) (v : Value) : Prop where
  blk : Blk W g 3 #[.int .i64 16, .int .i64 8, .int .i64 0, .int .i64 24]
  ne : v.ownBlock ≠ some g
theorem Dig.step {W W' : World} {g : Nat} {v v' : Value} (h : Dig W g v) (ha : App W W' v v') : Dig W' g v' := by
  refine ⟨ha.blk h.blk h.ne, fun e => ?_⟩
  rcases ha.lies with e' | ⟨k, e', hk⟩
  · exact h.ne (e'.symm.trans e)
  · rw [e'] at e
    have := Option.some.inj e
    have := h.blk.lt
    omega
theorem Dig.c4 {W : World} {g : Nat} {v : Value} (h : Dig W g v) : W.cell? ⟨g, 0, none⟩ = some (.int .i64 16) ∧ W.cell? ⟨g, 1, none⟩ = some (.int .i64 8) ∧ W.cell? ⟨g, 2, none⟩ = some (.int .i64 0) ∧ W.cell? ⟨g, 3, none⟩ = some (.int .i64 24) :=
  ⟨h.blk.cell 0, h.blk.cell 1, h.blk.cell 2, h.blk.cell 3⟩

def T1 : List Rf.Row := Rf.alu 1 0 0 ++ Rf.alu 2 1 0 ++ Rf.alu 3 2 0 ++ Rf.alu 4 3 0 ++ Rf.alu 6 3 1 ++ Rf.alu 8 4 0 ++ Rf.alu 9 5 0 ++ Rf.alu 11 6 0 ++ Rf.alu 12 7 0 ++ Rf.alu 5 9 0 ++ Rf.alu 7 9 1 ++ Rf.alu 10 10 0 ++ Rf.alu 15 11 0 ++ Rf.alu 13 12 0
def T2 : List Rf.Row := T1 ++ Rf.movs 8 ++ Rf.movs 16 ++ Rf.movs 32 ++ [⟨135, 14, 0, false, false, -1, 0, 0, 0, 0, true⟩] ++ [⟨132, 14, 0, true, false, -1, 0, 0, 0, 0, true⟩]
def T3 : List Rf.Row := T2 ++ Rf.swaps 16 ++ Rf.swaps 32 ++ Rf.swaps 64 ++ [⟨24, 20, 0, false, false, -1, 0, 0, -1, -1, true⟩] ++ [⟨24, 21, 0, false, false, -1, 6, 0, 0, -1, true⟩]
def T4 : List Rf.Row := T3 ++ Rf.mems 1 16 ++ Rf.mems 2 8 ++ Rf.mems 4 0 ++ Rf.mems 8 24
def T5 : List Rf.Row := T4 ++ [⟨5, 26, 0, false, false, 0, 0, -1, 0, 0, false⟩] ++ [⟨6, 26, 0, true, false, 0, 0, 0, -1, 0, false⟩]
theorem rows_T : Rf.rows = T5 ++ Rf.jump 27 1 ++ Rf.jump 29 2 ++ Rf.jump 30 3 ++ Rf.jump 37 4 ++ Rf.jump 28 5 ++ Rf.jump 33 6 ++ Rf.jump 34 7 ++ Rf.jump 31 10 ++ Rf.jump 32 11 ++ Rf.jump 35 12 ++ Rf.jump 36 13 ++ [⟨133, 38, 0, false, false, 0, 0, 0, -1, 0, false⟩] ++ [⟨149, 39, 0, false, false, 0, 0, 0, 0, 0, false⟩] := by
  unfold Rf.rows T5 T4 T3 T2 T1
  simp only [List.append_assoc, List.cons_append, List.nil_append]

set_option maxHeartbeats 4000000 in
theorem refRows_any (w : World) : Calls Try.prog 48 #[] w fun e w' => ∃ v, e = .returned v ∧ Tab w w' w.heap.size v 139 Rf.rows := by
  have hO := Tab.start w
  obtain ⟨base, hbase⟩ : ∃ base, w.heap.size = base := ⟨_, rfl⟩
  rw [hbase] at hO ⊢
  go_enter Try.func48, Try.ntmps48
  go_upto_region 16 with (go_at_call 91; (with_reducible refine (refAlu_any _ _ _ _ _ _ base _ hO.own hO.le (by omega) (by omega) (by omega)).mono ?_); rintro e W1 ⟨v1, rfl, ho1, ha1⟩; have hO1 := hO.step ho1 ha1; clear hO ho1 ha1; have hO := hO1; clear hO1)
  have hO2 : Tab w _ base _ 56 T1 := hO
  clear hO
  have hO := hO2
  clear hO2
  go_wp2
  go_loopw [1, 2] (fun v i wr => ∃ (k : Nat) (n : Nat) (l : List Rf.Row), i = .int .i64 k ∧ Tab w wr base v n l ∧ ((k = 8 ∧ n = 56 ∧ l = T1) ∨ (k = 16 ∧ n = 58 ∧ l = T1 ++ Rf.movs 8) ∨ (k = 32 ∧ n = 60 ∧ l = T1 ++ Rf.movs 8 ++ Rf.movs 16) ∨ (k = 64 ∧ n = 61 ∧ l = T1 ++ Rf.movs 8 ++ Rf.movs 16 ++ Rf.movs 32))) (fun _ i _ => 64 - (intOf i).toNat)
  case atStart => exact ⟨8, _, _, rfl, hO, .inl ⟨rfl, rfl, rfl⟩⟩
  case round =>
    clear hO
    obtain ⟨k, n, l, rfl, hO, hk⟩ := hrel
    rcases hk with ⟨rfl, rfl, rfl⟩ | ⟨rfl, rfl, rfl⟩ | ⟨rfl, rfl, rfl⟩ | ⟨rfl, rfl, rfl⟩
    · go_wp2_with ((with_reducible refine wl_app134 _ _ base _ _ _ hO ?_ ?_ ?_ ?_); omega; exact rfl; exact rfl; clear hO; intro v1 W1 hO hA; clear hA)
      go_roundw
      case rel => exact ⟨16, _, _, rfl, hO, .inr (.inl ⟨rfl, rfl, by rw [List.append_assoc]; rfl⟩)⟩
      case measure => simp [intOf]
    · go_wp2_with ((with_reducible refine wl_app134 _ _ base _ _ _ hO ?_ ?_ ?_ ?_); omega; exact rfl; exact rfl; clear hO; intro v1 W1 hO hA; clear hA)
      go_roundw
      case rel => exact ⟨32, _, _, rfl, hO, .inr (.inr (.inl ⟨rfl, rfl, by rw [List.append_assoc (T1 ++ Rf.movs 8)]; rfl⟩))⟩
      case measure => simp [intOf]
    · go_wp2_with ((with_reducible refine wl_app134 _ _ base _ _ _ hO ?_ ?_ ?_ ?_); omega; exact rfl; exact rfl; clear hO; intro v1 W1 hO hA; clear hA)
      go_roundw
      case rel => exact ⟨64, _, _, rfl, hO, .inr (.inr (.inr ⟨rfl, rfl, rfl⟩))⟩
      case measure => simp [intOf]
    · go_upto_region 24 with ((with_reducible refine wl_app134 _ _ base _ _ _ hO ?_ ?_ ?_ ?_); omega; exact rfl; exact rfl; clear hO; intro v1 W1 hO hA; clear hA)
      have hO2 : Tab w _ base _ 63 T2 := hO
      clear hO
      have hO := hO2
      clear hO2
      go_wp2
      go_loopw [1, 3] (fun v i wr => ∃ (k : Nat) (n : Nat) (l : List Rf.Row), i = .int .i64 k ∧ Tab w wr base v n l ∧ ((k = 16 ∧ n = 63 ∧ l = T2) ∨ (k = 32 ∧ n = 66 ∧ l = T2 ++ Rf.swaps 16) ∨ (k = 64 ∧ n = 69 ∧ l = T2 ++ Rf.swaps 16 ++ Rf.swaps 32) ∨ (k = 128 ∧ n = 72 ∧ l = T2 ++ Rf.swaps 16 ++ Rf.swaps 32 ++ Rf.swaps 64))) (fun _ i _ => 128 - (intOf i).toNat)
      case atStart => exact ⟨16, _, _, rfl, hO, .inl ⟨rfl, rfl, rfl⟩⟩
      case round =>
        clear hO
        obtain ⟨k, n, l, rfl, hO, hk⟩ := hrel
        rcases hk with ⟨rfl, rfl, rfl⟩ | ⟨rfl, rfl, rfl⟩ | ⟨rfl, rfl, rfl⟩ | ⟨rfl, rfl, rfl⟩
        · go_wp2_with ((with_reducible refine wl_app134 _ _ base _ _ _ hO ?_ ?_ ?_ ?_); omega; exact rfl; exact rfl; clear hO; intro v1 W1 hO hA; clear hA)
          go_roundw
          case rel => exact ⟨32, _, _, rfl, hO, .inr (.inl ⟨rfl, rfl, by rw [List.append_assoc, List.append_assoc]; rfl⟩)⟩
          case measure => simp [intOf]
        · go_wp2_with ((with_reducible refine wl_app134 _ _ base _ _ _ hO ?_ ?_ ?_ ?_); omega; exact rfl; exact rfl; clear hO; intro v1 W1 hO hA; clear hA)
          go_roundw
          case rel => exact ⟨64, _, _, rfl, hO, .inr (.inr (.inl ⟨rfl, rfl, by rw [List.append_assoc, List.append_assoc (T2 ++ Rf.swaps 16)]; rfl⟩))⟩
          case measure => simp [intOf]
        · go_wp2_with ((with_reducible refine wl_app134 _ _ base _ _ _ hO ?_ ?_ ?_ ?_); omega; exact rfl; exact rfl; clear hO; intro v1 W1 hO hA; clear hA)
          go_roundw
          case rel => exact ⟨128, _, _, rfl, hO, .inr (.inr (.inr ⟨rfl, rfl, by rw [List.append_assoc, List.append_assoc (T2 ++ Rf.swaps 16 ++ Rf.swaps 32)]; rfl⟩))⟩
          case measure => simp [intOf]
        · go_upto_region 32 with ((with_reducible refine wl_app134 _ _ base _ _ _ hO ?_ ?_ ?_ ?_); omega; exact rfl; exact rfl; clear hO; intro v1 W1 hO hA; clear hA)
          have hO2 : Tab w _ base _ 74 T3 := hO
          clear hO
          have hO := hO2
          clear hO2
          go_upto_region 33 with (fail)
          refine wp_world (fun W => Tab w W base _ 74 T3 ∧ Dig W _ _) ⟨hO.ext_ (Ext.new _ _), ⟨Blk.new _ _ _, fun e => absurd (hO.own.lt _ e).2 (Nat.lt_irrefl _)⟩⟩ ?_
          generalize W1.heap.size = g
          clear hO
          rintro W3 ⟨hO, hD⟩
          go_wp2
          go_loopw [1, 5, 6] (fun v i z wr => ∃ (k : Nat) (n : Nat) (l : List Rf.Row), i = .int .i64 k ∧ Tab w wr base v n l ∧ Dig wr g v ∧ ((k = 0 ∧ n = 74 ∧ l = T3) ∨ (k = 1 ∧ n = 78 ∧ l = T3 ++ Rf.mems 1 16) ∨ (k = 2 ∧ n = 82 ∧ l = T3 ++ Rf.mems 1 16 ++ Rf.mems 2 8) ∨ (k = 3 ∧ n = 87 ∧ l = T3 ++ Rf.mems 1 16 ++ Rf.mems 2 8 ++ Rf.mems 4 0) ∨ (k = 4 ∧ n = 91 ∧ l = T4))) (fun _ i _ _ => 4 - (intOf i).toNat)
          case atStart => exact ⟨0, _, _, rfl, hO, hD, .inl ⟨rfl, rfl, rfl⟩⟩
          case round =>
            clear hO hD
            obtain ⟨k, n, l, rfl, hO, hD, hk⟩ := hrel
            obtain ⟨p0, p1, p2, p3⟩ := hD.c4
            rcases hk with ⟨rfl, rfl, rfl⟩ | ⟨rfl, rfl, rfl⟩ | ⟨rfl, rfl, rfl⟩ | ⟨rfl, rfl, rfl⟩ | ⟨rfl, rfl, rfl⟩
            · go_wp2_with ((with_reducible refine wl_app134 _ _ base _ _ _ hO ?_ ?_ ?_ ?_); omega; exact rfl; exact rfl; clear hO p0 p1 p2 p3; intro v1 W1 hO hA; have hD1 := hD.step hA; clear hA hD; have hD := hD1; clear hD1; obtain ⟨p0, p1, p2, p3⟩ := hD.c4)
              go_roundw
              case rel => exact ⟨1, _, _, rfl, hO, hD, .inr (.inl ⟨rfl, rfl, by simp only [List.append_assoc]; rfl⟩)⟩
              case measure => simp [intOf]
            · go_wp2_with ((with_reducible refine wl_app134 _ _ base _ _ _ hO ?_ ?_ ?_ ?_); omega; exact rfl; exact rfl; clear hO p0 p1 p2 p3; intro v1 W1 hO hA; have hD1 := hD.step hA; clear hA hD; have hD := hD1; clear hD1; obtain ⟨p0, p1, p2, p3⟩ := hD.c4)
              go_roundw
              case rel => exact ⟨2, _, _, rfl, hO, hD, .inr (.inr (.inl ⟨rfl, rfl, by simp only [List.append_assoc]; rfl⟩))⟩
              case measure => simp [intOf]
            · go_wp2_with ((with_reducible refine wl_app134 _ _ base _ _ _ hO ?_ ?_ ?_ ?_); omega; exact rfl; exact rfl; clear hO p0 p1 p2 p3; intro v1 W1 hO hA; have hD1 := hD.step hA; clear hA hD; have hD := hD1; clear hD1; obtain ⟨p0, p1, p2, p3⟩ := hD.c4)
              go_roundw
              case rel => exact ⟨3, _, _, rfl, hO, hD, .inr (.inr (.inr (.inl ⟨rfl, rfl, by simp only [List.append_assoc]; rfl⟩)))⟩
              case measure => simp [intOf]
            · go_wp2_with ((with_reducible refine wl_app134 _ _ base _ _ _ hO ?_ ?_ ?_ ?_); omega; exact rfl; exact rfl; clear hO p0 p1 p2 p3; intro v1 W1 hO hA; have hD1 := hD.step hA; clear hA hD; have hD := hD1; clear hD1; obtain ⟨p0, p1, p2, p3⟩ := hD.c4)
              go_roundw
              case rel => exact ⟨4, _, _, rfl, hO, hD, .inr (.inr (.inr (.inr ⟨rfl, rfl, by unfold T4; simp only [List.append_assoc]; rfl⟩)))⟩
              case measure => simp [intOf]
            · go_upto_region 46 with ((with_reducible refine wl_app134 _ _ base _ _ _ hO ?_ ?_ ?_ ?_); omega; exact rfl; exact rfl; clear hO; intro v1 W1 hO hA; clear hA)
              have hO2 : Tab w _ base _ 93 T5 := hO
              clear hO
              have hO := hO2
              clear hO2
              go_upto_region 57 with (go_at_call 92; (with_reducible refine (refJump_any _ _ _ _ _ base _ hO.own hO.le (by omega) (by omega) (by omega)).mono ?_); rintro e W1 ⟨v1, rfl, ho1, ha1⟩; have hO1 := hO.step ho1 ha1; clear hO ho1 ha1; have hO := hO1; clear hO1)
              go_wp2_with ((with_reducible refine wl_app134 _ _ base _ _ _ hO ?_ ?_ ?_ ?_); omega; exact rfl; exact rfl; clear hO; intro v1 W1 hO hA; clear hA)
              go_ret
              exact ⟨_, rfl, by have e : Rf.rows = _ := rows_T; rw [e]; exact hO⟩




end Go.Proofs.Ytfcbedkidjclhaa
