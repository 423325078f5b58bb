/-
  The contracts of the document's alu and jump: four rows appended.
  Conditions: the list is the call's own and short.
-/
import Derived.Test.YtfcbedkidjclhaaRef1
namespace Go.Proofs.Ytfcbedkidjclhaa
open Go.RowKit
set_option maxRecDepth 100000
set_option linter.unusedSimpArgs false
set_option linter.unusedVariables false

theorem info134 : (Try.prog.info? 134).map (fun i => (i.zero, i.size, i.bytes)) = some (some (.agg #[.int .i64 0, .int .i64 0, .int .i64 0, .bool false, .bool false, .int .i64 0, .int .i64 0, .int .i64 0, .int .i64 0, .int .i64 0, .bool false]), 11, 80) := by kernel_rfl
theorem rowC_one (y : Rf.Row) : ∀ u ∈ (rowC y).toList, u.oneCell' = true := by
  intro u hu
  simp [rowC] at hu
  rcases hu with rfl | rfl | rfl | rfl | rfl | rfl | rfl | rfl | rfl | rfl | rfl <;> rfl
theorem rv_snoc (l : List Rf.Row) (y : Rf.Row) : rv l ++ (rowC y).toList = rv (l ++ [y]) := by simp [rv]
theorem Rd.row (w : World) (y : Rf.Row) : Rd (w.alloc (.cells (rowC y) 134)) 11 (some ⟨w.heap.size, 0, none⟩) 1 (rowC y).toList := by
  refine ⟨rfl, fun _ => ⟨_, rfl, fun j u hu => ?_⟩⟩
  rw [show (⟨w.heap.size, 0, none⟩ : Addr).add j = ⟨w.heap.size, j, none⟩ by unfold Addr.add; split <;> simp_all, (Blk.new w 134 (rowC y)).cell j]
  simpa using hu
theorem Blk.f11 {w : World} {g : Nat} {t : TypeId} {cs : Array Value} (h : Blk w g t cs) : w.frozen? ⟨g, 0, none⟩ = false ∧ w.frozen? ⟨g, 3, none⟩ = false ∧ w.frozen? ⟨g, 4, none⟩ = false ∧ w.frozen? ⟨g, 6, none⟩ = false ∧ w.frozen? ⟨g, 8, none⟩ = false :=
  ⟨h.free 0, h.free 3, h.free 4, h.free 6, h.free 8⟩
/-- a block of the call's own, ahead of which the list stands -/
structure Own1 (w W : World) (base g : Nat) (v v' : Value) (n : Nat) (xs : List Value) (cs : Array Value) : Prop where
  app : App w W v v'
  own : W.ownsRow base 134 11 v' n xs
  blk : Blk W g 134 cs
  ne : v'.ownBlock ≠ some g
  ge : w.heap.size ≤ g

theorem Own1.start {w wr : World} {base : Nat} {v v' : Value} {n : Nat} {xs : List Value} (ha : App w wr v v') (ho : wr.ownsRow base 134 11 v' n xs) (cs : Array Value) : Own1 w (wr.alloc (.cells cs 134)) base wr.heap.size v v' n xs cs :=
  ⟨ha.then_ext (Ext.new _ _), ho.alloc _, Blk.new _ _ _, fun h => by have := (ho.lt _ h).2; omega, ha.size⟩
theorem setRow_own {w : World} {base : Nat} {e : TypeId} {sz n : Nat} {v : Value} {xs : List Value} (h : w.ownsRow base e sz v n xs) {g : Nat} (hne : v.ownBlock ≠ some g) (cs : Array Value) : (w.setRow g cs).ownsRow base e sz v n xs := by
  refine ⟨h.1, ?_⟩
  rcases h.2 with h2 | ⟨k, cap, cur, rfl, hk, hh, r⟩
  · exact .inl h2
  · refine .inr ⟨k, cap, cur, rfl, hk, ?_, r⟩
    rw [heap_setRow_far w g cs k (fun e => hne (by simp [Value.ownBlock, e]))]
    exact hh
theorem App.row {w W : World} {v v' : Value} (h : App w W v v') {g : Nat} (hg : w.heap.size ≤ g) (cs : Array Value) : App w (W.setRow g cs) v v' := by
  refine ⟨⟨h.grown.os, h.grown.tape, h.grown.output, by rw [setRow_size]; exact h.grown.size, fun i hi hne => ?_⟩, h.lies⟩
  rw [heap_setRow_far W g cs i (by omega)]
  exact h.grown.block i hi hne
theorem App.set {w W : World} {v v' : Value} (h : App w W v v') {p : Addr} (hg : w.heap.size ≤ p.block) (u : Value) : App w (W.setCell p u) v v' := by
  refine ⟨⟨h.grown.os, h.grown.tape, h.grown.output, by simpa using h.grown.size, fun i hi hne => ?_⟩, h.lies⟩
  rw [Below.heap_setCell W p u i (by omega)]
  exact h.grown.block i hi hne
theorem Own1.row {w W : World} {base g : Nat} {v v' : Value} {n : Nat} {xs : List Value} {cs : Array Value} (h : Own1 w W base g v v' n xs cs) (cs' : Array Value) : Own1 w (W.setRow g cs') base g v v' n xs cs' :=
  ⟨h.app.row h.ge _, setRow_own h.own h.ne _, h.blk.row _, h.ne, h.ge⟩
theorem Own1.set_ {w W : World} {base g : Nat} {v v' : Value} {n : Nat} {xs : List Value} {cs : Array Value} (h : Own1 w W base g v v' n xs cs) (i : Nat) (u : Value) : Own1 w (W.setCell ⟨g, i, none⟩ u) base g v v' n xs (cs.setIfInBounds i u) :=
  ⟨h.app.set h.ge _, own_set h.own (p := ⟨g, i, none⟩) h.ne u, h.blk.set_ i u, h.ne, h.ge⟩

set_option maxHeartbeats 4000000 in
theorem refAlu_any (v : Value) (n : Nat) (xs : List Rf.Row) (op dg off : Int) (base : Nat) (w : World) (hown : w.ownsRow base 134 11 v n (rv xs)) (hb : base ≤ w.heap.size) (hn : n ≤ 1000) (h0 : 0 ≤ dg) (h1 : dg ≤ 15) :
    Calls Try.prog 91 #[v, .int .i64 op, .int .i64 dg, .int .i64 off] w fun e w' => ∃ v', e = .returned v' ∧ w'.ownsRow base 134 11 v' (n + 4) (rv (xs ++ Rf.alu op dg off)) ∧ App w w' v v' := by
  obtain ⟨i0, hi0, hz0, hz1, hz2⟩ := info_parts info134
  have HI : Hid (Try.prog.info? 134 = some i0 ∧ i0.zero = some (.agg #[.int .i64 0, .int .i64 0, .int .i64 0, .bool false, .bool false, .int .i64 0, .int .i64 0, .int .i64 0, .int .i64 0, .int .i64 0, .bool false]) ∧ i0.size = 11 ∧ i0.bytes = 80) := hd ⟨hi0, hz0, hz1, hz2⟩
  clear hi0 hz0 hz1 hz2
  go_enter Try.func91, Try.ntmps91
  go_wp2
  go_loopw [0, 9] (fun l i wr => ∃ (k : Nat) (v' : Value), k ≤ 4 ∧ i = .int .i64 k ∧ v' = l ∧ wr.ownsRow base 134 11 v' (n + k) (rv (xs ++ (Rf.alu op dg off).take k)) ∧ App w wr v v') (fun _ i _ => 4 - (intOf i).toNat)
  case atStart => exact ⟨0, v, by omega, rfl, rfl, by simpa using hown, App.refl _ _⟩
  case round =>
    obtain ⟨k, v', hk, rfl, rfl, hO, hA⟩ := hrel
    rcases (by omega : k = 0 ∨ k = 1 ∨ k = 2 ∨ k = 3 ∨ k = 4) with rfl | rfl | rfl | rfl | rfl
    -- ALU printed by gen_ref2.py
    · have h1 := Own1.start hA hO #[.int .i64 0, .int .i64 0, .int .i64 0, .bool false, .bool false, .int .i64 0, .int .i64 0, .int .i64 0, .int .i64 0, .int .i64 0, .bool false]
      go_upto_region 5 with ((with_reducible refine wl_store134 _ _ _ ?_ ?_ h1.blk ?_ ?_); exact rfl; exact ⟨_, _, _, _, _, _, _, _, _, _, _, rfl⟩; exact rfl; intro cells hcells; obtain rfl := Value.agg.inj hcells; clear hcells)
      refine wp_world (fun W => Own1 w W base wr.heap.size v v' (n + 0) (rv (xs ++ ((Rf.alu op dg off).take 0))) #[.int .i64 (16 * dg + 7), .int .i64 op, .int .i64 0, .bool false, .bool false, .int .i64 (-1), .int .i64 0, .int .i64 off, .int .i64 (-1), .int .i64 0, .bool true]) (h1.row _) ?_
      clear h1
      generalize wr.heap.size = g
      intro W1 h1
      have hsz := h1.app.size
      have hRow : Rd (W1.alloc (.cells #[.int .i64 (16 * dg + 7), .int .i64 op, .int .i64 0, .bool false, .bool false, .int .i64 (-1), .int .i64 0, .int .i64 off, .int .i64 (-1), .int .i64 0, .bool true] 134)) 11 (some ⟨W1.heap.size, 0, none⟩) 1 #[.int .i64 (16 * dg + 7), .int .i64 op, .int .i64 0, .bool false, .bool false, .int .i64 (-1), .int .i64 0, .int .i64 off, .int .i64 (-1), .int .i64 0, .bool true].toList := Rd.row W1 ⟨16 * dg + 7, op, 0, false, false, -1, 0, off, -1, 0, true⟩
      have hOne : ∀ u ∈ (#[.int .i64 (16 * dg + 7), .int .i64 op, .int .i64 0, .bool false, .bool false, .int .i64 (-1), .int .i64 0, .int .i64 off, .int .i64 (-1), .int .i64 0, .bool true] : Array Value).toList, u.oneCell' = true := rowC_one ⟨16 * dg + 7, op, 0, false, false, -1, 0, off, -1, 0, true⟩
      have hT : (Rf.alu op dg off).take 1 = (Rf.alu op dg off).take 0 ++ [⟨16 * dg + 7, op, 0, false, false, -1, 0, off, -1, 0, true⟩] := rfl
      have hS : rv (xs ++ ((Rf.alu op dg off).take 0)) ++ (#[.int .i64 (16 * dg + 7), .int .i64 op, .int .i64 0, .bool false, .bool false, .int .i64 (-1), .int .i64 0, .int .i64 off, .int .i64 (-1), .int .i64 0, .bool true] : Array Value).toList = rv (xs ++ ((Rf.alu op dg off).take 1)) := by rw [hT, ← List.append_assoc]; exact rv_snoc _ ⟨16 * dg + 7, op, 0, false, false, -1, 0, off, -1, 0, true⟩
      have HS := hd hS
      clear hS hT
      go_wp2_with (first | ((with_reducible refine wl_load134 _ g ?_ h1.blk ?_ ?_); exact rfl; exact rfl) | (at_builtin; refine wpList_app _ rfl _ _ 66 rfl base 134 i0 _ 11 80 Try.underlying66 HI.out.1 HI.out.2.1 HI.out.2.2.1 HI.out.2.2.2 rfl (by omega) v' (n + 0) (rv (xs ++ ((Rf.alu op dg off).take 0))) rfl (h1.own.alloc _) (some ⟨W1.heap.size, 0, none⟩) 1 1 (#[.int .i64 (16 * dg + 7), .int .i64 op, .int .i64 0, .bool false, .bool false, .int .i64 (-1), .int .i64 0, .int .i64 off, .int .i64 (-1), .int .i64 0, .bool true] : Array Value).toList rfl hRow hOne (by omega) (by omega) (by simp; have := h1.app.size; omega) ?_; intro v1 w2 hown1 hg1 hat1; have hA1 := (h1.app.then_ext (Ext.new _ _)).trans (App.of_law hg1 hat1)))
      go_roundw
      case rel => exact ⟨1, v1, by omega, by go_num, rfl, by rw [← HS.out]; exact hown1, hA1⟩
      case measure => simp [intOf]
    · have h1 := Own1.start hA hO #[.int .i64 0, .int .i64 0, .int .i64 0, .bool false, .bool false, .int .i64 0, .int .i64 0, .int .i64 0, .int .i64 0, .int .i64 0, .bool false]
      go_upto_region 5 with ((with_reducible refine wl_store134 _ _ _ ?_ ?_ h1.blk ?_ ?_); exact rfl; exact ⟨_, _, _, _, _, _, _, _, _, _, _, rfl⟩; exact rfl; intro cells hcells; obtain rfl := Value.agg.inj hcells; clear hcells)
      refine wp_world (fun W => Own1 w W base wr.heap.size v v' (n + 1) (rv (xs ++ ((Rf.alu op dg off).take 1))) #[.int .i64 (16 * dg + 7), .int .i64 op, .int .i64 0, .bool false, .bool false, .int .i64 (-1), .int .i64 0, .int .i64 off, .int .i64 (-1), .int .i64 0, .bool true]) (h1.row _) ?_
      clear h1
      generalize wr.heap.size = g
      intro W1 h1
      obtain ⟨p0, p1, p2, p3, p4, p5, p6, p7, p8, p9, p10⟩ := h1.blk.c11
      obtain ⟨f0, f3, f4, f6, f8⟩ := h1.blk.f11
      go_upto_region 10 with (fail)
      refine wp_world (fun W => Own1 w W base g v v' (n + 1) (rv (xs ++ ((Rf.alu op dg off).take 1))) #[.int .i64 (16 * dg + 15), .int .i64 op, .int .i64 0, .bool false, .bool true, .int .i64 (-1), .int .i64 (-1), .int .i64 off, .int .i64 0, .int .i64 0, .bool true]) (by have := (((h1.set_ 0 (.int .i64 (16 * dg + 7 + 8))).set_ 4 (.bool true)).set_ 6 (.int .i64 (-1))).set_ 8 (.int .i64 0); simpa [Int.add_assoc] using this) ?_
      clear p0 p1 p2 p3 p4 p5 p6 p7 p8 p9 p10 f0 f3 f4 f6 f8 h1
      intro W2 h1
      have hsz := h1.app.size
      have hRow : Rd (W2.alloc (.cells #[.int .i64 (16 * dg + 15), .int .i64 op, .int .i64 0, .bool false, .bool true, .int .i64 (-1), .int .i64 (-1), .int .i64 off, .int .i64 0, .int .i64 0, .bool true] 134)) 11 (some ⟨W2.heap.size, 0, none⟩) 1 #[.int .i64 (16 * dg + 15), .int .i64 op, .int .i64 0, .bool false, .bool true, .int .i64 (-1), .int .i64 (-1), .int .i64 off, .int .i64 0, .int .i64 0, .bool true].toList := Rd.row W2 ⟨16 * dg + 15, op, 0, false, true, -1, -1, off, 0, 0, true⟩
      have hOne : ∀ u ∈ (#[.int .i64 (16 * dg + 15), .int .i64 op, .int .i64 0, .bool false, .bool true, .int .i64 (-1), .int .i64 (-1), .int .i64 off, .int .i64 0, .int .i64 0, .bool true] : Array Value).toList, u.oneCell' = true := rowC_one ⟨16 * dg + 15, op, 0, false, true, -1, -1, off, 0, 0, true⟩
      have hT : (Rf.alu op dg off).take 2 = (Rf.alu op dg off).take 1 ++ [⟨16 * dg + 15, op, 0, false, true, -1, -1, off, 0, 0, true⟩] := rfl
      have hS : rv (xs ++ ((Rf.alu op dg off).take 1)) ++ (#[.int .i64 (16 * dg + 15), .int .i64 op, .int .i64 0, .bool false, .bool true, .int .i64 (-1), .int .i64 (-1), .int .i64 off, .int .i64 0, .int .i64 0, .bool true] : Array Value).toList = rv (xs ++ ((Rf.alu op dg off).take 2)) := by rw [hT, ← List.append_assoc]; exact rv_snoc _ ⟨16 * dg + 15, op, 0, false, true, -1, -1, off, 0, 0, true⟩
      have HS := hd hS
      clear hS hT
      go_wp2_with (first | ((with_reducible refine wl_load134 _ g ?_ h1.blk ?_ ?_); exact rfl; exact rfl) | (at_builtin; refine wpList_app _ rfl _ _ 66 rfl base 134 i0 _ 11 80 Try.underlying66 HI.out.1 HI.out.2.1 HI.out.2.2.1 HI.out.2.2.2 rfl (by omega) v' (n + 1) (rv (xs ++ ((Rf.alu op dg off).take 1))) rfl (h1.own.alloc _) (some ⟨W2.heap.size, 0, none⟩) 1 1 (#[.int .i64 (16 * dg + 15), .int .i64 op, .int .i64 0, .bool false, .bool true, .int .i64 (-1), .int .i64 (-1), .int .i64 off, .int .i64 0, .int .i64 0, .bool true] : Array Value).toList rfl hRow hOne (by omega) (by omega) (by simp; have := h1.app.size; omega) ?_; intro v1 w2 hown1 hg1 hat1; have hA1 := (h1.app.then_ext (Ext.new _ _)).trans (App.of_law hg1 hat1)))
      go_roundw
      case rel => exact ⟨2, v1, by omega, by go_num, rfl, by rw [← HS.out]; exact hown1, hA1⟩
      case measure => simp [intOf]
    · have h1 := Own1.start hA hO #[.int .i64 0, .int .i64 0, .int .i64 0, .bool false, .bool false, .int .i64 0, .int .i64 0, .int .i64 0, .int .i64 0, .int .i64 0, .bool false]
      go_upto_region 5 with ((with_reducible refine wl_store134 _ _ _ ?_ ?_ h1.blk ?_ ?_); exact rfl; exact ⟨_, _, _, _, _, _, _, _, _, _, _, rfl⟩; exact rfl; intro cells hcells; obtain rfl := Value.agg.inj hcells; clear hcells)
      refine wp_world (fun W => Own1 w W base wr.heap.size v v' (n + 2) (rv (xs ++ ((Rf.alu op dg off).take 2))) #[.int .i64 (16 * dg + 7), .int .i64 op, .int .i64 0, .bool false, .bool false, .int .i64 (-1), .int .i64 0, .int .i64 off, .int .i64 (-1), .int .i64 0, .bool true]) (h1.row _) ?_
      clear h1
      generalize wr.heap.size = g
      intro W1 h1
      obtain ⟨p0, p1, p2, p3, p4, p5, p6, p7, p8, p9, p10⟩ := h1.blk.c11
      obtain ⟨f0, f3, f4, f6, f8⟩ := h1.blk.f11
      go_upto_region 13 with (fail)
      have hE : 16 * dg + 7 - 3 = 16 * dg + 4 := by omega
      refine wp_world (fun W => Own1 w W base g v v' (n + 2) (rv (xs ++ ((Rf.alu op dg off).take 2))) #[.int .i64 (16 * dg + 4), .int .i64 op, .int .i64 0, .bool true, .bool false, .int .i64 (-1), .int .i64 0, .int .i64 off, .int .i64 (-1), .int .i64 0, .bool true]) (by have := (h1.set_ 0 (.int .i64 (16 * dg + 7 - 3))).set_ 3 (.bool true); rw [hE] at this ⊢; simpa using this) ?_
      clear p0 p1 p2 p3 p4 p5 p6 p7 p8 p9 p10 f0 f3 f4 f6 f8 h1 hE
      intro W3 h1
      have hsz := h1.app.size
      have hRow : Rd (W3.alloc (.cells #[.int .i64 (16 * dg + 4), .int .i64 op, .int .i64 0, .bool true, .bool false, .int .i64 (-1), .int .i64 0, .int .i64 off, .int .i64 (-1), .int .i64 0, .bool true] 134)) 11 (some ⟨W3.heap.size, 0, none⟩) 1 #[.int .i64 (16 * dg + 4), .int .i64 op, .int .i64 0, .bool true, .bool false, .int .i64 (-1), .int .i64 0, .int .i64 off, .int .i64 (-1), .int .i64 0, .bool true].toList := Rd.row W3 ⟨16 * dg + 4, op, 0, true, false, -1, 0, off, -1, 0, true⟩
      have hOne : ∀ u ∈ (#[.int .i64 (16 * dg + 4), .int .i64 op, .int .i64 0, .bool true, .bool false, .int .i64 (-1), .int .i64 0, .int .i64 off, .int .i64 (-1), .int .i64 0, .bool true] : Array Value).toList, u.oneCell' = true := rowC_one ⟨16 * dg + 4, op, 0, true, false, -1, 0, off, -1, 0, true⟩
      have hT : (Rf.alu op dg off).take 3 = (Rf.alu op dg off).take 2 ++ [⟨16 * dg + 4, op, 0, true, false, -1, 0, off, -1, 0, true⟩] := rfl
      have hS : rv (xs ++ ((Rf.alu op dg off).take 2)) ++ (#[.int .i64 (16 * dg + 4), .int .i64 op, .int .i64 0, .bool true, .bool false, .int .i64 (-1), .int .i64 0, .int .i64 off, .int .i64 (-1), .int .i64 0, .bool true] : Array Value).toList = rv (xs ++ ((Rf.alu op dg off).take 3)) := by rw [hT, ← List.append_assoc]; exact rv_snoc _ ⟨16 * dg + 4, op, 0, true, false, -1, 0, off, -1, 0, true⟩
      have HS := hd hS
      clear hS hT
      go_wp2_with (first | ((with_reducible refine wl_load134 _ g ?_ h1.blk ?_ ?_); exact rfl; exact rfl) | (at_builtin; refine wpList_app _ rfl _ _ 66 rfl base 134 i0 _ 11 80 Try.underlying66 HI.out.1 HI.out.2.1 HI.out.2.2.1 HI.out.2.2.2 rfl (by omega) v' (n + 2) (rv (xs ++ ((Rf.alu op dg off).take 2))) rfl (h1.own.alloc _) (some ⟨W3.heap.size, 0, none⟩) 1 1 (#[.int .i64 (16 * dg + 4), .int .i64 op, .int .i64 0, .bool true, .bool false, .int .i64 (-1), .int .i64 0, .int .i64 off, .int .i64 (-1), .int .i64 0, .bool true] : Array Value).toList rfl hRow hOne (by omega) (by omega) (by simp; have := h1.app.size; omega) ?_; intro v1 w2 hown1 hg1 hat1; have hA1 := (h1.app.then_ext (Ext.new _ _)).trans (App.of_law hg1 hat1)))
      go_roundw
      case rel => exact ⟨3, v1, by omega, by go_num, rfl, by rw [← HS.out]; exact hown1, hA1⟩
      case measure => simp [intOf]
    · have h1 := Own1.start hA hO #[.int .i64 0, .int .i64 0, .int .i64 0, .bool false, .bool false, .int .i64 0, .int .i64 0, .int .i64 0, .int .i64 0, .int .i64 0, .bool false]
      go_upto_region 5 with ((with_reducible refine wl_store134 _ _ _ ?_ ?_ h1.blk ?_ ?_); exact rfl; exact ⟨_, _, _, _, _, _, _, _, _, _, _, rfl⟩; exact rfl; intro cells hcells; obtain rfl := Value.agg.inj hcells; clear hcells)
      refine wp_world (fun W => Own1 w W base wr.heap.size v v' (n + 3) (rv (xs ++ ((Rf.alu op dg off).take 3))) #[.int .i64 (16 * dg + 7), .int .i64 op, .int .i64 0, .bool false, .bool false, .int .i64 (-1), .int .i64 0, .int .i64 off, .int .i64 (-1), .int .i64 0, .bool true]) (h1.row _) ?_
      clear h1
      generalize wr.heap.size = g
      intro W1 h1
      obtain ⟨p0, p1, p2, p3, p4, p5, p6, p7, p8, p9, p10⟩ := h1.blk.c11
      obtain ⟨f0, f3, f4, f6, f8⟩ := h1.blk.f11
      go_upto_region 10 with (fail)
      refine wp_world (fun W => Own1 w W base g v v' (n + 3) (rv (xs ++ ((Rf.alu op dg off).take 3))) #[.int .i64 (16 * dg + 15), .int .i64 op, .int .i64 0, .bool false, .bool true, .int .i64 (-1), .int .i64 (-1), .int .i64 off, .int .i64 0, .int .i64 0, .bool true]) (by have := (((h1.set_ 0 (.int .i64 (16 * dg + 7 + 8))).set_ 4 (.bool true)).set_ 6 (.int .i64 (-1))).set_ 8 (.int .i64 0); simpa [Int.add_assoc] using this) ?_
      clear p0 p1 p2 p3 p4 p5 p6 p7 p8 p9 p10 f0 f3 f4 f6 f8 h1
      intro W2 h1
      obtain ⟨p0, p1, p2, p3, p4, p5, p6, p7, p8, p9, p10⟩ := h1.blk.c11
      obtain ⟨f0, f3, f4, f6, f8⟩ := h1.blk.f11
      go_upto_region 13 with (fail)
      have hE : 16 * dg + 15 - 3 = 16 * dg + 12 := by omega
      refine wp_world (fun W => Own1 w W base g v v' (n + 3) (rv (xs ++ ((Rf.alu op dg off).take 3))) #[.int .i64 (16 * dg + 12), .int .i64 op, .int .i64 0, .bool true, .bool true, .int .i64 (-1), .int .i64 (-1), .int .i64 off, .int .i64 0, .int .i64 0, .bool true]) (by have := (h1.set_ 0 (.int .i64 (16 * dg + 15 - 3))).set_ 3 (.bool true); rw [hE] at this ⊢; simpa using this) ?_
      clear p0 p1 p2 p3 p4 p5 p6 p7 p8 p9 p10 f0 f3 f4 f6 f8 h1 hE
      intro W3 h1
      have hsz := h1.app.size
      have hRow : Rd (W3.alloc (.cells #[.int .i64 (16 * dg + 12), .int .i64 op, .int .i64 0, .bool true, .bool true, .int .i64 (-1), .int .i64 (-1), .int .i64 off, .int .i64 0, .int .i64 0, .bool true] 134)) 11 (some ⟨W3.heap.size, 0, none⟩) 1 #[.int .i64 (16 * dg + 12), .int .i64 op, .int .i64 0, .bool true, .bool true, .int .i64 (-1), .int .i64 (-1), .int .i64 off, .int .i64 0, .int .i64 0, .bool true].toList := Rd.row W3 ⟨16 * dg + 12, op, 0, true, true, -1, -1, off, 0, 0, true⟩
      have hOne : ∀ u ∈ (#[.int .i64 (16 * dg + 12), .int .i64 op, .int .i64 0, .bool true, .bool true, .int .i64 (-1), .int .i64 (-1), .int .i64 off, .int .i64 0, .int .i64 0, .bool true] : Array Value).toList, u.oneCell' = true := rowC_one ⟨16 * dg + 12, op, 0, true, true, -1, -1, off, 0, 0, true⟩
      have hT : (Rf.alu op dg off).take 4 = (Rf.alu op dg off).take 3 ++ [⟨16 * dg + 12, op, 0, true, true, -1, -1, off, 0, 0, true⟩] := rfl
      have hS : rv (xs ++ ((Rf.alu op dg off).take 3)) ++ (#[.int .i64 (16 * dg + 12), .int .i64 op, .int .i64 0, .bool true, .bool true, .int .i64 (-1), .int .i64 (-1), .int .i64 off, .int .i64 0, .int .i64 0, .bool true] : Array Value).toList = rv (xs ++ ((Rf.alu op dg off).take 4)) := by rw [hT, ← List.append_assoc]; exact rv_snoc _ ⟨16 * dg + 12, op, 0, true, true, -1, -1, off, 0, 0, true⟩
      have HS := hd hS
      clear hS hT
      go_wp2_with (first | ((with_reducible refine wl_load134 _ g ?_ h1.blk ?_ ?_); exact rfl; exact rfl) | (at_builtin; refine wpList_app _ rfl _ _ 66 rfl base 134 i0 _ 11 80 Try.underlying66 HI.out.1 HI.out.2.1 HI.out.2.2.1 HI.out.2.2.2 rfl (by omega) v' (n + 3) (rv (xs ++ ((Rf.alu op dg off).take 3))) rfl (h1.own.alloc _) (some ⟨W3.heap.size, 0, none⟩) 1 1 (#[.int .i64 (16 * dg + 12), .int .i64 op, .int .i64 0, .bool true, .bool true, .int .i64 (-1), .int .i64 (-1), .int .i64 off, .int .i64 0, .int .i64 0, .bool true] : Array Value).toList rfl hRow hOne (by omega) (by omega) (by simp; have := h1.app.size; omega) ?_; intro v1 w2 hown1 hg1 hat1; have hA1 := (h1.app.then_ext (Ext.new _ _)).trans (App.of_law hg1 hat1)))
      go_roundw
      case rel => exact ⟨4, v1, by omega, by go_num, rfl, by rw [← HS.out]; exact hown1, hA1⟩
      case measure => simp [intOf]
    -- end ALU
    · go_wp2
      go_ret
      exact ⟨_, rfl, hO, hA⟩

set_option maxHeartbeats 4000000 in
theorem refJump_any (v : Value) (n : Nat) (xs : List Rf.Row) (op dg : Int) (base : Nat) (w : World) (hown : w.ownsRow base 134 11 v n (rv xs)) (hb : base ≤ w.heap.size) (hn : n ≤ 1000) (h0 : 0 ≤ dg) (h1 : dg ≤ 15) :
    Calls Try.prog 92 #[v, .int .i64 op, .int .i64 dg] w fun e w' => ∃ v', e = .returned v' ∧ w'.ownsRow base 134 11 v' (n + 4) (rv (xs ++ Rf.jump op dg)) ∧ App w w' v v' := by
  obtain ⟨i0, hi0, hz0, hz1, hz2⟩ := info_parts info134
  have HI : Hid (Try.prog.info? 134 = some i0 ∧ i0.zero = some (.agg #[.int .i64 0, .int .i64 0, .int .i64 0, .bool false, .bool false, .int .i64 0, .int .i64 0, .int .i64 0, .int .i64 0, .int .i64 0, .bool false]) ∧ i0.size = 11 ∧ i0.bytes = 80) := hd ⟨hi0, hz0, hz1, hz2⟩
  clear hi0 hz0 hz1 hz2
  go_enter Try.func92, Try.ntmps92
  go_wp2
  go_loopw [0, 7] (fun l i wr => ∃ (k : Nat) (v' : Value), k ≤ 4 ∧ i = .int .i64 k ∧ v' = l ∧ wr.ownsRow base 134 11 v' (n + k) (rv (xs ++ (Rf.jump op dg).take k)) ∧ App w wr v v') (fun _ i _ => 4 - (intOf i).toNat)
  case atStart => exact ⟨0, v, by omega, rfl, rfl, by simpa using hown, App.refl _ _⟩
  case round =>
    obtain ⟨k, v', hk, rfl, rfl, hO, hA⟩ := hrel
    rcases (by omega : k = 0 ∨ k = 1 ∨ k = 2 ∨ k = 3 ∨ k = 4) with rfl | rfl | rfl | rfl | rfl
    -- JUMP printed by gen_ref2.py
    · have h1 := Own1.start hA hO #[.int .i64 0, .int .i64 0, .int .i64 0, .bool false, .bool false, .int .i64 0, .int .i64 0, .int .i64 0, .int .i64 0, .int .i64 0, .bool false]
      go_upto_region 5 with ((with_reducible refine wl_store134 _ _ _ ?_ ?_ h1.blk ?_ ?_); exact rfl; exact ⟨_, _, _, _, _, _, _, _, _, _, _, rfl⟩; exact rfl; intro cells hcells; obtain rfl := Value.agg.inj hcells; clear hcells)
      refine wp_world (fun W => Own1 w W base wr.heap.size v v' (n + 0) (rv (xs ++ ((Rf.jump op dg).take 0))) #[.int .i64 (16 * dg + 5), .int .i64 op, .int .i64 0, .bool false, .bool false, .int .i64 (-1), .int .i64 0, .int .i64 (-1), .int .i64 (-1), .int .i64 0, .bool false]) (h1.row _) ?_
      clear h1
      generalize wr.heap.size = g
      intro W1 h1
      have hsz := h1.app.size
      have hRow : Rd (W1.alloc (.cells #[.int .i64 (16 * dg + 5), .int .i64 op, .int .i64 0, .bool false, .bool false, .int .i64 (-1), .int .i64 0, .int .i64 (-1), .int .i64 (-1), .int .i64 0, .bool false] 134)) 11 (some ⟨W1.heap.size, 0, none⟩) 1 #[.int .i64 (16 * dg + 5), .int .i64 op, .int .i64 0, .bool false, .bool false, .int .i64 (-1), .int .i64 0, .int .i64 (-1), .int .i64 (-1), .int .i64 0, .bool false].toList := Rd.row W1 ⟨16 * dg + 5, op, 0, false, false, -1, 0, -1, -1, 0, false⟩
      have hOne : ∀ u ∈ (#[.int .i64 (16 * dg + 5), .int .i64 op, .int .i64 0, .bool false, .bool false, .int .i64 (-1), .int .i64 0, .int .i64 (-1), .int .i64 (-1), .int .i64 0, .bool false] : Array Value).toList, u.oneCell' = true := rowC_one ⟨16 * dg + 5, op, 0, false, false, -1, 0, -1, -1, 0, false⟩
      have hT : (Rf.jump op dg).take 1 = (Rf.jump op dg).take 0 ++ [⟨16 * dg + 5, op, 0, false, false, -1, 0, -1, -1, 0, false⟩] := rfl
      have hS : rv (xs ++ ((Rf.jump op dg).take 0)) ++ (#[.int .i64 (16 * dg + 5), .int .i64 op, .int .i64 0, .bool false, .bool false, .int .i64 (-1), .int .i64 0, .int .i64 (-1), .int .i64 (-1), .int .i64 0, .bool false] : Array Value).toList = rv (xs ++ ((Rf.jump op dg).take 1)) := by rw [hT, ← List.append_assoc]; exact rv_snoc _ ⟨16 * dg + 5, op, 0, false, false, -1, 0, -1, -1, 0, false⟩
      have HS := hd hS
      clear hS hT
      go_wp2_with (first | ((with_reducible refine wl_load134 _ g ?_ h1.blk ?_ ?_); exact rfl; exact rfl) | (at_builtin; refine wpList_app _ rfl _ _ 66 rfl base 134 i0 _ 11 80 Try.underlying66 HI.out.1 HI.out.2.1 HI.out.2.2.1 HI.out.2.2.2 rfl (by omega) v' (n + 0) (rv (xs ++ ((Rf.jump op dg).take 0))) rfl (h1.own.alloc _) (some ⟨W1.heap.size, 0, none⟩) 1 1 (#[.int .i64 (16 * dg + 5), .int .i64 op, .int .i64 0, .bool false, .bool false, .int .i64 (-1), .int .i64 0, .int .i64 (-1), .int .i64 (-1), .int .i64 0, .bool false] : Array Value).toList rfl hRow hOne (by omega) (by omega) (by simp; have := h1.app.size; omega) ?_; intro v1 w2 hown1 hg1 hat1; have hA1 := (h1.app.then_ext (Ext.new _ _)).trans (App.of_law hg1 hat1)))
      go_roundw
      case rel => exact ⟨1, v1, by omega, by go_num, rfl, by rw [← HS.out]; exact hown1, hA1⟩
      case measure => simp [intOf]
    · have h1 := Own1.start hA hO #[.int .i64 0, .int .i64 0, .int .i64 0, .bool false, .bool false, .int .i64 0, .int .i64 0, .int .i64 0, .int .i64 0, .int .i64 0, .bool false]
      go_upto_region 5 with ((with_reducible refine wl_store134 _ _ _ ?_ ?_ h1.blk ?_ ?_); exact rfl; exact ⟨_, _, _, _, _, _, _, _, _, _, _, rfl⟩; exact rfl; intro cells hcells; obtain rfl := Value.agg.inj hcells; clear hcells)
      refine wp_world (fun W => Own1 w W base wr.heap.size v v' (n + 1) (rv (xs ++ ((Rf.jump op dg).take 1))) #[.int .i64 (16 * dg + 5), .int .i64 op, .int .i64 0, .bool false, .bool false, .int .i64 (-1), .int .i64 0, .int .i64 (-1), .int .i64 (-1), .int .i64 0, .bool false]) (h1.row _) ?_
      clear h1
      generalize wr.heap.size = g
      intro W1 h1
      obtain ⟨p0, p1, p2, p3, p4, p5, p6, p7, p8, p9, p10⟩ := h1.blk.c11
      obtain ⟨f0, f3, f4, f6, f8⟩ := h1.blk.f11
      go_upto_region 10 with (fail)
      refine wp_world (fun W => Own1 w W base g v v' (n + 1) (rv (xs ++ ((Rf.jump op dg).take 1))) #[.int .i64 (16 * dg + 13), .int .i64 op, .int .i64 0, .bool false, .bool true, .int .i64 (-1), .int .i64 (-1), .int .i64 (-1), .int .i64 0, .int .i64 0, .bool false]) (by have := (((h1.set_ 0 (.int .i64 (16 * dg + 5 + 8))).set_ 4 (.bool true)).set_ 6 (.int .i64 (-1))).set_ 8 (.int .i64 0); simpa [Int.add_assoc] using this) ?_
      clear p0 p1 p2 p3 p4 p5 p6 p7 p8 p9 p10 f0 f3 f4 f6 f8 h1
      intro W2 h1
      have hsz := h1.app.size
      have hRow : Rd (W2.alloc (.cells #[.int .i64 (16 * dg + 13), .int .i64 op, .int .i64 0, .bool false, .bool true, .int .i64 (-1), .int .i64 (-1), .int .i64 (-1), .int .i64 0, .int .i64 0, .bool false] 134)) 11 (some ⟨W2.heap.size, 0, none⟩) 1 #[.int .i64 (16 * dg + 13), .int .i64 op, .int .i64 0, .bool false, .bool true, .int .i64 (-1), .int .i64 (-1), .int .i64 (-1), .int .i64 0, .int .i64 0, .bool false].toList := Rd.row W2 ⟨16 * dg + 13, op, 0, false, true, -1, -1, -1, 0, 0, false⟩
      have hOne : ∀ u ∈ (#[.int .i64 (16 * dg + 13), .int .i64 op, .int .i64 0, .bool false, .bool true, .int .i64 (-1), .int .i64 (-1), .int .i64 (-1), .int .i64 0, .int .i64 0, .bool false] : Array Value).toList, u.oneCell' = true := rowC_one ⟨16 * dg + 13, op, 0, false, true, -1, -1, -1, 0, 0, false⟩
      have hT : (Rf.jump op dg).take 2 = (Rf.jump op dg).take 1 ++ [⟨16 * dg + 13, op, 0, false, true, -1, -1, -1, 0, 0, false⟩] := rfl
      have hS : rv (xs ++ ((Rf.jump op dg).take 1)) ++ (#[.int .i64 (16 * dg + 13), .int .i64 op, .int .i64 0, .bool false, .bool true, .int .i64 (-1), .int .i64 (-1), .int .i64 (-1), .int .i64 0, .int .i64 0, .bool false] : Array Value).toList = rv (xs ++ ((Rf.jump op dg).take 2)) := by rw [hT, ← List.append_assoc]; exact rv_snoc _ ⟨16 * dg + 13, op, 0, false, true, -1, -1, -1, 0, 0, false⟩
      have HS := hd hS
      clear hS hT
      go_wp2_with (first | ((with_reducible refine wl_load134 _ g ?_ h1.blk ?_ ?_); exact rfl; exact rfl) | (at_builtin; refine wpList_app _ rfl _ _ 66 rfl base 134 i0 _ 11 80 Try.underlying66 HI.out.1 HI.out.2.1 HI.out.2.2.1 HI.out.2.2.2 rfl (by omega) v' (n + 1) (rv (xs ++ ((Rf.jump op dg).take 1))) rfl (h1.own.alloc _) (some ⟨W2.heap.size, 0, none⟩) 1 1 (#[.int .i64 (16 * dg + 13), .int .i64 op, .int .i64 0, .bool false, .bool true, .int .i64 (-1), .int .i64 (-1), .int .i64 (-1), .int .i64 0, .int .i64 0, .bool false] : Array Value).toList rfl hRow hOne (by omega) (by omega) (by simp; have := h1.app.size; omega) ?_; intro v1 w2 hown1 hg1 hat1; have hA1 := (h1.app.then_ext (Ext.new _ _)).trans (App.of_law hg1 hat1)))
      go_roundw
      case rel => exact ⟨2, v1, by omega, by go_num, rfl, by rw [← HS.out]; exact hown1, hA1⟩
      case measure => simp [intOf]
    · have h1 := Own1.start hA hO #[.int .i64 0, .int .i64 0, .int .i64 0, .bool false, .bool false, .int .i64 0, .int .i64 0, .int .i64 0, .int .i64 0, .int .i64 0, .bool false]
      go_upto_region 5 with ((with_reducible refine wl_store134 _ _ _ ?_ ?_ h1.blk ?_ ?_); exact rfl; exact ⟨_, _, _, _, _, _, _, _, _, _, _, rfl⟩; exact rfl; intro cells hcells; obtain rfl := Value.agg.inj hcells; clear hcells)
      refine wp_world (fun W => Own1 w W base wr.heap.size v v' (n + 2) (rv (xs ++ ((Rf.jump op dg).take 2))) #[.int .i64 (16 * dg + 5), .int .i64 op, .int .i64 0, .bool false, .bool false, .int .i64 (-1), .int .i64 0, .int .i64 (-1), .int .i64 (-1), .int .i64 0, .bool false]) (h1.row _) ?_
      clear h1
      generalize wr.heap.size = g
      intro W1 h1
      obtain ⟨p0, p1, p2, p3, p4, p5, p6, p7, p8, p9, p10⟩ := h1.blk.c11
      obtain ⟨f0, f3, f4, f6, f8⟩ := h1.blk.f11
      go_upto_region 13 with (fail)
      have hE : 16 * dg + 5 + 1 = 16 * dg + 6 := by omega
      refine wp_world (fun W => Own1 w W base g v v' (n + 2) (rv (xs ++ ((Rf.jump op dg).take 2))) #[.int .i64 (16 * dg + 6), .int .i64 op, .int .i64 0, .bool true, .bool false, .int .i64 (-1), .int .i64 0, .int .i64 (-1), .int .i64 (-1), .int .i64 0, .bool false]) (by have := (h1.set_ 0 (.int .i64 (16 * dg + 5 + 1))).set_ 3 (.bool true); rw [hE] at this ⊢; simpa using this) ?_
      clear p0 p1 p2 p3 p4 p5 p6 p7 p8 p9 p10 f0 f3 f4 f6 f8 h1 hE
      intro W3 h1
      have hsz := h1.app.size
      have hRow : Rd (W3.alloc (.cells #[.int .i64 (16 * dg + 6), .int .i64 op, .int .i64 0, .bool true, .bool false, .int .i64 (-1), .int .i64 0, .int .i64 (-1), .int .i64 (-1), .int .i64 0, .bool false] 134)) 11 (some ⟨W3.heap.size, 0, none⟩) 1 #[.int .i64 (16 * dg + 6), .int .i64 op, .int .i64 0, .bool true, .bool false, .int .i64 (-1), .int .i64 0, .int .i64 (-1), .int .i64 (-1), .int .i64 0, .bool false].toList := Rd.row W3 ⟨16 * dg + 6, op, 0, true, false, -1, 0, -1, -1, 0, false⟩
      have hOne : ∀ u ∈ (#[.int .i64 (16 * dg + 6), .int .i64 op, .int .i64 0, .bool true, .bool false, .int .i64 (-1), .int .i64 0, .int .i64 (-1), .int .i64 (-1), .int .i64 0, .bool false] : Array Value).toList, u.oneCell' = true := rowC_one ⟨16 * dg + 6, op, 0, true, false, -1, 0, -1, -1, 0, false⟩
      have hT : (Rf.jump op dg).take 3 = (Rf.jump op dg).take 2 ++ [⟨16 * dg + 6, op, 0, true, false, -1, 0, -1, -1, 0, false⟩] := rfl
      have hS : rv (xs ++ ((Rf.jump op dg).take 2)) ++ (#[.int .i64 (16 * dg + 6), .int .i64 op, .int .i64 0, .bool true, .bool false, .int .i64 (-1), .int .i64 0, .int .i64 (-1), .int .i64 (-1), .int .i64 0, .bool false] : Array Value).toList = rv (xs ++ ((Rf.jump op dg).take 3)) := by rw [hT, ← List.append_assoc]; exact rv_snoc _ ⟨16 * dg + 6, op, 0, true, false, -1, 0, -1, -1, 0, false⟩
      have HS := hd hS
      clear hS hT
      go_wp2_with (first | ((with_reducible refine wl_load134 _ g ?_ h1.blk ?_ ?_); exact rfl; exact rfl) | (at_builtin; refine wpList_app _ rfl _ _ 66 rfl base 134 i0 _ 11 80 Try.underlying66 HI.out.1 HI.out.2.1 HI.out.2.2.1 HI.out.2.2.2 rfl (by omega) v' (n + 2) (rv (xs ++ ((Rf.jump op dg).take 2))) rfl (h1.own.alloc _) (some ⟨W3.heap.size, 0, none⟩) 1 1 (#[.int .i64 (16 * dg + 6), .int .i64 op, .int .i64 0, .bool true, .bool false, .int .i64 (-1), .int .i64 0, .int .i64 (-1), .int .i64 (-1), .int .i64 0, .bool false] : Array Value).toList rfl hRow hOne (by omega) (by omega) (by simp; have := h1.app.size; omega) ?_; intro v1 w2 hown1 hg1 hat1; have hA1 := (h1.app.then_ext (Ext.new _ _)).trans (App.of_law hg1 hat1)))
      go_roundw
      case rel => exact ⟨3, v1, by omega, by go_num, rfl, by rw [← HS.out]; exact hown1, hA1⟩
      case measure => simp [intOf]
    · have h1 := Own1.start hA hO #[.int .i64 0, .int .i64 0, .int .i64 0, .bool false, .bool false, .int .i64 0, .int .i64 0, .int .i64 0, .int .i64 0, .int .i64 0, .bool false]
      go_upto_region 5 with ((with_reducible refine wl_store134 _ _ _ ?_ ?_ h1.blk ?_ ?_); exact rfl; exact ⟨_, _, _, _, _, _, _, _, _, _, _, rfl⟩; exact rfl; intro cells hcells; obtain rfl := Value.agg.inj hcells; clear hcells)
      refine wp_world (fun W => Own1 w W base wr.heap.size v v' (n + 3) (rv (xs ++ ((Rf.jump op dg).take 3))) #[.int .i64 (16 * dg + 5), .int .i64 op, .int .i64 0, .bool false, .bool false, .int .i64 (-1), .int .i64 0, .int .i64 (-1), .int .i64 (-1), .int .i64 0, .bool false]) (h1.row _) ?_
      clear h1
      generalize wr.heap.size = g
      intro W1 h1
      obtain ⟨p0, p1, p2, p3, p4, p5, p6, p7, p8, p9, p10⟩ := h1.blk.c11
      obtain ⟨f0, f3, f4, f6, f8⟩ := h1.blk.f11
      go_upto_region 10 with (fail)
      refine wp_world (fun W => Own1 w W base g v v' (n + 3) (rv (xs ++ ((Rf.jump op dg).take 3))) #[.int .i64 (16 * dg + 13), .int .i64 op, .int .i64 0, .bool false, .bool true, .int .i64 (-1), .int .i64 (-1), .int .i64 (-1), .int .i64 0, .int .i64 0, .bool false]) (by have := (((h1.set_ 0 (.int .i64 (16 * dg + 5 + 8))).set_ 4 (.bool true)).set_ 6 (.int .i64 (-1))).set_ 8 (.int .i64 0); simpa [Int.add_assoc] using this) ?_
      clear p0 p1 p2 p3 p4 p5 p6 p7 p8 p9 p10 f0 f3 f4 f6 f8 h1
      intro W2 h1
      obtain ⟨p0, p1, p2, p3, p4, p5, p6, p7, p8, p9, p10⟩ := h1.blk.c11
      obtain ⟨f0, f3, f4, f6, f8⟩ := h1.blk.f11
      go_upto_region 13 with (fail)
      have hE : 16 * dg + 13 + 1 = 16 * dg + 14 := by omega
      refine wp_world (fun W => Own1 w W base g v v' (n + 3) (rv (xs ++ ((Rf.jump op dg).take 3))) #[.int .i64 (16 * dg + 14), .int .i64 op, .int .i64 0, .bool true, .bool true, .int .i64 (-1), .int .i64 (-1), .int .i64 (-1), .int .i64 0, .int .i64 0, .bool false]) (by have := (h1.set_ 0 (.int .i64 (16 * dg + 13 + 1))).set_ 3 (.bool true); rw [hE] at this ⊢; simpa using this) ?_
      clear p0 p1 p2 p3 p4 p5 p6 p7 p8 p9 p10 f0 f3 f4 f6 f8 h1 hE
      intro W3 h1
      have hsz := h1.app.size
      have hRow : Rd (W3.alloc (.cells #[.int .i64 (16 * dg + 14), .int .i64 op, .int .i64 0, .bool true, .bool true, .int .i64 (-1), .int .i64 (-1), .int .i64 (-1), .int .i64 0, .int .i64 0, .bool false] 134)) 11 (some ⟨W3.heap.size, 0, none⟩) 1 #[.int .i64 (16 * dg + 14), .int .i64 op, .int .i64 0, .bool true, .bool true, .int .i64 (-1), .int .i64 (-1), .int .i64 (-1), .int .i64 0, .int .i64 0, .bool false].toList := Rd.row W3 ⟨16 * dg + 14, op, 0, true, true, -1, -1, -1, 0, 0, false⟩
      have hOne : ∀ u ∈ (#[.int .i64 (16 * dg + 14), .int .i64 op, .int .i64 0, .bool true, .bool true, .int .i64 (-1), .int .i64 (-1), .int .i64 (-1), .int .i64 0, .int .i64 0, .bool false] : Array Value).toList, u.oneCell' = true := rowC_one ⟨16 * dg + 14, op, 0, true, true, -1, -1, -1, 0, 0, false⟩
      have hT : (Rf.jump op dg).take 4 = (Rf.jump op dg).take 3 ++ [⟨16 * dg + 14, op, 0, true, true, -1, -1, -1, 0, 0, false⟩] := rfl
      have hS : rv (xs ++ ((Rf.jump op dg).take 3)) ++ (#[.int .i64 (16 * dg + 14), .int .i64 op, .int .i64 0, .bool true, .bool true, .int .i64 (-1), .int .i64 (-1), .int .i64 (-1), .int .i64 0, .int .i64 0, .bool false] : Array Value).toList = rv (xs ++ ((Rf.jump op dg).take 4)) := by rw [hT, ← List.append_assoc]; exact rv_snoc _ ⟨16 * dg + 14, op, 0, true, true, -1, -1, -1, 0, 0, false⟩
      have HS := hd hS
      clear hS hT
      go_wp2_with (first | ((with_reducible refine wl_load134 _ g ?_ h1.blk ?_ ?_); exact rfl; exact rfl) | (at_builtin; refine wpList_app _ rfl _ _ 66 rfl base 134 i0 _ 11 80 Try.underlying66 HI.out.1 HI.out.2.1 HI.out.2.2.1 HI.out.2.2.2 rfl (by omega) v' (n + 3) (rv (xs ++ ((Rf.jump op dg).take 3))) rfl (h1.own.alloc _) (some ⟨W3.heap.size, 0, none⟩) 1 1 (#[.int .i64 (16 * dg + 14), .int .i64 op, .int .i64 0, .bool true, .bool true, .int .i64 (-1), .int .i64 (-1), .int .i64 (-1), .int .i64 0, .int .i64 0, .bool false] : Array Value).toList rfl hRow hOne (by omega) (by omega) (by simp; have := h1.app.size; omega) ?_; intro v1 w2 hown1 hg1 hat1; have hA1 := (h1.app.then_ext (Ext.new _ _)).trans (App.of_law hg1 hat1)))
      go_roundw
      case rel => exact ⟨4, v1, by omega, by go_num, rfl, by rw [← HS.out]; exact hown1, hA1⟩
      case measure => simp [intOf]
    -- end JUMP
    · go_wp2
      go_ret
      exact ⟨_, rfl, hO, hA⟩

end Go.Proofs.Ytfcbedkidjclhaa
