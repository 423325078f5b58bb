/-
  What a part of the walk may change: blocks of a set; all other blocks that were there stand.
  No condition: plain definitions and lemmas.
-/
import Derived.Test.YtfcbedkidjclhaaPack1
import Derived.Deep.DeepAppendWide
namespace Go.Proofs.Ytfcbedkidjclhaa
open Go.RowKit
set_option maxRecDepth 100000
set_option linter.unusedSimpArgs false
set_option linter.unusedVariables false

theorem heap_row_far (w : World) (g : Nat) (cs : Array Value) (i : Nat) (h : i ≠ g) : (w.setRow g cs).heap[i]? = w.heap[i]? := by
  simp only [World.setRow]
  rw [Array.getElem?_modify, if_neg (Ne.symm h)]

/-- all blocks that were there and are not of the set stand -/
structure Kp (S : Nat → Prop) (w w' : World) : Prop where
  os : w'.os = w.os
  tape : w'.tape = w.tape
  output : w'.output = w.output
  size : w.heap.size ≤ w'.heap.size
  block : ∀ k, k < w.heap.size → ¬ S k → w'.heap[k]? = w.heap[k]?

section
variable {S T : Nat → Prop} {w w' : World}
theorem Kp.of_ext (h : Ext w w') : Kp S w w' := ⟨Below.os h, Below.tape h, Below.output h, h.size, fun k hk _ => Below.block h k hk⟩
theorem Kp.refl (w : World) : Kp S w w := Kp.of_ext (Ext.refl w)
theorem Kp.trans {w2 : World} (h : Kp S w w') (k : Kp T w' w2) (hT : ∀ i, i < w.heap.size → T i → S i) : Kp S w w2 :=
  ⟨k.os.trans h.os, k.tape.trans h.tape, k.output.trans h.output, Nat.le_trans h.size k.size, fun i hi hn => (k.block i (Nat.lt_of_lt_of_le hi h.size) (fun e => hn (hT i hi e))).trans (h.block i hi hn)⟩
theorem Kp.mono (h : Kp S w w') (hT : ∀ i, i < w.heap.size → S i → T i) : Kp T w w' := ⟨h.os, h.tape, h.output, h.size, fun i hi hn => h.block i hi fun e => hn (hT i hi e)⟩
theorem Kp.then_ext {w2 : World} (h : Kp S w w') (k : Ext w' w2) : Kp S w w2 := h.trans (Kp.of_ext (S := S) k) fun _ _ e => e
theorem Kp.drew (h : Kp S w w') : Kp S w w'.drew := ⟨h.os, h.tape, h.output, h.size, h.block⟩
theorem Kp.drewN (h : Kp S w w') (n : Nat) : Kp S w (w'.drewN n) := ⟨h.os, h.tape, h.output, h.size, h.block⟩
theorem Kp.alloc (h : Kp S w w') (o : Obj) : Kp S w (w'.alloc o) := h.then_ext (Ext.new _ _)
theorem Kp.set (h : Kp S w w') (p : Addr) (hp : S p.block ∨ w.heap.size ≤ p.block) (u : Value) : Kp S w (w'.setCell p u) := by
  refine ⟨h.os, h.tape, h.output, Nat.le_trans h.size (by simp [World.setCell]), fun i hi hn => ?_⟩
  rw [Below.heap_setCell w' p u i (by rintro rfl; rcases hp with e | e; exact hn e; omega)]
  exact h.block i hi hn
theorem Kp.row (h : Kp S w w') {g : Nat} (hp : S g ∨ w.heap.size ≤ g) (cs : Array Value) : Kp S w (w'.setRow g cs) := by
  refine ⟨h.os, h.tape, h.output, by rw [setRow_size]; exact h.size, fun i hi hn => ?_⟩
  rw [heap_row_far w' g cs i (by rintro rfl; rcases hp with e | e; exact hn e; omega)]
  exact h.block i hi hn
theorem Kp.grown {w2 : World} {row : Option Nat} (h : Kp S w w') (hg : w'.grownBy w2 row) (hr : ∀ k, row = some k → S k ∨ w.heap.size ≤ k) : Kp S w w2 :=
  ⟨hg.os.trans h.os, hg.tape.trans h.tape, hg.output.trans h.output, Nat.le_trans h.size hg.size, fun i hi hn => (hg.block i (Nat.lt_of_lt_of_le hi h.size) (fun e => by rcases hr i e.symm with e | e; exact hn e; omega)).trans (h.block i hi hn)⟩
theorem Kp.app {w2 : World} {u v : Value} (h : Kp S w w') (a : App w' w2 u v) (hr : ∀ k, u.ownBlock = some k → S k ∨ w.heap.size ≤ k) : Kp S w w2 := h.grown a.grown hr
theorem Kp.ext {w0 : World} (h : Kp S w w') (h0 : Ext w0 w) (hS : ∀ k, S k → w0.heap.size ≤ k) : Ext w0 w' :=
  ⟨h.os.trans (Below.os h0), h.tape.trans (Below.tape h0), h.output.trans (Below.output h0), Nat.le_trans h0.size h.size, fun i hi => (h.block i (Nat.lt_of_lt_of_le hi h0.size) fun e => by have := hS i e; omega).trans (Below.block h0 i hi)⟩
theorem Kp.ext_self (h : Kp S w w') (hS : ∀ k, S k → w.heap.size ≤ k) : Ext w w' := h.ext (Ext.refl w) hS
theorem Kp.blk (h : Kp S w w') {k : Nat} {t : TypeId} {cs : Array Value} (hb : Blk w k t cs) (hn : ¬ S k) : Blk w' k t cs := (h.block k hb.lt hn).trans hb
theorem Kp.cell (h : Kp S w w') {p : Addr} {v : Value} (hc : w.cell? p = some v) (hn : ¬ S p.block) : w'.cell? p = some v :=
  (World.cell?_of_block (w := w) (h.block p.block (World.block_lt_of_cell? w p hc) hn)).trans hc
theorem Kp.rd (h : Kp S w w') {sz n : Nat} {A : Option Addr} {xs : List Value} (hr : Rd w sz A n xs) (hne : ∀ ad, A = some ad → ¬ S ad.block) : Rd w' sz A n xs :=
  ⟨hr.1, fun hn => by
    obtain ⟨ad, e, hc⟩ := hr.2 hn
    exact ⟨ad, e, fun j u hu => h.cell (hc j u hu) (by rw [blk_add]; exact hne ad e)⟩⟩
theorem Kp.own (h : Kp S w w') {base : Nat} {e : TypeId} {sz n : Nat} {v : Value} {xs : List Value} (ho : w.ownsRow base e sz v n xs) (hne : ∀ k, v.ownBlock = some k → ¬ S k) : w'.ownsRow base e sz v n xs := by
  refine ⟨ho.1, ?_⟩
  rcases ho.2 with hn | ⟨g, cap, cur, hv, hb, hg, r⟩
  · exact .inl hn
  · exact .inr ⟨g, cap, cur, hv, hb, by rw [h.block g (Array.getElem?_eq_some_iff.1 hg).1 (hne g (by rw [hv]; rfl))]; exact hg, r⟩
end

/-- a cell of an owned row of single cells is turned -/
theorem own_put {w : World} {base n c g : Nat} {e : TypeId} {xs : List Value} (h : w.ownsRow base e 1 (.slice (some ⟨g, 0, none⟩) n c) n xs) {j : Nat} (hj : j < n) (u : Value) :
    (w.setCell ⟨g, j, none⟩ u).ownsRow base e 1 (.slice (some ⟨g, 0, none⟩) n c) n (xs.set j u) := by
  obtain ⟨hl, h2⟩ := h
  refine ⟨by rw [List.length_set]; exact hl, ?_⟩
  rcases h2 with ⟨h3, h0⟩ | ⟨g', cap, cur, hv, hb, hh, h4, h5, h6, h7⟩
  · injection h3 with h3; cases h3
  · injection hv with hv1 hv2 hv3
    injection hv1 with hv1
    injection hv1 with hv1
    subst hv1
    refine .inr ⟨g, cap, cur.setIfInBounds j u, by rw [hv3], hb, ?_, h4, h5, by rw [Array.size_setIfInBounds]; exact h6, ?_⟩
    · simp [World.setCell, Array.getElem?_modify, hh]
    · rw [Array.toList_setIfInBounds, List.take_set, h7]

/-- a shorter view of an owned row -/
theorem own_less {w : World} {base n m c : Nat} {A : Option Addr} {e : TypeId} {sz : Nat} {xs : List Value} (h : w.ownsRow base e sz (.slice A n c) n xs) (hm : m ≤ n) (hn : 0 < n) :
    w.ownsRow base e sz (.slice A m c) m (xs.take (m * sz)) := by
  obtain ⟨hl, h2⟩ := h
  refine ⟨by rw [List.length_take, hl]; exact Nat.min_eq_left (Nat.mul_le_mul_right _ hm), ?_⟩
  rcases h2 with ⟨h3, h0⟩ | ⟨g', cap, cur, hv, hb, hh, h4, h5, h6, h7⟩
  · omega
  · injection hv with hv1 hv2 hv3
    refine .inr ⟨g', cap, cur, by rw [hv1, hv3], hb, hh, by omega, h5, h6, ?_⟩
    rw [← h7, List.take_take, Nat.min_eq_left (Nat.mul_le_mul_right _ hm)]

theorem bv_set (l : List UInt8) (j : Nat) (x : UInt8) : (bv l).set j (.int .u8 ((x.toNat : Nat) : Int)) = bv (l.set j x) := by simp [bv, List.map_set]
theorem u8_of_int (v : Int) (h0 : 0 ≤ v) (h1 : v < 256) : ∃ x : UInt8, v = ((x.toNat : Nat) : Int) := ⟨Pk.byte v, by rw [Pk.byte_toNat]; omega⟩

/-- an append of very many -/
theorem run_app_wideK {P : Program} (w : World) (base : Nat) (t ty e : TypeId) (i : TypeInfo) (z : Value) (sz bytes : Nat) (ht : P.underlying t = some (.slice e)) (hi : P.info? e = some i) (hz : i.zero = some z)
    (hsize : i.size = sz) (hby : i.bytes = bytes) (hzs : z.cells.size = sz) (hsz : 0 < sz)
    (v : Value) (n : Nat) (xs : List Value) (hown : w.ownsRow base e sz v n xs)
    (A : Option Addr) (m c : Nat) (news : List Value) (hr : Rd w sz A m news) (h1 : ∀ u ∈ news, u.oneCell' = true)
    (hbytes : ((n + m) + (n + m) / 4 + 192) * bytes ≤ 281474976710656) (hnm : n + m ≤ 281474976710656) (hbase : base ≤ w.heap.size) :
    ∃ v' w', (Builtin.append_ #[t, t] ty #[v, .slice A m c]).run P w = .ok v' w' ∧ w'.ownsRow base e sz v' (n + m) (xs ++ news) ∧ w.grownBy w' v.ownBlock := by
  have h63 : n + m ≤ maxLen := by unfold maxLen; omega
  rcases A with _ | ad
  · have hm : m = 0 := by
      rcases Nat.eq_zero_or_pos m with h0 | h0
      · exact h0
      · obtain ⟨ad, h, _⟩ := hr.2 h0
        cases h
    subst hm
    have hn : news = [] := List.eq_nil_of_length_eq_zero (by simpa using hr.1)
    subst hn
    exact ⟨v, w, run_app_nil w base t ty e i sz ht hi v n xs hown c, by simpa using hown, World.grownBy.refl w _⟩
  · obtain ⟨v', w', hrun, h2, h3, _⟩ := run_append_own_wide (P := P) w base t ty e i z sz bytes ht hi hz hsize hby hzs hsz v n xs hown ad m c news hr.1 (fun j u hu => hr.cells j u hu) h1 h63 hbytes hbase
    exact ⟨v', w', hrun, h2, h3⟩

theorem wl_appendK {P : Program} {w : World} {ops : Array Oper} {rest : List Oper} {dst : Option Tmp} {ty : TypeId} {ps : String} {af : Array Edge} {a : Act} {Q : Exit → Act → World → Prop} (s x : Operand) (t : TypeId)
    (base : Nat) (e : TypeId) (i : TypeInfo) (z : Value) (sz bytes : Nat) (ht : P.underlying t = some (.slice e)) (hi : P.info? e = some i) (hz : i.zero = some z)
    (hsize : i.size = sz) (hby : i.bytes = bytes) (hzs : z.cells.size = sz) (hsz : 0 < sz)
    (v : Value) (n : Nat) (xs : List Value) (hs : a.eval s = v) (hown : w.ownsRow base e sz v n xs)
    (A : Option Addr) (m c : Nat) (news : List Value) (hx : a.eval x = .slice A m c) (hr : Rd w sz A m news) (h1 : ∀ u ∈ news, u.oneCell' = true)
    (hbytes : ((n + m) + (n + m) / 4 + 192) * bytes ≤ 281474976710656) (hnm : n + m ≤ 281474976710656) (hbase : base ≤ w.heap.size)
    (h : ∀ v' w', w'.ownsRow base e sz v' (n + m) (xs ++ news) → w.grownBy w' v.ownBlock → wpList P ops Q rest (a.put dst v') w') :
    wpList P ops Q (⟨dst, .call { callee := .builtin .append, args := #[s, x], argTypes := #[t, t] }, ty, ps, af, none⟩ :: rest) a w :=
  wpList_plain rfl fun _ hK => by
    obtain ⟨v', w', hrun, h2, h3⟩ := run_app_wideK (P := P) w base t ty e i z sz bytes ht hi hz hsize hby hzs hsz v n xs hown A m c news hr h1 hbytes hnm hbase
    unfold Oper.wp execOp
    simp only [resolve, invoke, builtin, Sem.run_bind, Sem.run_pure, Result.andThen_ok, List.map_toArray, List.map_cons, List.map_nil, hs, hx, hrun]
    exact hK _ _ (h v' w' h2 h3)

/-- the same, under a guard that holds -/
theorem wl_appendK_g {P : Program} {w : World} {ops : Array Oper} {rest : List Oper} {dst : Option Tmp} {ty : TypeId} {ps : String} {af : Array Edge} {gd : Nat × Bool} {a : Act} {Q : Exit → Act → World → Prop} (s x : Operand) (t : TypeId)
    (hw : Region.wanted ⟨dst, .call { callee := .builtin .append, args := #[s, x], argTypes := #[t, t] }, ty, ps, af, some gd⟩ (yielded ops a.tmps) = true)
    (base : Nat) (e : TypeId) (i : TypeInfo) (z : Value) (sz bytes : Nat) (ht : P.underlying t = some (.slice e)) (hi : P.info? e = some i) (hz : i.zero = some z)
    (hsize : i.size = sz) (hby : i.bytes = bytes) (hzs : z.cells.size = sz) (hsz : 0 < sz)
    (v : Value) (n : Nat) (xs : List Value) (hs : a.eval s = v) (hown : w.ownsRow base e sz v n xs)
    (A : Option Addr) (m c : Nat) (news : List Value) (hx : a.eval x = .slice A m c) (hr : Rd w sz A m news) (h1 : ∀ u ∈ news, u.oneCell' = true)
    (hbytes : ((n + m) + (n + m) / 4 + 192) * bytes ≤ 281474976710656) (hnm : n + m ≤ 281474976710656) (hbase : base ≤ w.heap.size)
    (h : ∀ v' w', w'.ownsRow base e sz v' (n + m) (xs ++ news) → w.grownBy w' v.ownBlock → wpList P ops Q rest (a.put dst v') w') :
    wpList P ops Q (⟨dst, .call { callee := .builtin .append, args := #[s, x], argTypes := #[t, t] }, ty, ps, af, some gd⟩ :: rest) a w :=
  wpList_step fun K hK => by
    rw [if_pos hw]
    obtain ⟨v', w', hrun, h2, h3⟩ := run_app_wideK (P := P) w base t ty e i z sz bytes ht hi hz hsize hby hzs hsz v n xs hown A m c news hr h1 hbytes hnm hbase
    unfold Oper.wp execOp
    simp only [resolve, invoke, builtin, Sem.run_bind, Sem.run_pure, Result.andThen_ok, List.map_toArray, List.map_cons, List.map_nil, hs, hx, hrun]
    exact hK _ _ (h v' w' h2 h3)

theorem own_emptyK (w : World) (e : TypeId) (sz : Nat) : (w.alloc (.cells #[] e)).ownsRow w.heap.size e sz (.slice (some ⟨w.heap.size, 0, none⟩) 0 0) 0 [] :=
  ⟨by simp, .inr ⟨w.heap.size, 0, #[], rfl, Nat.le_refl _, Blk.new _ _ _, Nat.le_refl _, Nat.zero_le _, by simp, by simp⟩⟩

end Go.Proofs.Ytfcbedkidjclhaa
