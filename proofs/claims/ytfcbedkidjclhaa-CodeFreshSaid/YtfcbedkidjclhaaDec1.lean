/-
  The contract of pack's (*reader).contents, kind by kind.
  Conditions: the section's bytes read as a list, in memory that was there before the reader; the reader's block is known whole.
-/
import Derived.Test.YtfcbedkidjclhaaPackEnc
import Derived.Test.YtfcbedkidjclhaaDecM
import Derived.Laws.CopyOwn
import Derived.OwnWalk
namespace Go.Proofs.Ytfcbedkidjclhaa
open Go.RowKit
set_option maxRecDepth 100000
set_option linter.unusedSimpArgs false
set_option linter.unusedVariables false

/-- the reader's block, with the rows that it holds -/
structure RB (w0 w : World) (g : Nat) (A : Option Addr) (L pos kind : Nat) (c : Pk.C) : Prop where
  ext : Ext w0 w
  old : w0.heap.size ≤ g
  ex : ∃ D n1 c1 T n2 c2 C n3 c3, Blk w g 119 #[.slice A L L, .int .i64 pos, .int .i64 kind, .int .i64 c.lo, .int .i64 c.hi, .slice D n1 c1, .slice T n2 c2, .slice C n3 c3] ∧
    w.ownsRow w0.heap.size 5 1 (.slice D n1 c1) n1 (bv c.data) ∧ w.ownsRow w0.heap.size 54 2 (.slice T n2 c2) n2 (tv c.ts) ∧ w.ownsRow w0.heap.size 5 1 (.slice C n3 c3) n3 (bv c.code) ∧
    ((Value.slice D n1 c1).ownBlock = none ∨ (Value.slice D n1 c1).ownBlock ≠ (Value.slice C n3 c3).ownBlock)

/-- blocks of faults are as they were -/
def K121 (w w' : World) : Prop := ∀ q cs, Blk w q 121 cs → Blk w' q 121 cs
theorem K121.refl (w : World) : K121 w w := fun _ _ h => h
theorem K121.ext {w a b : World} (h : K121 w a) (k : Ext a b) : K121 w b := fun q cs hq => (h q cs hq).ext k
theorem K121.set {w a : World} {g i : Nat} {cs : Array Value} (h : K121 w a) (hB : Blk a g 119 cs) (u : Value) : K121 w (a.setCell ⟨g, i, none⟩ u) := fun q cs hq => (h q cs hq).far (p := ⟨g, i, none⟩) ((h q cs hq).ne_ hB (by decide)) u
theorem K121.new {w a : World} {k i : Nat} (h : K121 w a) (hk : w.heap.size ≤ k) (u : Value) : K121 w (a.setCell ⟨k, i, none⟩ u) := fun q cs hq => (h q cs hq).far (p := ⟨k, i, none⟩) (by have := hq.lt; simp only; omega) u

/-- what contents answers -/
def ContPost (x : Except (Nat × Int) Pk.C) (w0 w : World) (g : Nat) (A : Option Addr) (L pos kind : Nat) (e : Ending) (w' : World) : Prop :=
  K121 w w' ∧ match x with
  | .error (p, n) => e = .returned (.tuple #[.agg #[.int .i64 p, .int .i64 n], .bool false]) ∧ Ext w0 w'
  | .ok c => e = .returned (.tuple #[.agg #[.int .i64 0, .int .i64 0], .bool true]) ∧ RB w0 w' g A L pos kind c

/-! ### blocks of before, all but g, are as they were -/
def Gr (g : Nat) (w w' : World) : Prop := w.grownBy w' (some g)
section
variable {g : Nat} {w w' : World}
theorem Gr.of_ext (h : Ext w w') : Gr g w w' := ⟨Below.os h, Below.tape h, Below.output h, h.size, fun i hi _ => Below.block h i hi⟩
theorem Gr.refl (w : World) : Gr g w w := Gr.of_ext (Ext.refl w)
theorem Gr.trans {w2 : World} (h : Gr g w w') (k : Gr g w' w2) : Gr g w w2 :=
  ⟨k.os.trans h.os, k.tape.trans h.tape, k.output.trans h.output, Nat.le_trans h.size k.size, fun i hi hn => (k.block i (Nat.lt_of_lt_of_le hi h.size) hn).trans (h.block i hi hn)⟩
theorem Gr.then_ext {w2 : World} (h : Gr g w w') (k : Ext w' w2) : Gr g w w2 := h.trans (Gr.of_ext k)
theorem Gr.below {w2 : World} {B : Nat} (h : Gr g w w') (k : Below B w' w2) (hB : w.heap.size ≤ B) : Gr g w w2 :=
  ⟨(Below.os k).trans h.os, (Below.tape k).trans h.tape, (Below.output k).trans h.output, Nat.le_trans h.size (Below.size k), fun i hi hn => (Below.block k i (Nat.lt_of_lt_of_le hi hB)).trans (h.block i hi hn)⟩
theorem Gr.drew (h : Gr g w w') : Gr g w w'.drew := ⟨h.os, h.tape, h.output, h.size, h.block⟩
theorem Gr.drewN (h : Gr g w w') (n : Nat) : Gr g w (w'.drewN n) := ⟨h.os, h.tape, h.output, h.size, h.block⟩
theorem Gr.alloc (h : Gr g w w') (o : Obj) : Gr g w (w'.alloc o) := h.then_ext (Ext.new _ _)
theorem Gr.set (h : Gr g w w') (p : Addr) (hp : p.block = g ∨ w.heap.size ≤ p.block) (u : Value) : Gr g w (w'.setCell p u) := by
  refine ⟨h.os, h.tape, h.output, Nat.le_trans h.size (by simp [World.setCell]), fun i hi hn => ?_⟩
  rw [Below.heap_setCell w' p u i (by rintro rfl; rcases hp with e | e; exact hn (by rw [e]); omega)]
  exact h.block i hi hn
theorem Gr.at_ (h : Gr g w w') (i : Nat) (u : Value) : Gr g w (w'.setCell ⟨g, i, none⟩ u) := h.set _ (.inl rfl) u
theorem Gr.new (h : Gr g w w') {k : Nat} (hk : w.heap.size ≤ k) (i : Nat) (u : Value) : Gr g w (w'.setCell ⟨k, i, none⟩ u) := h.set _ (.inr hk) u
theorem Gr.ext {w0 : World} (h : Gr g w w') (h0 : Ext w0 w) (hg : w0.heap.size ≤ g) : Ext w0 w' := h0.grown h fun k hk => by injection hk with hk; omega
theorem Gr.own (h : Gr g w w') {base : Nat} {e : TypeId} {sz n : Nat} {v : Value} {xs : List Value} (ho : w.ownsRow base e sz v n xs) (hne : v.ownBlock ≠ some g) : w'.ownsRow base e sz v n xs := ho.kept h (.inr hne)
theorem Gr.rd (h : Gr g w w') {sz n : Nat} {A : Option Addr} {xs : List Value} (hr : Rd w sz A n xs) (hne : ∀ ad, A = some ad → ad.block ≠ g) : Rd w' sz A n xs := hr.grown h fun ad e he => hne ad e (by injection he)
theorem Gr.blk (h : Gr g w w') {k : Nat} {t : TypeId} {cs : Array Value} (hb : Blk w k t cs) (hne : k ≠ g) : Blk w' k t cs := hb.grown h (by simpa using hne)
theorem Gr.app {w2 : World} {u v : Value} (h : Gr g w w') (a : App w' w2 u v) (hu : ∀ k, u.ownBlock = some k → w.heap.size ≤ k) : Gr g w w2 :=
  ⟨a.grown.os.trans h.os, a.grown.tape.trans h.tape, a.grown.output.trans h.output, Nat.le_trans h.size a.grown.size, fun i hi hn => (a.grown.block i (Nat.lt_of_lt_of_le hi h.size) (fun e => by have := hu i e.symm; omega)).trans (h.block i hi hn)⟩
end

theorem wp_box121 {c : Code} {Q : Exit → Act → World → Prop} {a : Act} {w : World} {cs : Array Value} (h : ∀ W, Ext w W → Blk W w.heap.size 121 cs → Code.wp Try.prog c Q a W) : Code.wp Try.prog c Q a (w.alloc (.cells cs 121)) := h _ (Ext.new _ _) (Blk.new _ _ _)
theorem RB.grow {w0 w w' : World} {g L pos kind : Nat} {A : Option Addr} {c : Pk.C} (h : RB w0 w g A L pos kind c) (hX : Ext w w') : RB w0 w' g A L pos kind c := by
  obtain ⟨h1, h2, D, n1, c1, T, n2, c2, C, n3, c3, hB, o1, o2, o3, hne⟩ := h
  exact ⟨h1.trans hX, h2, D, n1, c1, T, n2, c2, C, n3, c3, hB.ext hX, hX.own o1, hX.own o2, hX.own o3, hne⟩

theorem rd_old {w : World} {sz n : Nat} {A : Option Addr} {xs : List Value} (h : Rd w sz A n xs) (hn : 0 < n) (hs : 0 < sz) : ∀ ad, A = some ad → ad.block < w.heap.size := by
  intro ad hA
  obtain ⟨b, o, hb', hc⟩ := h.form hn hs
  rw [hA] at hb'
  injection hb' with hb'
  subst hb'
  have hl : 0 < xs.length := by rw [h.1]; exact Nat.mul_pos hn hs
  exact World.block_lt_of_cell? w _ (hc 0 _ (List.getElem?_eq_getElem hl))

theorem K121.gr {g : Nat} {w w' : World} {cs : Array Value} (h : Gr g w w') (hB : Blk w g 119 cs) : K121 w w' := fun q cs hq => h.blk hq (hq.ne_ hB (by decide))
theorem ContPost.err {x : Except (Nat × Int) Pk.C} {w0 w w' : World} {g L pos kind p : Nat} {n : Int} {A : Option Addr} (h : x = .error (p, n)) (hX : Ext w0 w') (hK : K121 w w') : ContPost x w0 w g A L pos kind (.returned (.tuple #[.agg #[.int .i64 p, .int .i64 n], .bool false])) w' := by
  subst h
  exact ⟨hK, rfl, hX⟩
theorem ContPost.fine {x : Except (Nat × Int) Pk.C} {w0 w w' : World} {g L pos kind : Nat} {c : Pk.C} {A : Option Addr} (h : x = .ok c) (hR : RB w0 w' g A L pos kind c) (hK : K121 w w') : ContPost x w0 w g A L pos kind (.returned (.tuple #[.agg #[.int .i64 0, .int .i64 0], .bool true])) w' := by
  subst h
  exact ⟨hK, rfl, hR⟩

set_option maxHeartbeats 1000000 in
theorem contents1 (w0 w : World) (g L pos s : Nat) (A B : Option Addr) (c : Pk.C) (cs : List UInt8) (hR : RB w0 w g A L pos 1 c) (hr : Rd w0 1 B 4 (bv cs)) (hs : s ≤ 1000000) :
    Calls Try.prog 117 #[.pointer (some ⟨g, 0, none⟩), .int .i64 1, .slice B 4 4, .int .i64 s] w (ContPost (Pk.cont 1 cs s c) w0 w g A L pos 1) := by
  obtain ⟨hX0, hold, D, n1, c1, T, n2, c2, C, n3, c3, hB, o1, o2, o3, hne⟩ := hR
  have nD := own_blk_ne o1 hB (by decide)
  have nT := own_blk_ne o2 hB (by decide)
  have nC := own_blk_ne o3 hB (by decide)
  have hgw := hB.lt
  go_enter Try.func117, Try.ntmps117
  go_upto_region 1 with (fail)
  refine wp_box121 ?_
  intro W hX hF
  have hB' := hB.ext hX
  obtain ⟨p0, p1, p2, p3, p4, p5, p6, p7⟩ := hB'.c8
  obtain ⟨q0, q1, q2, q3, q4, q5, q6, q7⟩ := hB'.f8
  obtain ⟨b, o, rfl, hc⟩ := (hr.ext (hX0.trans hX)).form (by omega) (by omega)
  clear hc
  have h1 : Rd W 1 (some ⟨b, o, none⟩) 2 (bv (cs.take 2)) := by have := (hr.ext (hX0.trans hX)).take (k := 2) (by omega); rwa [bv_take] at this
  have h2 : Rd W 1 (some ⟨b, o + 2, none⟩) 2 (bv (cs.drop 2)) := by have := (hr.ext (hX0.trans hX)).cut (k := 2) (cap := 4) (by omega) (by omega); rwa [bv_drop] at this
  have hbg : b ≠ g := fun e => by have := rd_old hr (by omega) (by omega) _ rfl; simp only at this; omega
  have s1 := fun ad (e : some (⟨b, o, none⟩ : Addr) = some ad) => (show ad.block ≠ g from by injection e with e; subst e; exact hbg)
  have s2 := fun ad (e : some (⟨b, o + 2, none⟩ : Addr) = some ad) => (show ad.block ≠ g from by injection e with e; subst e; exact hbg)
  go_upto_region 3 with (fail)
  have hneF : w.heap.size ≠ g := Nat.ne_of_gt hgw
  have hG : Gr g w W := Gr.of_ext hX
  go_cut [] from 15 to 28 (fun W' => Gr g w W' ∧ Blk W' w.heap.size 121 #[.int .i64 0, .int .i64 0] ∧ Blk W' g 119 #[.slice A L L, .int .i64 pos, .int .i64 1, .int .i64 (Pk.val (cs.take 2)), .int .i64 (Pk.val (cs.drop 2)), .slice D n1 c1, .slice T n2 c2, .slice C n3 c3])
  case first =>
    go_region_with (first | (go_at_call 81; (with_reducible refine (get_any (some ⟨b, o, none⟩) 2 _ (cs.take 2) _ (by first | exact h1.drew | exact h1.drew.set s1 _) (by omega)).mono ?_); rintro e v1 ⟨rfl, rfl⟩) | (go_at_call 81; (with_reducible refine (get_any (some ⟨b, o + 2, none⟩) 2 _ (cs.drop 2) _ (by first | exact h2.drew | exact h2.drew.set s2 _) (by omega)).mono ?_); rintro e v1 ⟨rfl, rfl⟩))
    all_goals (go_wp2_with fail; go_meet; case rel => exact ⟨by first | exact (hG.at_ _ _).at_ _ _ | exact ((hG.at_ _ _).at_ _ _).drew | exact ((hG.at_ _ _).drew.at_ _ _).drew | exact ((hG.drew.at_ _ _).at_ _ _).drew | exact ((hG.drew.at_ _ _).drew.at_ _ _).drew, (hF.far (p := ⟨g, _, none⟩) hneF _).far (p := ⟨g, _, none⟩) hneF _, by first | exact (hB'.set_ 3 _).set_ 4 _ | exact (hB'.set_ 4 _).set_ 3 _⟩)
  case rest =>
    obtain ⟨hG3, hF3, hB3⟩ := hcut
    obtain ⟨p0, p1, p2, p3, p4, p5, p6, p7⟩ := hB3.c8
    obtain ⟨f0, f1⟩ := hF3.f2
    obtain ⟨r0, r1⟩ := hF3.c2
    go_wp2
    go_quiet (fail)
    go_wp2
    · obtain ⟨x0, x1⟩ := (Blk.s2 (w := wc.drewN nq) hF3 (.int .i64 s) (.int .i64 121)).c2
      refine bodyPost_ret (v := .tuple #[.agg #[.int .i64 s, .int .i64 121], .bool false]) (by simp [results, Try.results117, go_sem, x0, x1]) rfl ?_
      exact ContPost.err (by unfold Pk.cont; rw [if_pos rfl, if_pos (by omega)]) ((((hG3.drewN nq).new (Nat.le_refl _) 0 _).new (Nat.le_refl _) 1 _).ext hX0 hold) (K121.gr (((hG3.drewN nq).new (Nat.le_refl _) 0 _).new (Nat.le_refl _) 1 _) hB)
    · obtain ⟨x0, x1⟩ := (Blk.s2 (w := wc.drewN nq) hF3 (.int .i64 0) (.int .i64 0)).c2
      refine bodyPost_ret (v := .tuple #[.agg #[.int .i64 0, .int .i64 0], .bool true]) (by simp [results, Try.results117, go_sem, x0, x1]) rfl ?_
      have hG4 := ((hG3.drewN nq).new (Nat.le_refl _) 0 (.int .i64 0)).new (Nat.le_refl _) 1 (.int .i64 0)
      exact ContPost.fine (c := { c with lo := Pk.val (cs.take 2), hi := Pk.val (cs.drop 2) }) (by unfold Pk.cont; rw [if_pos rfl, if_neg (by omega)])
        ⟨hG4.ext hX0 hold, hold, D, n1, c1, T, n2, c2, C, n3, c3, (Blk.far (w := wc.drewN nq) hB3 (p := ⟨w.heap.size, _, none⟩) (Ne.symm hneF) _).far (p := ⟨w.heap.size, _, none⟩) (Ne.symm hneF) _, hG4.own o1 nD, hG4.own o2 nT, hG4.own o3 nC, hne⟩ (K121.gr hG4 hB)

/-- a new row that is made and filled from a list that can be read -/
theorem made_own {w1 : World} {g n : Nat} {cs : List UInt8} {base : Nat} (hm : w1.heap[g]? = some (.cells (bv cs).toArray 5 (0, 0))) (hn : cs.length = n) (hb : base ≤ g) (hmax : n ≤ maxLen) : w1.ownsRow base 5 1 (.slice (some ⟨g, 0, none⟩) n n) n (bv cs) :=
  ⟨by rw [bv_length]; omega, .inr ⟨g, n, (bv cs).toArray, rfl, hb, hm, Nat.le_refl _, hmax, by simp [bv_length, hn], by simp; exact List.take_of_length_le (by rw [bv_length]; omega)⟩⟩
theorem splice_all {α : Type} {L cs : List α} (h : L.length = cs.length) : splice L 0 cs = cs := by
  unfold splice
  rw [List.take_zero, List.nil_append, List.drop_of_length_le (by omega), List.append_nil]
theorem own_heap {w : World} {base g n : Nat} {e : TypeId} {xs : List Value} (h : w.ownsRow base e 1 (.slice (some ⟨g, 0, none⟩) n n) n xs) : w.heap[g]? = some (.cells xs.toArray e (0, 0)) := by
  rcases h.2 with ⟨h0, _⟩ | ⟨g', cap, cur, hv, _, hh, _, _, hs, ht⟩
  · cases h0
  · injection hv with h1 _ h3
    injection h1 with h1
    injection h1 with h1
    subst h1 h3
    rw [List.take_of_length_le (by simp [hs])] at ht
    rw [hh, ← ht]

set_option maxHeartbeats 1000000 in
theorem contents3 (w0 w : World) (g L pos s n : Nat) (A B : Option Addr) (c : Pk.C) (cs : List UInt8) (hR : RB w0 w g A L pos 3 c) (hr : Rd w0 1 B n (bv cs)) (hn : n ≤ 1000000) (hn0 : 0 < n) (hs : s ≤ 1000000) :
    Calls Try.prog 117 #[.pointer (some ⟨g, 0, none⟩), .int .i64 3, .slice B n n, .int .i64 s] w (ContPost (Pk.cont 3 cs s c) w0 w g A L pos 3) := by
  obtain ⟨hX0, hold, D, n1, c1, T, n2, c2, C, n3, c3, hB, o1, o2, o3, hne⟩ := hR
  have nD := own_blk_ne o1 hB (by decide)
  have nT := own_blk_ne o2 hB (by decide)
  have nC := own_blk_ne o3 hB (by decide)
  have hgw := hB.lt
  have hcs : cs.length = n := by have := hr.1; rw [bv_length] at this; omega
  have Hcs := hd hcs
  clear hcs
  obtain ⟨i0, hi0, hz0, hz1, hz2⟩ := info_parts info5
  go_enter Try.func117, Try.ntmps117
  go_upto_region 1 with (fail)
  refine wp_box121 ?_
  intro W hX hF
  have hB' := hB.ext hX
  obtain ⟨p0, p1, p2, p3, p4, p5, p6, p7⟩ := hB'.c8
  obtain ⟨q0, q1, q2, q3, q4, q5, q6, q7⟩ := hB'.f8
  have hneF : w.heap.size ≠ g := Nat.ne_of_gt hgw
  have hG : Gr g w W := Gr.of_ext hX
  go_upto_region 18 with (first | (at_make; refine wpList_make_full _ rfl (.tmp 97) (.tmp 97) 22 rfl w.heap.size 5 i0 _ 1 Try.underlying22 hi0 hz0 hz1 .i64 .i64 n n n rfl rfl rfl rfl (by rw [hz2]; omega) (by unfold maxLen; omega) hX.size ?_; intro w1 hown1 hg1; have hX1 := (Ext.refl W).grown hg1 (by simp); obtain ⟨t0, t1, t2, t3, t4, t5, t6, t7⟩ := (hB'.ext hX1).c8; obtain ⟨v0, v1, v2, v3, v4, v5, v6, v7⟩ := (hB'.ext hX1).f8))
  generalize hcur : (madeCells _ _).toList = cur at hown1
  have hcl : cur.length = n := by have := hown1.1; omega
  have hh1 := own_heap hown1
  have hG1 : Gr g w w1 := hG.then_ext hX1
  have hlt1 : W.heap.size < w1.heap.size := (hown1.lt _ rfl).2
  have hgW : g < W.heap.size := hB'.lt
  have hwW : w.heap.size < W.heap.size := hF.lt
  refine wp_world (fun W2 => Gr g w W2 ∧ Blk W2 g 119 #[.slice A L L, .int .i64 pos, .int .i64 3, .int .i64 c.lo, .int .i64 c.hi, .slice (some ⟨W.heap.size, 0, none⟩) n n, .slice T n2 c2, .slice C n3 c3] ∧ Blk W2 w.heap.size 121 #[.int .i64 0, .int .i64 0] ∧ W2.heap[W.heap.size]? = some (.cells cur.toArray 5 (0, 0)))
    ⟨hG1.at_ _ _, (hB'.ext hX1).set_ 5 _, (hF.ext hX1).far (p := ⟨g, _, none⟩) hneF _, (Below.heap_setCell _ _ _ _ (Nat.ne_of_gt hgW)).trans hh1⟩ ?_
  rintro W2 ⟨hG2, hB2, hF2, hh2⟩
  clear p0 p1 p2 p3 p4 p5 p6 p7 q0 q1 q2 q3 q4 q5 q6 q7 t0 t1 t2 t3 t4 t5 t6 t7 v0 v1 v2 v3 v4 v5 v6 v7
  obtain ⟨p0, p1, p2, p3, p4, p5, p6, p7⟩ := hB2.c8
  have hrd : Rd W2 1 B n (bv cs) := hG2.rd (hr.ext hX0) (fun ad hA => by have := rd_old hr hn0 (by omega) ad hA; omega)
  go_wp2_with (refine wpList_copy_splice rfl (.tmp 106) (.tmp 107) 22 22 rfl 5 Try.underlying22 (by kernel_rfl) (some ⟨W.heap.size, 0, none⟩) B n n n n rfl rfl W.heap.size 0 cur 5 hh2 (bv cs) (by rw [bv_length, Hcs.out]; simp) (fun _ => ⟨rfl, hrd.2 hn0⟩) (by rw [bv_length, Hcs.out]; omega) (bv_one _) W.heap.size W2 (Below.refl _ _) (Nat.le_refl _) ?_; intro w3 hh3 hX3; have hB3 : Blk w3 g 119 _ := (hX3.block _ hgW).trans hB2; have hF3 : Blk w3 w.heap.size 121 _ := (hX3.block _ hwW).trans hF2; obtain ⟨z0, z1⟩ := hF3.c2; obtain ⟨y0, y1⟩ := hF3.f2)
  have hh4 := hh3.out
  rw [splice_all (by rw [bv_length, Hcs.out]; exact hcl)] at hh4
  have hG3 := hG2.below hX3 (Nat.le_of_lt hwW)
  have hG4 := (hG3.new (Nat.le_refl _) 0 (.int .i64 0)).new (Nat.le_refl _) 1 (.int .i64 0)
  have ow := own_set (own_set (made_own (base := w0.heap.size) hh4 Hcs.out (by omega) (by unfold maxLen; omega)) (p := ⟨w.heap.size, 0, none⟩) (by simp [Value.ownBlock]; omega) (.int .i64 0)) (p := ⟨w.heap.size, 1, none⟩) (by simp [Value.ownBlock]; omega) (.int .i64 0)
  obtain ⟨x0, x1⟩ := (hF3.s2 (.int .i64 0) (.int .i64 0)).c2
  refine bodyPost_ret (v := .tuple #[.agg #[.int .i64 0, .int .i64 0], .bool true]) (by simp [results, Try.results117, go_sem, x0, x1]) rfl ?_
  exact ContPost.fine (c := { c with data := cs }) (by unfold Pk.cont; rw [if_neg (by decide), if_neg (by decide), if_pos rfl])
    ⟨hG4.ext hX0 hold, hold, some ⟨W.heap.size, 0, none⟩, n, n, T, n2, c2, C, n3, c3, (hB3.far (p := ⟨w.heap.size, _, none⟩) (Ne.symm hneF) _).far (p := ⟨w.heap.size, _, none⟩) (Ne.symm hneF) _, ow, hG4.own o2 nT, hG4.own o3 nC, .inr fun e => by have : W.heap.size < w.heap.size := (o3.lt _ e.symm).2; omega⟩ (K121.gr hG4 hB)

set_option maxHeartbeats 1000000 in
theorem contents4 (w0 w : World) (g L pos s n : Nat) (A B : Option Addr) (c : Pk.C) (cs : List UInt8) (hR : RB w0 w g A L pos 4 c) (hr : Rd w0 1 B n (bv cs)) (hn : n ≤ 1000000) (hn0 : 0 < n) (hs : s ≤ 1000000) :
    Calls Try.prog 117 #[.pointer (some ⟨g, 0, none⟩), .int .i64 4, .slice B n n, .int .i64 s] w (ContPost (Pk.cont 4 cs s c) w0 w g A L pos 4) := by
  obtain ⟨hX0, hold, D, n1, c1, T, n2, c2, C, n3, c3, hB, o1, o2, o3, hne⟩ := hR
  have nD := own_blk_ne o1 hB (by decide)
  have nT := own_blk_ne o2 hB (by decide)
  have nC := own_blk_ne o3 hB (by decide)
  have hgw := hB.lt
  have hcs : cs.length = n := by have := hr.1; rw [bv_length] at this; omega
  have Hcs := hd hcs
  clear hcs
  obtain ⟨i0, hi0, hz0, hz1, hz2⟩ := info_parts info5
  go_enter Try.func117, Try.ntmps117
  go_upto_region 1 with (fail)
  refine wp_box121 ?_
  intro W hX hF
  have hB' := hB.ext hX
  obtain ⟨p0, p1, p2, p3, p4, p5, p6, p7⟩ := hB'.c8
  obtain ⟨q0, q1, q2, q3, q4, q5, q6, q7⟩ := hB'.f8
  have hneF : w.heap.size ≠ g := Nat.ne_of_gt hgw
  have hG : Gr g w W := Gr.of_ext hX
  go_upto_region 21 with (first | (at_make; refine wpList_make_full _ rfl (.tmp 113) (.tmp 113) 22 rfl w.heap.size 5 i0 _ 1 Try.underlying22 hi0 hz0 hz1 .i64 .i64 n n n rfl rfl rfl rfl (by rw [hz2]; omega) (by unfold maxLen; omega) hX.size ?_; intro w1 hown1 hg1; have hX1 := (Ext.refl W).grown hg1 (by simp); obtain ⟨t0, t1, t2, t3, t4, t5, t6, t7⟩ := (hB'.ext hX1).c8; obtain ⟨v0, v1, v2, v3, v4, v5, v6, v7⟩ := (hB'.ext hX1).f8))
  generalize hcur : (madeCells _ _).toList = cur at hown1
  have hcl : cur.length = n := by have := hown1.1; omega
  have hh1 := own_heap hown1
  have hG1 : Gr g w w1 := hG.then_ext hX1
  have hlt1 : W.heap.size < w1.heap.size := (hown1.lt _ rfl).2
  have hgW : g < W.heap.size := hB'.lt
  have hwW : w.heap.size < W.heap.size := hF.lt
  refine wp_world (fun W2 => Gr g w W2 ∧ Blk W2 g 119 #[.slice A L L, .int .i64 pos, .int .i64 4, .int .i64 c.lo, .int .i64 c.hi, .slice D n1 c1, .slice T n2 c2, .slice (some ⟨W.heap.size, 0, none⟩) n n] ∧ Blk W2 w.heap.size 121 #[.int .i64 0, .int .i64 0] ∧ W2.heap[W.heap.size]? = some (.cells cur.toArray 5 (0, 0)))
    ⟨hG1.at_ _ _, (hB'.ext hX1).set_ 7 _, (hF.ext hX1).far (p := ⟨g, _, none⟩) hneF _, (Below.heap_setCell _ _ _ _ (Nat.ne_of_gt hgW)).trans hh1⟩ ?_
  rintro W2 ⟨hG2, hB2, hF2, hh2⟩
  clear p0 p1 p2 p3 p4 p5 p6 p7 q0 q1 q2 q3 q4 q5 q6 q7 t0 t1 t2 t3 t4 t5 t6 t7 v0 v1 v2 v3 v4 v5 v6 v7
  obtain ⟨p0, p1, p2, p3, p4, p5, p6, p7⟩ := hB2.c8
  have hrd : Rd W2 1 B n (bv cs) := hG2.rd (hr.ext hX0) (fun ad hA => by have := rd_old hr hn0 (by omega) ad hA; omega)
  go_wp2_with (refine wpList_copy_splice rfl (.tmp 122) (.tmp 123) 22 22 rfl 5 Try.underlying22 (by kernel_rfl) (some ⟨W.heap.size, 0, none⟩) B n n n n rfl rfl W.heap.size 0 cur 5 hh2 (bv cs) (by rw [bv_length, Hcs.out]; simp) (fun _ => ⟨rfl, hrd.2 hn0⟩) (by rw [bv_length, Hcs.out]; omega) (bv_one _) W.heap.size W2 (Below.refl _ _) (Nat.le_refl _) ?_; intro w3 hh3 hX3; have hB3 : Blk w3 g 119 _ := (hX3.block _ hgW).trans hB2; have hF3 : Blk w3 w.heap.size 121 _ := (hX3.block _ hwW).trans hF2; obtain ⟨z0, z1⟩ := hF3.c2; obtain ⟨y0, y1⟩ := hF3.f2)
  have hh4 := hh3.out
  rw [splice_all (by rw [bv_length, Hcs.out]; exact hcl)] at hh4
  have hG3 := hG2.below hX3 (Nat.le_of_lt hwW)
  have hG4 := (hG3.new (Nat.le_refl _) 0 (.int .i64 0)).new (Nat.le_refl _) 1 (.int .i64 0)
  have ow := own_set (own_set (made_own (base := w0.heap.size) hh4 Hcs.out (by omega) (by unfold maxLen; omega)) (p := ⟨w.heap.size, 0, none⟩) (by simp [Value.ownBlock]; omega) (.int .i64 0)) (p := ⟨w.heap.size, 1, none⟩) (by simp [Value.ownBlock]; omega) (.int .i64 0)
  obtain ⟨x0, x1⟩ := (hF3.s2 (.int .i64 0) (.int .i64 0)).c2
  refine bodyPost_ret (v := .tuple #[.agg #[.int .i64 0, .int .i64 0], .bool true]) (by simp [results, Try.results117, go_sem, x0, x1]) rfl ?_
  exact ContPost.fine (c := { c with code := cs }) (by unfold Pk.cont; rw [if_neg (by decide), if_neg (by decide), if_neg (by decide)])
    ⟨hG4.ext hX0 hold, hold, D, n1, c1, T, n2, c2, some ⟨W.heap.size, 0, none⟩, n, n, (hB3.far (p := ⟨w.heap.size, _, none⟩) (Ne.symm hneF) _).far (p := ⟨w.heap.size, _, none⟩) (Ne.symm hneF) _, hG4.own o1 nD, hG4.own o2 nT, ow, .inr fun e => by have : W.heap.size < w.heap.size := (o1.lt _ e).2; omega⟩ (K121.gr hG4 hB)
end Go.Proofs.Ytfcbedkidjclhaa
