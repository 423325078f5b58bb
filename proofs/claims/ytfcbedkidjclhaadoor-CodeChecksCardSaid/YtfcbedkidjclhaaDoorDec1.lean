/-
  The contract of pack's (*reader).contents, kind by kind.
  Conditions: the section's bytes read as a list, in memory that was there before the reader; the reader's block is known whole.
-/
import Derived.Test.YtfcbedkidjclhaaDoorPackEnc
import Derived.Test.YtfcbedkidjclhaaDoorDecM
import Derived.Laws.CopyOwn
import Derived.OwnWalk
namespace Go.Proofs.YtfcbedkidjclhaaDoor
open Go.RowKit
set_option maxRecDepth 100000
set_option linter.unusedSimpArgs false
set_option linter.unusedVariables false

/-! ### blocks of before, all but g, are as they were -/
def Gr (g : Nat) (w w' : World) : Prop := w.grownBy w' (some g)
section
variable {g : Nat} {w w' : World}
theorem Gr.of_ext (h : Ext w w') : Gr g w w' := ⟨Below.os h, Below.tape h, Below.output h, h.size, fun i hi _ => Below.block h i hi⟩
theorem Gr.refl (w : World) : Gr g w w := Gr.of_ext (Ext.refl w)
theorem Gr.trans {w2 : World} (h : Gr g w w') (k : Gr g w' w2) : Gr g w w2 :=
  ⟨k.os.trans h.os, k.tape.trans h.tape, k.output.trans h.output, Nat.le_trans h.size k.size, fun i hi hn => (k.block i (Nat.lt_of_lt_of_le hi h.size) hn).trans (h.block i hi hn)⟩
theorem Gr.then_ext {w2 : World} (h : Gr g w w') (k : Ext w' w2) : Gr g w w2 := h.trans (Gr.of_ext k)
theorem Gr.below {w2 : World} {B : Nat} (h : Gr g w w') (k : Below B w' w2) (hB : w.heap.size ≤ B) : Gr g w w2 :=
  ⟨(Below.os k).trans h.os, (Below.tape k).trans h.tape, (Below.output k).trans h.output, Nat.le_trans h.size (Below.size k), fun i hi hn => (Below.block k i (Nat.lt_of_lt_of_le hi hB)).trans (h.block i hi hn)⟩
theorem Gr.drew (h : Gr g w w') : Gr g w w'.drew := ⟨h.os, h.tape, h.output, h.size, h.block⟩
theorem Gr.drewN (h : Gr g w w') (n : Nat) : Gr g w (w'.drewN n) := ⟨h.os, h.tape, h.output, h.size, h.block⟩
theorem Gr.alloc (h : Gr g w w') (o : Obj) : Gr g w (w'.alloc o) := h.then_ext (Ext.new _ _)
theorem Gr.set (h : Gr g w w') (p : Addr) (hp : p.block = g ∨ w.heap.size ≤ p.block) (u : Value) : Gr g w (w'.setCell p u) := by
  refine ⟨h.os, h.tape, h.output, Nat.le_trans h.size (by simp [World.setCell]), fun i hi hn => ?_⟩
  rw [Below.heap_setCell w' p u i (by rintro rfl; rcases hp with e | e; exact hn (by rw [e]); omega)]
  exact h.block i hi hn
theorem Gr.at_ (h : Gr g w w') (i : Nat) (u : Value) : Gr g w (w'.setCell ⟨g, i, none⟩ u) := h.set _ (.inl rfl) u
theorem Gr.new (h : Gr g w w') {k : Nat} (hk : w.heap.size ≤ k) (i : Nat) (u : Value) : Gr g w (w'.setCell ⟨k, i, none⟩ u) := h.set _ (.inr hk) u
theorem Gr.ext {w0 : World} (h : Gr g w w') (h0 : Ext w0 w) (hg : w0.heap.size ≤ g) : Ext w0 w' := h0.grown h fun k hk => by injection hk with hk; omega
theorem Gr.own (h : Gr g w w') {base : Nat} {e : TypeId} {sz n : Nat} {v : Value} {xs : List Value} (ho : w.ownsRow base e sz v n xs) (hne : v.ownBlock ≠ some g) : w'.ownsRow base e sz v n xs := ho.kept h (.inr hne)
theorem Gr.rd (h : Gr g w w') {sz n : Nat} {A : Option Addr} {xs : List Value} (hr : Rd w sz A n xs) (hne : ∀ ad, A = some ad → ad.block ≠ g) : Rd w' sz A n xs := hr.grown h fun ad e he => hne ad e (by injection he)
theorem Gr.blk (h : Gr g w w') {k : Nat} {t : TypeId} {cs : Array Value} (hb : Blk w k t cs) (hne : k ≠ g) : Blk w' k t cs := hb.grown h (by simpa using hne)
theorem Gr.app {w2 : World} {u v : Value} (h : Gr g w w') (a : App w' w2 u v) (hu : ∀ k, u.ownBlock = some k → w.heap.size ≤ k) : Gr g w w2 :=
  ⟨a.grown.os.trans h.os, a.grown.tape.trans h.tape, a.grown.output.trans h.output, Nat.le_trans h.size a.grown.size, fun i hi hn => (a.grown.block i (Nat.lt_of_lt_of_le hi h.size) (fun e => by have := hu i e.symm; omega)).trans (h.block i hi hn)⟩
end

theorem rd_old {w : World} {sz n : Nat} {A : Option Addr} {xs : List Value} (h : Rd w sz A n xs) (hn : 0 < n) (hs : 0 < sz) : ∀ ad, A = some ad → ad.block < w.heap.size := by
  intro ad hA
  obtain ⟨b, o, hb', hc⟩ := h.form hn hs
  rw [hA] at hb'
  injection hb' with hb'
  subst hb'
  have hl : 0 < xs.length := by rw [h.1]; exact Nat.mul_pos hn hs
  exact World.block_lt_of_cell? w _ (hc 0 _ (List.getElem?_eq_getElem hl))

/-- a new row that is made and filled from a list that can be read -/
theorem made_own {w1 : World} {g n : Nat} {cs : List UInt8} {base : Nat} (hm : w1.heap[g]? = some (.cells (bv cs).toArray 5 (0, 0))) (hn : cs.length = n) (hb : base ≤ g) (hmax : n ≤ maxLen) : w1.ownsRow base 5 1 (.slice (some ⟨g, 0, none⟩) n n) n (bv cs) :=
  ⟨by rw [bv_length]; omega, .inr ⟨g, n, (bv cs).toArray, rfl, hb, hm, Nat.le_refl _, hmax, by simp [bv_length, hn], by simp; exact List.take_of_length_le (by rw [bv_length]; omega)⟩⟩
theorem splice_all {α : Type} {L cs : List α} (h : L.length = cs.length) : splice L 0 cs = cs := by
  unfold splice
  rw [List.take_zero, List.nil_append, List.drop_of_length_le (by omega), List.append_nil]
theorem own_heap {w : World} {base g n : Nat} {e : TypeId} {xs : List Value} (h : w.ownsRow base e 1 (.slice (some ⟨g, 0, none⟩) n n) n xs) : w.heap[g]? = some (.cells xs.toArray e (0, 0)) := by
  rcases h.2 with ⟨h0, _⟩ | ⟨g', cap, cur, hv, _, hh, _, _, hs, ht⟩
  · cases h0
  · injection hv with h1 _ h3
    injection h1 with h1
    injection h1 with h1
    subst h1 h3
    rw [List.take_of_length_le (by simp [hs])] at ht
    rw [hh, ← ht]

end Go.Proofs.YtfcbedkidjclhaaDoor
