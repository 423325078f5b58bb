/-
  Words for memory that all the proofs of this seat share: a slice that reads as a list, an append from such a slice onto a row of the call's own, bytes, numbers, tables and instructions as cells.
  No condition: plain definitions and lemmas.
-/
import Derived.Test.YtfcbedkidjclhaaChecked
import Derived.WalkKit
import Derived.WalkSpells
import Derived.WalkLawsBesides
import Derived.Handy
import Derived.Maps.AppendAt
import Derived.Deep.AppendLies
import Derived.Deep.Draws
import Derived.Deep.QuietTactic
import Derived.BigQuiet
import Derived.Deep.RegionHeld3
import Derived.StillTailTactics
import Derived.Deep.Cut
import Derived.Deep.DeepCutAuto
import Derived.Deep.DeepFit
import Derived.Laws.IdiomStrings
import Derived.Laws.BitsAllLaws
import Derived.Laws.BitsLemmas
namespace Go.Proofs.Ytfcbedkidjclhaa
open Go.RowKit
set_option maxRecDepth 100000

/-- a fact kept from the walk -/
theorem hd {p : Prop} (h : p) : Hid p := h

/-- the world behind a part of the walk, as a letter of which only F is known -/
theorem wp_world {P : Program} {c : Code} {Q : Exit → Act → World → Prop} {a : Act} {w : World} (F : World → Prop) (hF : F w) (h : ∀ W, F W → Code.wp P c Q a W) : Code.wp P c Q a w := h w hF

/-! ### the world has grown: all blocks that were there are as they were -/
def Ext (w w' : World) : Prop := Below w.heap.size w w'
theorem Ext.refl (w : World) : Ext w w := Below.refl _ _
theorem Ext.size {a b : World} (h : Ext a b) : a.heap.size ≤ b.heap.size := Below.size h
theorem Ext.trans {a b c : World} (h : Ext a b) (k : Ext b c) : Ext a c := Below.trans h (Below.mono k h.size)
theorem Ext.drew {a b : World} (h : Ext a b) : Ext a b.drew := Below.drew h
theorem Ext.drewN {a b : World} (h : Ext a b) (n : Nat) : Ext a (b.drewN n) := ⟨Below.os (w' := b) h, Below.tape (w' := b) h, Below.output (w' := b) h, Below.size (w' := b) h, Below.block (w' := b) h⟩
theorem Ext.of_drew {a b : World} (h : Ext a.drew b) : Ext a b := ⟨Below.os (w := a.drew) h, Below.tape (w := a.drew) h, Below.output (w := a.drew) h, Below.size (w := a.drew) h, Below.block (w := a.drew) h⟩
theorem Ext.alloc {a b : World} (h : Ext a b) (o : Obj) : Ext a (b.alloc o) := Below.alloc h h.size o
theorem Ext.new (a : World) (o : Obj) : Ext a (a.alloc o) := (Ext.refl a).alloc o
theorem Ext.set {a b : World} (h : Ext a b) {p : Addr} (hp : a.heap.size ≤ p.block) (u : Value) : Ext a (b.setCell p u) := Below.setCell h hp u
theorem Ext.grown {a b c : World} (h : Ext a b) {row : Option Nat} (hg : b.grownBy c row) (hr : ∀ k, row = some k → a.heap.size ≤ k) : Ext a c := Below.grown h hg h.size hr
theorem Ext.grown_own {a b c : World} (h : Ext a b) {base : Nat} {e : TypeId} {sz n : Nat} {v : Value} {xs : List Value} (ho : b.ownsRow base e sz v n xs) (hg : b.grownBy c v.ownBlock) (hb : a.heap.size ≤ base) : Ext a c :=
  h.grown hg fun k hk => Nat.le_trans hb (ho.lt k hk).1
theorem Ext.cell {a b : World} (h : Ext a b) {p : Addr} {v : Value} (hc : a.cell? p = some v) : b.cell? p = some v := (Below.cell h (World.block_lt_of_cell? a p hc)).trans hc
theorem Ext.free {a b : World} (h : Ext a b) {p : Addr} {v : Value} (hc : a.cell? p = some v) (hf : a.frozen? p = false) : b.frozen? p = false := (Below.frozen h (World.block_lt_of_cell? a p hc)).trans hf
theorem Ext.own {w w' : World} (h : Ext w w') {base : Nat} {e : TypeId} {sz n : Nat} {v : Value} {xs : List Value} (ho : w.ownsRow base e sz v n xs) : w'.ownsRow base e sz v n xs := by
  refine ⟨ho.1, ?_⟩
  rcases ho.2 with hn | ⟨g, cap, cur, hv, hb, hg, r⟩
  · exact .inl hn
  · exact .inr ⟨g, cap, cur, hv, hb, by rw [h.block g (Array.getElem?_eq_some_iff.1 hg).1]; exact hg, r⟩

/-! ### a slice that reads as a list -/
def Rd (w : World) (sz : Nat) (A : Option Addr) (n : Nat) (xs : List Value) : Prop :=
  xs.length = n * sz ∧ (0 < n → ∃ ad, A = some ad ∧ ∀ j u, xs[j]? = some u → w.cell? (ad.add j) = some u)

theorem blk_add (a : Addr) (n : Nat) : (a.add n).block = a.block := by unfold Addr.add; split <;> rfl
theorem add_add' (a : Addr) (i j : Nat) : (a.add i).add j = a.add (i + j) := by
  unfold Addr.add
  by_cases hi : i = 0 <;> by_cases hj : j = 0 <;> simp [hi, hj, Nat.add_assoc]

section
variable {w w' : World} {sz n : Nat} {A : Option Addr} {xs : List Value}
theorem Rd.nil_ : Rd w sz none 0 [] := ⟨by simp, fun h => absurd h (by omega)⟩
theorem Rd.zero : Rd w sz A 0 [] := ⟨by simp, fun h => absurd h (by omega)⟩
theorem Rd.ext (h : Rd w sz A n xs) (he : Ext w w') : Rd w' sz A n xs :=
  ⟨h.1, fun hn => by
    obtain ⟨ad, e, hc⟩ := h.2 hn
    exact ⟨ad, e, fun j u hu => he.cell (hc j u hu)⟩⟩
theorem Rd.drew (h : Rd w sz A n xs) : Rd w.drew sz A n xs := h
theorem Rd.drewN (h : Rd w sz A n xs) (k : Nat) : Rd (w.drewN k) sz A n xs := h
theorem Rd.alloc (h : Rd w sz A n xs) (o : Obj) : Rd (w.alloc o) sz A n xs := h.ext (Ext.new w o)
theorem Rd.set (h : Rd w sz A n xs) {p : Addr} (hB : ∀ ad, A = some ad → ad.block ≠ p.block) (u : Value) : Rd (w.setCell p u) sz A n xs :=
  ⟨h.1, fun hn => by
    obtain ⟨ad, e, hc⟩ := h.2 hn
    refine ⟨ad, e, fun j v hv => ?_⟩
    rw [World.cell?_setCell_other w p _ u (fun e' => hB ad e (by rw [← blk_add ad j, ← e']))]
    exact hc j v hv⟩
theorem Rd.grown (h : Rd w sz A n xs) {row : Option Nat} (hg : w.grownBy w' row) (hr : ∀ ad, A = some ad → some ad.block ≠ row) : Rd w' sz A n xs :=
  ⟨h.1, fun hn => by
    obtain ⟨ad, e, hc⟩ := h.2 hn
    exact ⟨ad, e, fun j u hu => hg.cell (hc j u hu) (by rw [blk_add]; exact hr ad e)⟩⟩
theorem Rd.cut (h : Rd w sz A n xs) {k cap : Nat} (hk : k ≤ n) (hc : n ≤ cap) :
    Rd w sz (if cap = k then A else A.map (·.add (k * sz))) (n - k) (xs.drop (k * sz)) := by
  refine ⟨by rw [List.length_drop, h.1, Nat.sub_mul], fun hn => ?_⟩
  obtain ⟨ad, rfl, hcell⟩ := h.2 (by omega)
  rw [if_neg (by omega)]
  refine ⟨ad.add (k * sz), rfl, fun j u hu => ?_⟩
  rw [add_add']
  exact hcell _ u (by rw [← hu, List.getElem?_drop])
theorem Rd.take (h : Rd w sz A n xs) {k : Nat} (hk : k ≤ n) : Rd w sz A k (xs.take (k * sz)) := by
  refine ⟨by rw [List.length_take, h.1]; exact Nat.min_eq_left (Nat.mul_le_mul_right _ hk), fun hn => ?_⟩
  obtain ⟨ad, e, hc⟩ := h.2 (by omega)
  refine ⟨ad, e, fun j u hu => hc j u ?_⟩
  rw [List.getElem?_take] at hu
  split at hu
  · exact hu
  · cases hu
theorem Rd.of_own {base : Nat} {e : TypeId} {c : Nat} (h : w.ownsRow base e sz (.slice A n c) n xs) : Rd w sz A n xs := by
  refine ⟨h.1, fun hn => ?_⟩
  rcases h.2 with ⟨_, h0⟩ | ⟨g, cap, cur, hv, _, hh, _⟩
  · omega
  · have hA : A = some ⟨g, 0, none⟩ := by injection hv
    subst hA
    exact ⟨_, rfl, h.cells (g := g) rfl⟩
theorem Rd.cellAt (h : Rd w sz A n xs) {j : Nat} (hj : j < n * sz) : ∃ ad u, A = some ad ∧ xs[j]? = some u ∧ w.cell? (ad.add j) = some u := by
  obtain ⟨ad, e, hc⟩ := h.2 (Nat.pos_of_ne_zero fun h0 => by subst h0; omega)
  have hl : j < xs.length := by rw [h.1]; exact hj
  exact ⟨ad, xs[j], e, List.getElem?_eq_getElem hl, hc j _ (List.getElem?_eq_getElem hl)⟩
theorem Rd.some_ (h : Rd w sz A n xs) (hn : 0 < n) : ∃ ad, A = some ad := let ⟨ad, e, _⟩ := h.2 hn; ⟨ad, e⟩
theorem Rd.cells {ad : Addr} (h : Rd w sz (some ad) n xs) : ∀ j u, xs[j]? = some u → w.cell? (ad.add j) = some u := by
  intro j u hu
  rcases Nat.eq_zero_or_pos n with h0 | h0
  · subst h0
    have := h.1
    simp at this
    subst this
    simp at hu
  · obtain ⟨ad', e, hc⟩ := h.2 h0
    injection e with e
    subst e
    exact hc j u hu
end

theorem Rd.form {w : World} {sz n : Nat} {A : Option Addr} {xs : List Value} (h : Rd w sz A n xs) (hn : 0 < n) (hs : 0 < sz) :
    ∃ b o, A = some ⟨b, o, none⟩ ∧ ∀ j u, xs[j]? = some u → w.cell? ⟨b, o + j, none⟩ = some u := by
  obtain ⟨⟨b, o, sp⟩, rfl, hc⟩ := h.2 hn
  have hl : 0 < xs.length := by rw [h.1]; exact Nat.mul_pos hn hs
  have h0 := hc 0 _ (List.getElem?_eq_getElem hl)
  have hsp : sp = none := by
    cases sp with
    | none => rfl
    | some x =>
      have hn0 : w.cell? (⟨b, o, some x⟩ : Addr) = none := by
        simp only [World.cell?]
        cases w.heap[b]? with
        | none => rfl
        | some ob => cases ob <;> rfl
      have : (⟨b, o, some x⟩ : Addr).add 0 = ⟨b, o, some x⟩ := rfl
      rw [this, hn0] at h0
      cases h0
  subst hsp
  refine ⟨b, o, rfl, fun j u hu => ?_⟩
  have := hc j u hu
  rwa [show (⟨b, o, none⟩ : Addr).add j = ⟨b, o + j, none⟩ from by unfold Addr.add; split <;> simp_all] at this

/-- the shape of what is owned: a slice value -/
theorem own_form {w : World} {base : Nat} {e : TypeId} {sz n : Nat} {v : Value} {xs : List Value} (h : w.ownsRow base e sz v n xs) :
    ∃ A c, v = .slice A n c ∧ n ≤ c ∧ c ≤ maxLen ∧ (∀ ad, A = some ad → base ≤ ad.block ∧ ad.block < w.heap.size ∧ v.ownBlock = some ad.block) ∧ (A = none → n = 0) := by
  rcases h.2 with ⟨rfl, rfl⟩ | ⟨g, cap, cur, rfl, hb, hh, hnc, hm, _⟩
  · exact ⟨none, 0, rfl, Nat.le_refl _, by unfold maxLen; omega, by simp, by simp⟩
  · refine ⟨some ⟨g, 0, none⟩, cap, rfl, hnc, hm, ?_, by simp⟩
    rintro ad h
    injection h with h
    subst h
    exact ⟨hb, (Array.getElem?_eq_some_iff.1 hh).1, rfl⟩

theorem own_rd {w : World} {base : Nat} {e : TypeId} {sz n : Nat} {v : Value} {xs : List Value} (h : w.ownsRow base e sz v n xs) :
    ∃ A c, v = .slice A n c ∧ n ≤ c ∧ c ≤ maxLen ∧ Rd w sz A n xs := by
  obtain ⟨A, c, rfl, hnc, hm, _⟩ := own_form h
  exact ⟨A, c, rfl, hnc, hm, Rd.of_own h⟩

/-! ### a block that is known whole -/
def Blk (w : World) (g : Nat) (t : TypeId) (cs : Array Value) : Prop := w.heap[g]? = some (.cells cs t (0, 0))

section
variable {w w' : World} {g : Nat} {t : TypeId} {cs : Array Value}
theorem Blk.lt (h : Blk w g t cs) : g < w.heap.size := by
  rcases Nat.lt_or_ge g w.heap.size with hlt | hge
  · exact hlt
  · unfold Blk at h; rw [Array.getElem?_eq_none hge] at h; cases h
theorem Blk.cell (h : Blk w g t cs) (i : Nat) : w.cell? ⟨g, i, none⟩ = cs[i]? := cell_of_row w g i cs t (0, 0) h
theorem Blk.free (h : Blk w g t cs) (i : Nat) : w.frozen? ⟨g, i, none⟩ = false := by
  unfold Blk at h
  simp [World.frozen?, h]
theorem Blk.new (w : World) (t : TypeId) (cs : Array Value) : Blk (w.alloc (.cells cs t)) w.heap.size t cs := heap_alloc_new w _
theorem Blk.drew (h : Blk w g t cs) : Blk w.drew g t cs := h
theorem Blk.alloc (h : Blk w g t cs) (o : Obj) : Blk (w.alloc o) g t cs := (Below.heap_alloc w o g h.lt).trans h
theorem Blk.set_ (h : Blk w g t cs) (i : Nat) (u : Value) : Blk (w.setCell ⟨g, i, none⟩ u) g t (cs.setIfInBounds i u) := by
  unfold Blk at h ⊢
  simp [World.setCell, Array.getElem?_modify, h]
theorem Blk.far (h : Blk w g t cs) {p : Addr} (hp : g ≠ p.block) (u : Value) : Blk (w.setCell p u) g t cs := (Below.heap_setCell w p u g hp).trans h
theorem Blk.ext (h : Blk w g t cs) (hb : Ext w w') : Blk w' g t cs := (hb.block g h.lt).trans h
theorem Blk.grown {row : Option Nat} (h : Blk w g t cs) (hb : w.grownBy w' row) (hg : some g ≠ row) : Blk w' g t cs := (hb.block g h.lt hg).trans h
theorem Blk.ne_ {g' : Nat} {t' : TypeId} {cs' : Array Value} (h : Blk w g t cs) (h' : Blk w g' t' cs') (hne : t ≠ t') : g ≠ g' := by
  rintro rfl
  unfold Blk at h h'
  rw [h] at h'
  injection h' with h'
  injection h' with _ ht
  exact hne ht
theorem own_blk_ne {base : Nat} {e : TypeId} {sz n : Nat} {v : Value} {xs : List Value} (h : w.ownsRow base e sz v n xs) (hg : Blk w g t cs) (hne : e ≠ t) : v.ownBlock ≠ some g := by
  rcases h.2 with ⟨rfl, _⟩ | ⟨g', cap, cur, rfl, _, hh, _⟩
  · simp [Value.ownBlock]
  · intro he
    have : g' = g := by simpa [Value.ownBlock] using he
    subst this
    exact Blk.ne_ (t := e) hh hg hne rfl
end
section
variable {w : World} {g : Nat} {t : TypeId} {a b c d e f i j : Value}
theorem Blk.c1 (h : Blk w g t #[a]) : w.cell? ⟨g, 0, none⟩ = some a := h.cell 0
theorem Blk.c2 (h : Blk w g t #[a, b]) : w.cell? ⟨g, 0, none⟩ = some a ∧ w.cell? ⟨g, 1, none⟩ = some b := ⟨h.cell 0, h.cell 1⟩
theorem Blk.c4 (h : Blk w g t #[a, b, c, d]) : w.cell? ⟨g, 0, none⟩ = some a ∧ w.cell? ⟨g, 1, none⟩ = some b ∧ w.cell? ⟨g, 2, none⟩ = some c ∧ w.cell? ⟨g, 3, none⟩ = some d := ⟨h.cell 0, h.cell 1, h.cell 2, h.cell 3⟩
theorem Blk.c5 (h : Blk w g t #[a, b, c, d, e]) : w.cell? ⟨g, 0, none⟩ = some a ∧ w.cell? ⟨g, 1, none⟩ = some b ∧ w.cell? ⟨g, 2, none⟩ = some c ∧ w.cell? ⟨g, 3, none⟩ = some d ∧ w.cell? ⟨g, 4, none⟩ = some e :=
  ⟨h.cell 0, h.cell 1, h.cell 2, h.cell 3, h.cell 4⟩
theorem Blk.c8 (h : Blk w g t #[a, b, c, d, e, f, i, j]) : w.cell? ⟨g, 0, none⟩ = some a ∧ w.cell? ⟨g, 1, none⟩ = some b ∧ w.cell? ⟨g, 2, none⟩ = some c ∧ w.cell? ⟨g, 3, none⟩ = some d ∧ w.cell? ⟨g, 4, none⟩ = some e ∧ w.cell? ⟨g, 5, none⟩ = some f ∧ w.cell? ⟨g, 6, none⟩ = some i ∧ w.cell? ⟨g, 7, none⟩ = some j :=
  ⟨h.cell 0, h.cell 1, h.cell 2, h.cell 3, h.cell 4, h.cell 5, h.cell 6, h.cell 7⟩
theorem Blk.f2 {cs : Array Value} (h : Blk w g t cs) : w.frozen? ⟨g, 0, none⟩ = false ∧ w.frozen? ⟨g, 1, none⟩ = false := ⟨h.free 0, h.free 1⟩
theorem Blk.f5 {cs : Array Value} (h : Blk w g t cs) : w.frozen? ⟨g, 0, none⟩ = false ∧ w.frozen? ⟨g, 1, none⟩ = false ∧ w.frozen? ⟨g, 2, none⟩ = false ∧ w.frozen? ⟨g, 3, none⟩ = false ∧ w.frozen? ⟨g, 4, none⟩ = false :=
  ⟨h.free 0, h.free 1, h.free 2, h.free 3, h.free 4⟩
theorem Blk.f8 {cs : Array Value} (h : Blk w g t cs) : w.frozen? ⟨g, 0, none⟩ = false ∧ w.frozen? ⟨g, 1, none⟩ = false ∧ w.frozen? ⟨g, 2, none⟩ = false ∧ w.frozen? ⟨g, 3, none⟩ = false ∧ w.frozen? ⟨g, 4, none⟩ = false ∧ w.frozen? ⟨g, 5, none⟩ = false ∧ w.frozen? ⟨g, 6, none⟩ = false ∧ w.frozen? ⟨g, 7, none⟩ = false :=
  ⟨h.free 0, h.free 1, h.free 2, h.free 3, h.free 4, h.free 5, h.free 6, h.free 7⟩
end

section
variable {w : World} {g : Nat} {t : TypeId} {a b c d e f i j a' b' c' d' e' f' i' j' : Value}
theorem Blk.s2 (h : Blk w g t #[a, b]) (a' b' : Value) : Blk ((w.setCell ⟨g, 0, none⟩ a').setCell ⟨g, 1, none⟩ b') g t #[a', b'] := (h.set_ 0 a').set_ 1 b'
theorem Blk.s5 (h : Blk w g t #[a, b, c, d, e]) (a' b' c' d' e' : Value) :
    Blk (((((w.setCell ⟨g, 0, none⟩ a').setCell ⟨g, 1, none⟩ b').setCell ⟨g, 2, none⟩ c').setCell ⟨g, 3, none⟩ d').setCell ⟨g, 4, none⟩ e') g t #[a', b', c', d', e'] :=
  ((((h.set_ 0 a').set_ 1 b').set_ 2 c').set_ 3 d').set_ 4 e'
theorem Ext.s5 {w0 : World} (h : Ext w0 w) (hg : w0.heap.size ≤ g) (a' b' c' d' e' : Value) :
    Ext w0 (((((w.setCell ⟨g, 0, none⟩ a').setCell ⟨g, 1, none⟩ b').setCell ⟨g, 2, none⟩ c').setCell ⟨g, 3, none⟩ d').setCell ⟨g, 4, none⟩ e') :=
  ((((h.set hg a').set hg b').set hg c').set hg d').set hg e'
end
/-- what is owned stays owned while another block is written -/
theorem own_set {w : World} {base : Nat} {e : TypeId} {sz n : Nat} {v : Value} {xs : List Value} (h : w.ownsRow base e sz v n xs) {p : Addr} (hp : v.ownBlock ≠ some p.block) (u : Value) : (w.setCell p u).ownsRow base e sz v n xs := by
  refine ⟨h.1, ?_⟩
  rcases h.2 with h2 | ⟨g, cap, cur, rfl, hg, hh, r⟩
  · exact .inl h2
  · exact .inr ⟨g, cap, cur, rfl, hg, by rw [Below.heap_setCell _ _ _ _ (fun e => hp (by simp [Value.ownBlock, e]))]; exact hh, r⟩
theorem own_s5 {w : World} {base : Nat} {e : TypeId} {sz n : Nat} {v : Value} {xs : List Value} (h : w.ownsRow base e sz v n xs) {g : Nat} (hp : v.ownBlock ≠ some g) (a' b' c' d' e' : Value) :
    (((((w.setCell ⟨g, 0, none⟩ a').setCell ⟨g, 1, none⟩ b').setCell ⟨g, 2, none⟩ c').setCell ⟨g, 3, none⟩ d').setCell ⟨g, 4, none⟩ e').ownsRow base e sz v n xs :=
  own_set (own_set (own_set (own_set (own_set h hp a') hp b') hp c') hp d') hp e'
/-- what is owned from a later base on is owned from an earlier one on -/
theorem own_base {w : World} {base base' : Nat} {e : TypeId} {sz n : Nat} {v : Value} {xs : List Value} (h : w.ownsRow base e sz v n xs) (hb : base' ≤ base) : w.ownsRow base' e sz v n xs := by
  refine ⟨h.1, ?_⟩
  rcases h.2 with h2 | ⟨g, cap, cur, rfl, hg, r⟩
  · exact .inl h2
  · exact .inr ⟨g, cap, cur, rfl, Nat.le_trans hb hg, r⟩

/-- what lay in memory before is not in a row that is owned from a later base on -/
theorem ne_of_old {w W : World} {sz n m s base : Nat} {A : Option Addr} {xs ys : List Value} {e : TypeId} {v : Value} (h : Rd w sz A n xs) (hs : 0 < sz) (ho : W.ownsRow base e s v m ys) (hb : w.heap.size ≤ base) :
    0 < n → ∀ ad, A = some ad → v.ownBlock ≠ some ad.block := by
  intro hn ad hA he
  obtain ⟨b, o, hb', hc⟩ := h.form hn hs
  rw [hA] at hb'
  injection hb' with hb'
  subst hb'
  have hl : 0 < xs.length := by rw [h.1]; exact Nat.mul_pos hn hs
  have h1 := World.block_lt_of_cell? w _ (hc 0 _ (List.getElem?_eq_getElem hl))
  have h2 := (ho.lt _ he).1
  simp only at h1 h2
  omega
/-- two rows, the one owned from where the other's memory ends -/
theorem ne_of_own {W W' : World} {base base' m n s s' : Nat} {xs ys : List Value} {e e' : TypeId} {u : Value} {A : Option Addr} {c : Nat} (h : W.ownsRow base e s u m xs) (h' : W'.ownsRow base' e' s' (.slice A n c) n ys) (hb : W.heap.size ≤ base') :
    0 < n → ∀ ad, A = some ad → u.ownBlock ≠ some ad.block := by
  intro _ ad hA he
  subst hA
  have h1 := (h.lt _ he).2
  have h2 := (h'.lt ad.block rfl).1
  omega

/-! ### an append from a slice that reads as a list, onto a row of the call's own -/
section
variable {P : Program} (w : World)

theorem run_app_nil (base : Nat) (t ty e : TypeId) (i : TypeInfo) (sz : Nat) (ht : P.underlying t = some (.slice e)) (hi : P.info? e = some i)
    (v : Value) (n : Nat) (xs : List Value) (hown : w.ownsRow base e sz v n xs) (c : Nat) : (Builtin.append_ #[t, t] ty #[v, .slice none 0 c]).run P w = .ok v w := by
  rcases hown.2 with ⟨rfl, rfl⟩ | ⟨g, cap, cur, rfl, _, _, hnc, _⟩
  · simp [Builtin.append_, run_underlying ht, sizeOf, typeInfo, hi, Builtin.lenOf, Builtin.firstCells]
  · simp [Builtin.append_, run_underlying ht, sizeOf, typeInfo, hi, Builtin.lenOf, Builtin.firstCells, hnc, storeCells]

theorem run_app (base : Nat) (t ty e : TypeId) (i : TypeInfo) (z : Value) (sz bytes : Nat) (ht : P.underlying t = some (.slice e)) (hi : P.info? e = some i) (hz : i.zero = some z)
    (hsize : i.size = sz) (hby : i.bytes = bytes) (hzs : z.cells.size = sz) (hsz : 0 < sz)
    (v : Value) (n : Nat) (xs : List Value) (hown : w.ownsRow base e sz v n xs)
    (A : Option Addr) (m c : Nat) (news : List Value) (hr : Rd w sz A m news) (h1 : ∀ u ∈ news, u.oneCell' = true)
    (hbytes : (n + m) * bytes ≤ 140737488355328) (hby0 : 0 < bytes) (hbase : base ≤ w.heap.size) :
    ∃ v' w', (Builtin.append_ #[t, t] ty #[v, .slice A m c]).run P w = .ok v' w' ∧ w'.ownsRow base e sz v' (n + m) (xs ++ news) ∧ w.grownBy w' v.ownBlock ∧
      (v'.ownBlock = v.ownBlock ∨ v'.ownBlock = some w.heap.size) := by
  have h63 : n + m ≤ maxLen := by
    have : (n + m) * 1 ≤ (n + m) * bytes := Nat.mul_le_mul_left _ hby0
    unfold maxLen; omega
  rcases A with _ | ad
  · have hm : m = 0 := by
      rcases Nat.eq_zero_or_pos m with h0 | h0
      · exact h0
      · obtain ⟨ad, h, _⟩ := hr.2 h0
        cases h
    subst hm
    have hn : news = [] := List.eq_nil_of_length_eq_zero (by simpa using hr.1)
    subst hn
    exact ⟨v, w, run_app_nil w base t ty e i sz ht hi v n xs hown c, by simpa using hown, World.grownBy.refl w _, .inl rfl⟩
  · have hcells : ∀ j u, news[j]? = some u → w.cell? (ad.add j) = some u := by
      intro j u hu
      exact hr.cells j u hu
    obtain ⟨v', w', hrun, h2, h3, _, h5⟩ := run_append_own_at (P := P) w base t ty e i z sz bytes ht hi hz hsize hby hzs hsz v n xs hown ad m c news hr.1 hcells h1 h63 hbytes hbase
    exact ⟨v', w', hrun, h2, h3, h5⟩

theorem wp_app {o : Oper} {a : Act} {K : Act → World → Prop} {Q : Exit → Act → World → Prop} (s x : Operand) (t : TypeId)
    (ho : o.op = .call { callee := .builtin .append, args := #[s, x], argTypes := #[t, t] })
    (base : Nat) (e : TypeId) (i : TypeInfo) (z : Value) (sz bytes : Nat) (ht : P.underlying t = some (.slice e)) (hi : P.info? e = some i) (hz : i.zero = some z)
    (hsize : i.size = sz) (hby : i.bytes = bytes) (hzs : z.cells.size = sz) (hsz : 0 < sz)
    (v : Value) (n : Nat) (xs : List Value) (hs : a.eval s = v) (hown : w.ownsRow base e sz v n xs)
    (A : Option Addr) (m c : Nat) (news : List Value) (hx : a.eval x = .slice A m c) (hr : Rd w sz A m news) (h1 : ∀ u ∈ news, u.oneCell' = true)
    (hbytes : (n + m) * bytes ≤ 140737488355328) (hby0 : 0 < bytes) (hbase : base ≤ w.heap.size)
    (h : ∀ v' w', w'.ownsRow base e sz v' (n + m) (xs ++ news) → w.grownBy w' v.ownBlock → (v'.ownBlock = v.ownBlock ∨ v'.ownBlock = some w.heap.size) → K (a.put o.dst v') w') : o.wp P a w K Q := by
  obtain ⟨v', w', hrun, h2, h3, h4⟩ := run_app (P := P) w base t o.type e i z sz bytes ht hi hz hsize hby hzs hsz v n xs hown A m c news hr h1 hbytes hby0 hbase
  unfold Oper.wp execOp
  simp only [ho, resolve, invoke, builtin, Sem.run_bind, Sem.run_pure, Result.andThen_ok, List.map_toArray, List.map_cons, List.map_nil, hs, hx, hrun]
  exact h v' w' h2 h3 h4

/-- the walk's arm at an append: the row that is appended to, the source -/
theorem wpList_app {ops : Array Oper} {rest : List Oper} {o : Oper} {a : Act} {Q : Exit → Act → World → Prop} (hgd : o.guard = none) (s x : Operand) (t : TypeId)
    (ho : o.op = .call { callee := .builtin .append, args := #[s, x], argTypes := #[t, t] })
    (base : Nat) (e : TypeId) (i : TypeInfo) (z : Value) (sz bytes : Nat) (ht : P.underlying t = some (.slice e)) (hi : P.info? e = some i) (hz : i.zero = some z)
    (hsize : i.size = sz) (hby : i.bytes = bytes) (hzs : z.cells.size = sz) (hsz : 0 < sz)
    (v : Value) (n : Nat) (xs : List Value) (hs : a.eval s = v) (hown : w.ownsRow base e sz v n xs)
    (A : Option Addr) (m c : Nat) (news : List Value) (hx : a.eval x = .slice A m c) (hr : Rd w sz A m news) (h1 : ∀ u ∈ news, u.oneCell' = true)
    (hbytes : (n + m) * bytes ≤ 140737488355328) (hby0 : 0 < bytes) (hbase : base ≤ w.heap.size)
    (h : ∀ v' w', w'.ownsRow base e sz v' (n + m) (xs ++ news) → w.grownBy w' v.ownBlock → (v'.ownBlock = v.ownBlock ∨ v'.ownBlock = some w.heap.size) → wpList P ops Q rest (a.put o.dst v') w') : wpList P ops Q (o :: rest) a w :=
  wpList_plain hgd fun _ hK => wp_app w s x t ho base e i z sz bytes ht hi hz hsize hby hzs hsz v n xs hs hown A m c news hx hr h1 hbytes hby0 hbase fun v' w' h2 h3 h4 => hK _ _ (h v' w' h2 h3 h4)

theorem step_app {ops : Array Oper} {o : Oper} {a : Act} {K : Act → World → Prop} {Q : Exit → Act → World → Prop} {E : Prop} (hgd : o.guard = none) (s x : Operand) (t : TypeId)
    (ho : o.op = .call { callee := .builtin .append, args := #[s, x], argTypes := #[t, t] })
    (base : Nat) (e : TypeId) (i : TypeInfo) (z : Value) (sz bytes : Nat) (ht : P.underlying t = some (.slice e)) (hi : P.info? e = some i) (hz : i.zero = some z)
    (hsize : i.size = sz) (hby : i.bytes = bytes) (hzs : z.cells.size = sz) (hsz : 0 < sz)
    (v : Value) (n : Nat) (xs : List Value) (hs : a.eval s = v) (hown : w.ownsRow base e sz v n xs)
    (A : Option Addr) (m c : Nat) (news : List Value) (hx : a.eval x = .slice A m c) (hr : Rd w sz A m news) (h1 : ∀ u ∈ news, u.oneCell' = true)
    (hbytes : (n + m) * bytes ≤ 140737488355328) (hby0 : 0 < bytes) (hbase : base ≤ w.heap.size)
    (h : ∀ v' w', w'.ownsRow base e sz v' (n + m) (xs ++ news) → w.grownBy w' v.ownBlock → (v'.ownBlock = v.ownBlock ∨ v'.ownBlock = some w.heap.size) → K (a.put o.dst v') w') :
    if Region.wanted o (yielded ops a.tmps) = true then Oper.wp P o a w K Q else E := by
  have hw : Region.wanted o (yielded ops a.tmps) = true := by simp [Region.wanted, hgd]
  rw [if_pos hw]
  exact wp_app w s x t ho base e i z sz bytes ht hi hz hsize hby hzs hsz v n xs hs hown A m c news hx hr h1 hbytes hby0 hbase h
end

/-! ### what appends onto one row leave: that row, and new blocks, alone have turned; the new row is the old one or new -/
structure App (w w' : World) (v v' : Value) : Prop where
  grown : w.grownBy w' v.ownBlock
  lies : v'.ownBlock = v.ownBlock ∨ ∃ k, v'.ownBlock = some k ∧ w.heap.size ≤ k
theorem App.refl (w : World) (v : Value) : App w w v v := ⟨World.grownBy.refl w _, .inl rfl⟩
theorem App.trans {a b c : World} {u v x : Value} (h : App a b u v) (k : App b c v x) : App a c u x := by
  have hs := h.grown.size
  refine ⟨⟨k.grown.os.trans h.grown.os, k.grown.tape.trans h.grown.tape, k.grown.output.trans h.grown.output, Nat.le_trans hs k.grown.size, fun i hi hne => ?_⟩, ?_⟩
  · refine (k.grown.block i (by omega) ?_).trans (h.grown.block i hi hne)
    rcases h.lies with e | ⟨j, e, hj⟩
    · rw [e]; exact hne
    · rw [e]; intro he; injection he with he; omega
  · rcases k.lies with e | ⟨j, e, hj⟩
    · rw [e]
      rcases h.lies with e' | ⟨j', e', hj'⟩
      · exact .inl e'
      · exact .inr ⟨j', e', hj'⟩
    · exact .inr ⟨j, e, by omega⟩
theorem App.of_ext {a b : World} (h : Ext a b) (v : Value) : App a b v v := ⟨⟨Below.os h, Below.tape h, Below.output h, h.size, fun i hi _ => Below.block h i hi⟩, .inl rfl⟩
theorem App.then_ext {a b c : World} {u v : Value} (h : App a b u v) (k : Ext b c) : App a c u v := h.trans (App.of_ext k v)
theorem App.of_law {a b : World} {u v : Value} (hg : a.grownBy b u.ownBlock) (ha : v.ownBlock = u.ownBlock ∨ v.ownBlock = some a.heap.size) : App a b u v :=
  ⟨hg, ha.imp id fun e => ⟨_, e, Nat.le_refl _⟩⟩
theorem App.size {a b : World} {u v : Value} (h : App a b u v) : a.heap.size ≤ b.heap.size := h.grown.size
theorem App.ext {a b : World} {u v : Value} (h : App a b u v) (hu : u.ownBlock = none) : Ext a b :=
  ⟨h.grown.os, h.grown.tape, h.grown.output, h.grown.size, fun i hi => h.grown.block i hi (by rw [hu]; simp)⟩
theorem App.ext' {w0 a b : World} {u v : Value} (h : App a b u v) (h0 : Ext w0 a) (hu : ∀ k, u.ownBlock = some k → w0.heap.size ≤ k) : Ext w0 b := h0.grown h.grown hu
theorem App.ext_own {w0 a b : World} {u v : Value} (h : App a b u v) (h0 : Ext w0 a) {base : Nat} {e : TypeId} {sz n : Nat} {xs : List Value} (ho : a.ownsRow base e sz u n xs) (hb : w0.heap.size ≤ base) : Ext w0 b :=
  h.ext' h0 fun k hk => Nat.le_trans hb (ho.lt k hk).1
theorem App.rd {a b : World} {u v : Value} (h : App a b u v) {sz n : Nat} {A : Option Addr} {xs : List Value} (hr : Rd a sz A n xs) (hne : ∀ ad, A = some ad → u.ownBlock ≠ some ad.block) : Rd b sz A n xs :=
  hr.grown h.grown fun ad e he => hne ad e he.symm
theorem App.own {a b : World} {u v : Value} (h : App a b u v) {base : Nat} {e : TypeId} {sz n : Nat} {x : Value} {xs : List Value} (ho : a.ownsRow base e sz x n xs) (hne : x.ownBlock = none ∨ x.ownBlock ≠ u.ownBlock) : b.ownsRow base e sz x n xs :=
  ho.kept h.grown hne
theorem App.blk {a b : World} {u v : Value} (h : App a b u v) {g : Nat} {t : TypeId} {cs : Array Value} (hb : Blk a g t cs) (hne : u.ownBlock ≠ some g) : Blk b g t cs := hb.grown h.grown (Ne.symm hne)

/-! ### '[]byte("..")' of a constant: the row of the literal gets a mark behind its last cell, no cell turns -/
structure Mkd (w w' : World) (g : Nat) : Prop where
  os : w'.os = w.os
  tape : w'.tape = w.tape
  output : w'.output = w.output
  size : w'.heap.size = w.heap.size
  block : ∀ k, k ≠ g → w'.heap[k]? = w.heap[k]?
  cell : ∀ p : Addr, w'.cell? p = w.cell? p
theorem Mkd.rd {w w' : World} {g : Nat} (h : Mkd w w' g) {sz n : Nat} {A : Option Addr} {xs : List Value} (hr : Rd w sz A n xs) : Rd w' sz A n xs :=
  ⟨hr.1, fun hn => by
    obtain ⟨ad, e, hc⟩ := hr.2 hn
    exact ⟨ad, e, fun j u hu => (h.cell _).trans (hc j u hu)⟩⟩
theorem Mkd.ext {w0 w w' : World} {g : Nat} (h : Mkd w w' g) (hX : Ext w0 w) (hg : w0.heap.size ≤ g) : Ext w0 w' :=
  ⟨h.os.trans (Below.os hX), h.tape.trans (Below.tape hX), h.output.trans (Below.output hX), by rw [h.size]; exact hX.size, fun k hk => (h.block k (by omega)).trans (Below.block hX k hk)⟩
theorem Mkd.own {w w' : World} {g : Nat} (h : Mkd w w' g) {base : Nat} {e : TypeId} {sz n : Nat} {v : Value} {xs : List Value} (ho : w.ownsRow base e sz v n xs) (hne : v.ownBlock ≠ some g) : w'.ownsRow base e sz v n xs := by
  refine ⟨ho.1, ?_⟩
  rcases ho.2 with h2 | ⟨k, cap, cur, rfl, hk, hh, r⟩
  · exact .inl h2
  · exact .inr ⟨k, cap, cur, rfl, hk, by rw [h.block k (fun e => hne (by simp [Value.ownBlock, e]))]; exact hh, r⟩
theorem Mkd.blk {w w' : World} {g : Nat} (h : Mkd w w' g) {k : Nat} {t : TypeId} {cs : Array Value} (hb : Blk w k t cs) (hne : k ≠ g) : Blk w' k t cs := (h.block k hne).trans hb

theorem run_conv_const {P : Program} (w : World) (t e : TypeId) (g n c : Nat) (C : Array Value) (ht : P.underlying t = some (.slice e)) (he : P.underlying e = some (.int .u8)) (hB : Blk w g e C) :
    ∃ w', (convert t t (.slice (some ⟨g, 0, none⟩) n c)).run P w = .ok (.slice (some ⟨g, 0, none⟩) n c) w' ∧ Mkd w w' g := by
  have hsh : w.shape? g = some (e, C.size) := by
    unfold World.shape?
    rw [show w.heap[g]? = _ from hB]
  refine ⟨w.freeze ⟨g, C.size, none⟩ 1, by simp [convert, run_underlying ht, run_underlying he, markStringish, hsh], ?_⟩
  unfold World.freeze
  rw [if_neg (by decide)]
  refine ⟨rfl, rfl, rfl, by simp, fun k hk => by simp [Array.getElem?_modify, Ne.symm hk], fun p => ?_⟩
  simp only [World.cell?, Array.getElem?_modify]
  by_cases hp : g = p.block
  · rw [if_pos hp, ← hp, show w.heap[g]? = _ from hB]
    rfl
  · rw [if_neg hp]
theorem upon_conv {P : Program} {w : World} {o : Oper} {a : Act} {K : Act → World → Prop} {Q : Exit → Act → World → Prop} (t e : TypeId) (g n c : Nat) (C : Array Value) (ht : P.underlying t = some (.slice e)) (he : P.underlying e = some (.int .u8)) (hB : Blk w g e C)
    (h : ∀ w', Mkd w w' g → K (a.put o.dst (.slice (some ⟨g, 0, none⟩) n c)) w') :
    Oper.upon P o a K Q ((Sem.run P (convert t t (.slice (some ⟨g, 0, none⟩) n c)) w).andThen fun x w' => .ok (.value x) w') := by
  obtain ⟨w', hrun, hm⟩ := run_conv_const (P := P) w t e g n c C ht he hB
  rw [hrun]
  exact h w' hm

/-! ### an append onto a slice that is full: a new row -/
theorem run_app_full {P : Program} (w : World) (t ty e : TypeId) (i : TypeInfo) (z : Value) (sz bytes : Nat) (ht : P.underlying t = some (.slice e)) (hi : P.info? e = some i) (hz : i.zero = some z)
    (hsize : i.size = sz) (hby : i.bytes = bytes) (hzs : z.cells.size = sz)
    (ad : Addr) (n : Nat) (xs : List Value) (hr0 : Rd w sz (some ad) n xs)
    (ad' : Addr) (m c : Nat) (news : List Value) (hr : Rd w sz (some ad') m news) (hm : 0 < m)
    (hbytes : (n + m) * bytes ≤ 140737488355328) (hby0 : 0 < bytes) :
    ∃ A' c' w', (Builtin.append_ #[t, t] ty #[.slice (some ad) n n, .slice (some ad') m c]).run P w = .ok (.slice A' (n + m) c') w' ∧ w'.ownsRow w.heap.size e sz (.slice A' (n + m) c') (n + m) (xs ++ news) ∧ Ext w w' := by
  have h63 : n + m ≤ maxLen := by
    have : (n + m) * 1 ≤ (n + m) * bytes := Nat.mul_le_mul_left _ hby0
    unfold maxLen; omega
  subst hsize
  subst hby
  have hrun := run_append_grow (P := P) w t ty e i z ht hi hz ad n n xs hr0.1 hr0.cells ad' m c news hr.1 hr.cells (by omega) (by simp only [maxLen] at h63; omega) (growslice_fits (by omega) hbytes)
  refine ⟨_, _, _, hrun, ⟨by rw [List.length_append, hr0.1, hr.1, Nat.add_mul], .inr ⟨w.heap.size, _, _, rfl, Nat.le_refl _, heap_alloc_new w.drew _, grownCap_ge _ _ _ _, grownCap_le_maxLen _ _ _ _ h63, ?_, ?_⟩⟩, (Ext.refl w).drew.alloc _⟩
  · have hge := grownCap_ge w (n + m) n e
    simp only [Array.size_append, List.size_toArray, size_zeroCells, hzs, hr0.1, hr.1, ← Nat.add_mul]
    congr 1
    omega
  · simp only [Array.toList_append, List.append_assoc]
    rw [← List.append_assoc, show (n + m) * i.size = (xs ++ news).length from by rw [List.length_append, hr0.1, hr.1, Nat.add_mul]]
    exact List.take_left
theorem wpList_app_full {P : Program} (w : World) {ops : Array Oper} {rest : List Oper} {o : Oper} {a : Act} {Q : Exit → Act → World → Prop} (hgd : o.guard = none) (s x : Operand) (t : TypeId)
    (ho : o.op = .call { callee := .builtin .append, args := #[s, x], argTypes := #[t, t] })
    (e : TypeId) (i : TypeInfo) (z : Value) (sz bytes : Nat) (ht : P.underlying t = some (.slice e)) (hi : P.info? e = some i) (hz : i.zero = some z)
    (hsize : i.size = sz) (hby : i.bytes = bytes) (hzs : z.cells.size = sz)
    (ad : Addr) (n : Nat) (xs : List Value) (hs : a.eval s = .slice (some ad) n n) (hr0 : Rd w sz (some ad) n xs)
    (ad' : Addr) (m c : Nat) (news : List Value) (hx : a.eval x = .slice (some ad') m c) (hr : Rd w sz (some ad') m news) (hm : 0 < m)
    (hbytes : (n + m) * bytes ≤ 140737488355328) (hby0 : 0 < bytes)
    (h : ∀ A' c' w', w'.ownsRow w.heap.size e sz (.slice A' (n + m) c') (n + m) (xs ++ news) → Ext w w' → wpList P ops Q rest (a.put o.dst (.slice A' (n + m) c')) w') : wpList P ops Q (o :: rest) a w :=
  wpList_plain hgd fun _ hK => by
    obtain ⟨A', c', w', hrun, h2, h3⟩ := run_app_full (P := P) w t o.type e i z sz bytes ht hi hz hsize hby hzs ad n xs hr0 ad' m c news hr hm hbytes hby0
    unfold Oper.wp execOp
    simp only [ho, resolve, invoke, builtin, Sem.run_bind, Sem.run_pure, Result.andThen_ok, List.map_toArray, List.map_cons, List.map_nil, hs, hx, hrun]
    exact hK _ _ (h A' c' w' h2 h3)

/-- the one element of 'append(s, x)', laid in a block of its own -/
theorem Rd.one (w : World) (x : Value) (t : TypeId) : Rd (w.alloc (.cells #[x] t)) 1 (some ⟨w.heap.size, 0, none⟩) 1 [x] :=
  ⟨rfl, fun _ => ⟨_, rfl, cell_one_new w x t⟩⟩

theorem Rd.two (w : World) (x y : Value) (t : TypeId) : Rd (w.alloc (.cells #[x, y] t)) 1 (some ⟨w.heap.size, 0, none⟩) 2 [x, y] :=
  ⟨rfl, fun _ => ⟨_, rfl, fun j u hu => by
    have e : (⟨w.heap.size, 0, none⟩ : Addr).add j = ⟨w.heap.size, j, none⟩ := by unfold Addr.add; split <;> simp_all
    rw [e, (Blk.new w t #[x, y]).cell j]
    simpa using hu⟩⟩
theorem Rd.two' (w : World) (o : Obj) (x y : Value) (t : TypeId) : Rd ((w.alloc o).alloc (.cells #[x, y] t)) 1 (some ⟨w.heap.size + 1, 0, none⟩) 2 [x, y] := by
  simpa using Rd.two (w.alloc o) x y t

/-! ### what lies in cells -/
def bv (l : List UInt8) : List Value := l.map fun b => .int .u8 (b.toNat : Int)
def iv (l : List Int) : List Value := l.map (Value.int .i64)
def tv (l : List (Int × Int)) : List Value := l.flatMap fun t => [.int .i64 t.1, .int .i64 t.2]

theorem bv_length (l : List UInt8) : (bv l).length = l.length := by simp [bv]
theorem bv_append (a b : List UInt8) : bv (a ++ b) = bv a ++ bv b := by simp [bv]
theorem bv_drop (l : List UInt8) (k : Nat) : (bv l).drop k = bv (l.drop k) := by simp [bv, List.map_drop]
theorem bv_take (l : List UInt8) (k : Nat) : (bv l).take k = bv (l.take k) := by simp [bv, List.map_take]
theorem bv_get (l : List UInt8) (k : Nat) (h : k < l.length) : (bv l)[k]? = some (.int .u8 ((l[k].toNat : Nat) : Int)) := by simp [bv, h]
theorem bv_one (l : List UInt8) : ∀ u ∈ bv l, u.oneCell' = true := by
  intro u hu
  simp only [bv, List.mem_map] at hu
  obtain ⟨b, _, rfl⟩ := hu
  rfl
theorem iv_length (l : List Int) : (iv l).length = l.length := by simp [iv]
theorem iv_append (a b : List Int) : iv (a ++ b) = iv a ++ iv b := by simp [iv]
theorem iv_get (l : List Int) (k : Nat) (h : k < l.length) : (iv l)[k]? = some (.int .i64 l[k]) := by simp [iv, h]
theorem iv_one (l : List Int) : ∀ u ∈ iv l, u.oneCell' = true := by
  intro u hu
  simp only [iv, List.mem_map] at hu
  obtain ⟨b, _, rfl⟩ := hu
  rfl
theorem tv_length (l : List (Int × Int)) : (tv l).length = l.length * 2 := by
  induction l with
  | nil => rfl
  | cons a l ih => simp [tv] at ih ⊢; omega
theorem tv_one (l : List (Int × Int)) : ∀ u ∈ tv l, u.oneCell' = true := by
  intro u hu
  simp only [tv, List.mem_flatMap] at hu
  obtain ⟨b, _, hu⟩ := hu
  simp at hu
  rcases hu with rfl | rfl <;> rfl
theorem tv_append (a b : List (Int × Int)) : tv (a ++ b) = tv a ++ tv b := by simp [tv]

theorem tv_get0 (l : List (Int × Int)) (k : Nat) (h : k < l.length) : (tv l)[k * 2]? = some (.int .i64 l[k].1) := by
  induction l generalizing k with
  | nil => simp at h
  | cons a l ih =>
    cases k with
    | zero => simp [tv]
    | succ k =>
      have h1 : k < l.length := by simpa using h
      have := ih k h1
      simp only [tv, List.flatMap_cons] at this ⊢
      rw [show (k + 1) * 2 = k * 2 + 1 + 1 from by omega]
      simpa using this
theorem tv_get1 (l : List (Int × Int)) (k : Nat) (h : k < l.length) : (tv l)[k * 2 + 1]? = some (.int .i64 l[k].2) := by
  induction l generalizing k with
  | nil => simp at h
  | cons a l ih =>
    cases k with
    | zero => simp [tv]
    | succ k =>
      have h1 : k < l.length := by simpa using h
      have := ih k h1
      simp only [tv, List.flatMap_cons] at this ⊢
      rw [show (k + 1) * 2 + 1 = k * 2 + 1 + 1 + 1 from by omega]
      simpa using this

theorem ofInt_int (a : Nat) (ha : a < 9223372036854775808) : (BitVec.ofInt 64 (a : Int)).toNat = a := by
  rw [BitVec.ofInt_natCast, BitVec.toNat_ofNat]; exact Nat.mod_eq_of_lt (by omega)
theorem int_or (a b : Nat) (ha : a < 9223372036854775808) (hb : b < 9223372036854775808) : bits .or .i64 (a : Int) (b : Int) = ((a ||| b : Nat) : Int) := by
  have hx : a ||| b < 2 ^ 63 := Nat.or_lt_two_pow (by omega) (by omega)
  show IntKind.i64.wrap ((BitVec.ofInt 64 (a : Int) ||| BitVec.ofInt 64 (b : Int)).toNat : Int) = _
  rw [BitVec.toNat_or, ofInt_int a ha, ofInt_int b hb, IntKind.wrap_i64]
  omega
theorem int_and (a b : Nat) (ha : a < 9223372036854775808) (hb : b < 9223372036854775808) : bits .and .i64 (a : Int) (b : Int) = ((a &&& b : Nat) : Int) := by
  have hx : a &&& b < 2 ^ 63 := Nat.and_lt_two_pow _ (by omega)
  show IntKind.i64.wrap ((BitVec.ofInt 64 (a : Int) &&& BitVec.ofInt 64 (b : Int)).toNat : Int) = _
  rw [BitVec.toNat_and, ofInt_int a ha, ofInt_int b hb, IntKind.wrap_i64]
  omega
/-- a number moved up by a byte, or a byte -/
theorem int_or_byte (a b : Nat) (ha : a < 1099511627776) (hb : b < 256) : bits .or .i64 ((a * 256 : Nat) : Int) (b : Int) = ((b + 256 * a : Nat) : Int) := by
  rw [int_or _ _ (by omega) (by omega), nat_join 8 (a * 256) b (by omega) (by omega)]
  omega

/-- 'string(b)' of bytes that read as a list -/
theorem run_str {P : Program} (w : World) (src dst e : TypeId) (A : Option Addr) (n c : Nat) (l : List UInt8) (hs : P.underlying src = some (.slice e)) (he : P.underlying e = some (.int .u8)) (hd : P.underlying dst = some .string)
    (h : Rd w 1 A n (bv l)) : (convert src dst (.slice A n c)).run P w = .ok (.string ⟨l.toArray⟩) w := by
  have hl : l.length = n := by have := h.1; rw [bv_length] at this; omega
  rcases A with _ | ad
  · have hn : n = 0 := by
      rcases Nat.eq_zero_or_pos n with h0 | h0
      · exact h0
      · obtain ⟨ad, h, _⟩ := h.2 h0
        cases h
    have hl0 : l = [] := List.eq_nil_of_length_eq_zero (by omega)
    subst hl0
    rw [run_convert_bytes_string w src dst e none n c hs he hd]
    simp [Conv.bytesToString, Sem.run_pure]
    rfl
  · subst hl
    exact run_convert_bytes_back w src dst e ad c l hs he hd fun j hj => h.cells j _ (by rw [bv_get l j hj])

end Go.Proofs.Ytfcbedkidjclhaa
