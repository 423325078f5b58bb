/-
  Things in memory that lie apart: boxes, owned rows, lists that are only read.
  No condition: plain definitions and lemmas.
-/
import Derived.Test.YtfcbedkidjclhaaKeep
import Derived.ArgAppend
import Derived.Laws.OwnMore
namespace Go.Proofs.Ytfcbedkidjclhaa
open Go.RowKit
set_option maxRecDepth 100000
set_option linter.unusedSimpArgs false
set_option linter.unusedVariables false

inductive Res where
  | blk (g : Nat) (t : TypeId) (cs : Array Value)
  | row (e : TypeId) (sz : Nat) (v : Value) (n : Nat) (xs : List Value)
  | rd (sz : Nat) (A : Option Addr) (n : Nat) (xs : List Value)

namespace Res
def holds (w : World) : Res → Prop
  | .blk g t cs => Blk w g t cs
  | .row e sz v n xs => w.ownsRow 0 e sz v n xs
  | .rd sz A n xs => 0 < sz ∧ Rd w sz A n xs
def foot : Res → Nat → Prop
  | .blk g _ _, b => b = g
  | .row _ _ v _ _, b => v.ownBlock = some b
  | .rd _ A n _, b => 0 < n ∧ ∃ ad, A = some ad ∧ ad.block = b
def turns : Res → Prop
  | .rd _ _ _ _ => False
  | _ => True
theorem lt {w : World} {r : Res} (h : r.holds w) : ∀ b, r.foot b → b < w.heap.size := by
  intro b hb
  cases r with
  | blk g t cs => obtain rfl := hb; exact Blk.lt h
  | row e sz v n xs => exact (World.ownsRow.lt h b hb).2
  | rd sz A n xs =>
    obtain ⟨hn, ad, hA, rfl⟩ := hb
    obtain ⟨b, o, hb', hc⟩ := h.2.form hn h.1
    rw [hA] at hb'
    injection hb' with hb'
    subst hb'
    have hl : 0 < xs.length := by rw [h.2.1]; exact Nat.mul_pos hn h.1
    exact World.block_lt_of_cell? w _ (hc 0 _ (List.getElem?_eq_getElem hl))
theorem keep {S : Nat → Prop} {w w' : World} {r : Res} (h : r.holds w) (k : Kp S w w') (hS : ∀ b, r.foot b → ¬ S b) : r.holds w' := by
  cases r with
  | blk g t cs => exact k.blk h (hS g rfl)
  | row e sz v n xs => exact k.own h fun b e => hS b e
  | rd sz A n xs =>
    refine ⟨h.1, ?_⟩
    rcases Nat.eq_zero_or_pos n with h0 | h0
    · subst h0
      exact ⟨h.2.1, fun h => absurd h (by omega)⟩
    · exact k.rd h.2 fun ad e => hS _ ⟨h0, ad, e, rfl⟩
end Res

/-- two things lie apart, if one of them may be written -/
def Apart (r s : Res) : Prop := r.turns ∨ s.turns → ∀ b, r.foot b → ¬ s.foot b
theorem Apart.symm {r s : Res} (h : Apart r s) : Apart s r := fun hm b hb hc => h hm.symm b hc hb

structure Sp (w : World) (L : List Res) : Prop where
  all : ∀ r ∈ L, r.holds w
  sep : L.Pairwise Apart

section
variable {w w' : World} {X Y L : List Res} {r r' : Res}
theorem Sp.nil : Sp w [] := ⟨by simp, List.Pairwise.nil⟩
theorem Sp.ext (h : Sp w L) (k : Ext w w') : Sp w' L := ⟨fun r hr => Res.keep (h.all r hr) (Kp.of_ext (S := fun _ => False) k) fun _ _ e => e, h.sep⟩
theorem Sp.drew (h : Sp w L) : Sp w.drew L := h.ext ((Ext.refl w).drew)
theorem Sp.alloc (h : Sp w L) (o : Obj) : Sp (w.alloc o) L := h.ext (Ext.new w o)
theorem Sp.lt (h : Sp w L) : ∀ r ∈ L, ∀ b, r.foot b → b < w.heap.size := fun r hr => Res.lt (h.all r hr)
theorem Sp.perm {L' : List Res} (h : Sp w L) (p : L.Perm L') : Sp w L' := ⟨fun r hr => h.all r (p.mem_iff.mpr hr), (p.pairwise_iff (fun {_ _} e => Apart.symm e)).mp h.sep⟩
theorem Sp.sub {L' : List Res} (h : Sp w L) (p : L'.Sublist L) : Sp w L' := ⟨fun r hr => h.all r (p.mem hr), h.sep.sublist p⟩
theorem Sp.tail (h : Sp w (r :: L)) : Sp w L := h.sub (List.sublist_cons_self _ _)
theorem Sp.head (h : Sp w (r :: L)) : r.holds w := h.all r (by simp)
theorem Sp.at_ (h : Sp w (X ++ r :: Y)) : r.holds w := h.all r (by simp)
theorem Sp.away (h : Sp w (r :: L)) : ∀ s ∈ L, Apart r s := (List.pairwise_cons.mp h.sep).1
/-- one thing is turned: it stays where it was, or lies in new memory -/
theorem Sp.turn (h : Sp w (r :: L)) (hm : r.turns) (k : Kp r.foot w w') (hr : r'.holds w') (hf : ∀ b, r'.foot b → r.foot b ∨ w.heap.size ≤ b) : Sp w' (r' :: L) := by
  have ha := h.away
  have ht := h.tail
  refine ⟨?_, ?_⟩
  · intro s hs
    rcases List.mem_cons.mp hs with rfl | hs
    · exact hr
    · exact Res.keep (ht.all s hs) k fun b hb hc => ha s hs (.inl hm) b hc hb
  · rw [List.pairwise_cons]
    refine ⟨fun s hs _ b hb hc => ?_, ht.sep⟩
    rcases hf b hb with e | e
    · exact ha s hs (.inl hm) b e hc
    · have := ht.lt s hs b hc
      omega
theorem Sp.mid_front : Sp w (X ++ r :: Y) → Sp w (r :: (X ++ Y)) := fun h => h.perm List.perm_middle
theorem Sp.mid_back : Sp w (r :: (X ++ Y)) → Sp w (X ++ r :: Y) := fun h => h.perm List.perm_middle.symm
theorem Sp.mid (h : Sp w (X ++ r :: Y)) (hm : r.turns) (k : Kp r.foot w w') (hr : r'.holds w') (hf : ∀ b, r'.foot b → r.foot b ∨ w.heap.size ≤ b) : Sp w' (X ++ r' :: Y) :=
  (h.mid_front.turn hm k hr hf).mid_back
/-- one more thing, which lies apart from all -/
theorem Sp.add (h : Sp w L) (hr : r.holds w) (ha : ∀ b, r.foot b → ∀ s ∈ L, ¬ s.foot b) : Sp w (r :: L) := by
  refine ⟨?_, ?_⟩
  · intro s hs
    rcases List.mem_cons.mp hs with rfl | hs
    · exact hr
    · exact h.all s hs
  · rw [List.pairwise_cons]
    exact ⟨fun s hs _ b hb hc => ha b hb s hs hc, h.sep⟩
/-- what is owned is only read from here on -/
theorem Sp.weak (h : Sp w (r :: L)) (hm : r.turns) (hr : r'.holds w) (hf : ∀ b, r'.foot b → r.foot b) : Sp w (r' :: L) :=
  h.turn hm (Kp.refl w) hr fun b hb => .inl (hf b hb)
/-- what is only read is read in two ways -/
theorem Sp.twice (h : Sp w (r :: L)) (hn : ¬ r.turns) (hn' : ¬ r'.turns) (hr : r'.holds w) (hf : ∀ b, r'.foot b → r.foot b) : Sp w (r' :: r :: L) := by
  have ha := h.away
  refine ⟨?_, ?_⟩
  · intro s hs
    rcases List.mem_cons.mp hs with rfl | hs
    · exact hr
    · exact h.all s hs
  · rw [List.pairwise_cons]
    refine ⟨fun s hs hm b hb hc => ?_, h.sep⟩
    rcases List.mem_cons.mp hs with rfl | hs
    · exact hm.elim hn' hn
    · exact ha s hs (.inr (hm.resolve_left hn')) b (hf b hb) hc
end

/-- all of it lies in a set -/
def In (S : Nat → Prop) (L : List Res) : Prop := ∀ r ∈ L, ∀ b, r.foot b → S b
theorem In.cons {S : Nat → Prop} {r : Res} {L : List Res} (h : In S L) (hr : ∀ b, r.foot b → S b) : In S (r :: L) := by
  intro s hs
  rcases List.mem_cons.mp hs with rfl | hs
  · exact hr
  · exact h s hs
theorem In.tail {S : Nat → Prop} {r : Res} {L : List Res} (h : In S (r :: L)) : In S L := fun s hs => h s (List.mem_cons_of_mem _ hs)
theorem In.perm {S : Nat → Prop} {L L' : List Res} (h : In S L) (p : L.Perm L') : In S L' := fun s hs => h s (p.mem_iff.mpr hs)
theorem In.mid {S : Nat → Prop} {X Y : List Res} {r r' : Res} (h : In S (X ++ r :: Y)) (hr : ∀ b, r'.foot b → S b) : In S (X ++ r' :: Y) :=
  ((h.perm List.perm_middle).tail.cons hr).perm List.perm_middle.symm
theorem In.mono {S T : Nat → Prop} {L : List Res} (h : In S L) (hT : ∀ b, S b → T b) : In T L := fun r hr b hb => hT b (h r hr b hb)

/-- rows, what they read as, as they are appended to -/
theorem row_rd {w : World} {e : TypeId} {sz n c : Nat} {A : Option Addr} {xs : List Value} (h : (Res.row e sz (.slice A n c) n xs).holds w) : Rd w sz A n xs := Rd.of_own h
theorem own_foot {A : Option Addr} {n c b : Nat} (h : (Value.slice A n c).ownBlock = some b) : ∃ ad, A = some ad ∧ ad.block = b := by
  cases A with
  | none => cases h
  | some ad => exact ⟨ad, rfl, by simpa [Value.ownBlock] using h⟩

/-! ### an append, told exactly: in its own block, or to new memory -/
structure Ap (w w' : World) (e : TypeId) (sz : Nat) (v v' : Value) (n m : Nat) (xs news : List Value) : Prop where
  own : w'.ownsRow 0 e sz v' (n + m) (xs ++ news)
  how : (∃ b c, v = .slice (some ⟨b, 0, none⟩) n c ∧ v' = .slice (some ⟨b, 0, none⟩) (n + m) c ∧ w.grownBy w' (some b)) ∨ (Ext w w' ∧ ∀ b, v'.ownBlock = some b → w.heap.size ≤ b)
theorem Ap.kp {w w' : World} {e : TypeId} {sz : Nat} {v v' : Value} {n m : Nat} {xs news : List Value} (h : Ap w w' e sz v v' n m xs news) : Kp (fun b => v.ownBlock = some b) w w' := by
  rcases h.how with ⟨b, c, rfl, rfl, hg⟩ | ⟨hE, _⟩
  · refine Kp.grown (Kp.refl w) hg fun k hk => .inl ?_
    injection hk with hk
    rw [hk]; rfl
  · exact Kp.of_ext hE
theorem Ap.foot {w w' : World} {e : TypeId} {sz : Nat} {v v' : Value} {n m : Nat} {xs news : List Value} (h : Ap w w' e sz v v' n m xs news) : ∀ b, v'.ownBlock = some b → v.ownBlock = some b ∨ w.heap.size ≤ b := by
  intro b hb
  rcases h.how with ⟨b, c, rfl, rfl, hg⟩ | ⟨_, hn⟩
  · exact .inl hb
  · exact .inr (hn b hb)
theorem Sp.app {w w' : World} {X Y : List Res} {e : TypeId} {sz : Nat} {v v' : Value} {n m : Nat} {xs news : List Value} (h : Sp w (X ++ .row e sz v n xs :: Y)) (a : Ap w w' e sz v v' n m xs news) :
    Sp w' (X ++ .row e sz v' (n + m) (xs ++ news) :: Y) := h.mid trivial a.kp a.own a.foot

theorem run_app2 {P : Program} (w : World) (t ty e : TypeId) (i : TypeInfo) (z : Value) (sz bytes : Nat) (ht : P.underlying t = some (.slice e)) (hi : P.info? e = some i) (hz : i.zero = some z)
    (hsize : i.size = sz) (hby : i.bytes = bytes) (hzs : z.cells.size = sz) (hsz : 0 < sz)
    (v : Value) (n : Nat) (xs : List Value) (hown : w.ownsRow 0 e sz v n xs)
    (ad : Addr) (m c : Nat) (news : List Value) (hr : Rd w sz (some ad) m news) (h1 : ∀ u ∈ news, u.oneCell' = true)
    (hbytes : (n + m) * bytes ≤ 140737488355328) (hby0 : 0 < bytes) :
    ∃ v' w', (Builtin.append_ #[t, t] ty #[v, .slice (some ad) m c]).run P w = .ok v' w' ∧ Ap w w' e sz v v' n m xs news := by
  have h63 : n + m ≤ maxLen := by
    have : (n + m) * 1 ≤ (n + m) * bytes := Nat.mul_le_mul_left _ hby0
    unfold maxLen; omega
  have hcells : ∀ j u, news[j]? = some u → w.cell? (ad.add j) = some u := fun j u hu => hr.cells j u hu
  rcases hown.2 with ⟨rfl, rfl⟩ | ⟨g, cap, cur, rfl, hb, hh, hnc, hm, _⟩
  · obtain ⟨v', w', hrun, h2, h3, _, h5⟩ := run_append_own_at (P := P) w 0 t ty e i z sz bytes ht hi hz hsize hby hzs hsz _ 0 xs hown ad m c news hr.1 hcells h1 h63 hbytes (Nat.zero_le _)
    refine ⟨v', w', hrun, h2, .inr ⟨⟨h3.os, h3.tape, h3.output, h3.size, fun i hi => h3.block i hi (by simp [Value.ownBlock])⟩, fun b hb => ?_⟩⟩
    rcases h5 with h5 | h5
    · rw [h5] at hb; cases hb
    · rw [h5] at hb; injection hb with hb; omega
  · by_cases hroom : n + m ≤ cap
    · obtain ⟨w', hrun, h2, h3⟩ := run_append_fits (P := P) w 0 t ty e i sz ht hi hsize g n cap xs hown ad m c news hr.1 hcells h1 hroom
      exact ⟨_, w', hrun, h2, .inl ⟨g, cap, rfl, rfl, h3⟩⟩
    · have hrd := Rd.of_own hown
      obtain ⟨v', w', hrun, h2, h3⟩ := run_append_arg_grows (P := P) w t ty e i z sz bytes ht hi hz hsize hby hzs hsz ⟨g, 0, none⟩ n cap xs hrd.1 (fun j u hu => hrd.cells j u hu) ad m c news hr.1 hcells (by omega) h63 hbytes
      exact ⟨v', w', hrun, own_base h2 (Nat.zero_le _), .inr ⟨⟨h3.os, h3.tape, h3.output, h3.size, fun i hi => h3.block i hi (by simp)⟩, fun b hb => (h2.lt b hb).1⟩⟩

/-- the walk's arm: one element, which lies in a box of its own -/
theorem wl_app2 {P : Program} {w : World} {ops : Array Oper} {rest : List Oper} {dst : Option Tmp} {ty : TypeId} {ps : String} {af : Array Edge} {a : Act} {Q : Exit → Act → World → Prop} (s x : Operand) (t : TypeId)
    (e : TypeId) (i : TypeInfo) (z : Value) (sz bytes : Nat) (ht : P.underlying t = some (.slice e)) (hi : P.info? e = some i) (hz : i.zero = some z)
    (hsize : i.size = sz) (hby : i.bytes = bytes) (hzs : z.cells.size = sz) (hsz : 0 < sz)
    (v : Value) (n : Nat) (xs : List Value) (hs : a.eval s = v) (hown : w.ownsRow 0 e sz v n xs)
    (ad : Addr) (m c : Nat) (news : List Value) (hx : a.eval x = .slice (some ad) m c) (hr : Rd w sz (some ad) m news) (h1 : ∀ u ∈ news, u.oneCell' = true)
    (hbytes : (n + m) * bytes ≤ 140737488355328) (hby0 : 0 < bytes)
    (h : ∀ v' w', Ap w w' e sz v v' n m xs news → wpList P ops Q rest (a.put dst v') w') :
    wpList P ops Q (⟨dst, .call { callee := .builtin .append, args := #[s, x], argTypes := #[t, t] }, ty, ps, af, none⟩ :: rest) a w :=
  wpList_plain rfl fun _ hK => by
    obtain ⟨v', w', hrun, h2⟩ := run_app2 (P := P) w t ty e i z sz bytes ht hi hz hsize hby hzs hsz v n xs hown ad m c news hr h1 hbytes hby0
    unfold Oper.wp execOp
    simp only [resolve, invoke, builtin, Sem.run_bind, Sem.run_pure, Result.andThen_ok, List.map_toArray, List.map_cons, List.map_nil, hs, hx, hrun]
    exact hK _ _ (h v' w' h2)

/-- the same in a region that draws -/
theorem step_app2 {P : Program} {w : World} {ops : Array Oper} {o : Oper} {a : Act} {K : Act → World → Prop} {Q : Exit → Act → World → Prop} {E : Prop} (hgd : o.guard = none) (s x : Operand) (t : TypeId)
    (ho : o.op = .call { callee := .builtin .append, args := #[s, x], argTypes := #[t, t] })
    (e : TypeId) (i : TypeInfo) (z : Value) (sz bytes : Nat) (ht : P.underlying t = some (.slice e)) (hi : P.info? e = some i) (hz : i.zero = some z)
    (hsize : i.size = sz) (hby : i.bytes = bytes) (hzs : z.cells.size = sz) (hsz : 0 < sz)
    (v : Value) (n : Nat) (xs : List Value) (hs : a.eval s = v) (hown : w.ownsRow 0 e sz v n xs)
    (ad : Addr) (m c : Nat) (news : List Value) (hx : a.eval x = .slice (some ad) m c) (hr : Rd w sz (some ad) m news) (h1 : ∀ u ∈ news, u.oneCell' = true)
    (hbytes : (n + m) * bytes ≤ 140737488355328) (hby0 : 0 < bytes)
    (h : ∀ v' w', Ap w w' e sz v v' n m xs news → K (a.put o.dst v') w') :
    if Region.wanted o (yielded ops a.tmps) = true then Oper.wp P o a w K Q else E := by
  have hw : Region.wanted o (yielded ops a.tmps) = true := by simp [Region.wanted, hgd]
  rw [if_pos hw]
  obtain ⟨v', w', hrun, h2⟩ := run_app2 (P := P) w t o.type e i z sz bytes ht hi hz hsize hby hzs hsz v n xs hown ad m c news hr h1 hbytes hby0
  unfold Oper.wp execOp
  simp only [ho, resolve, invoke, builtin, Sem.run_bind, Sem.run_pure, Result.andThen_ok, List.map_toArray, List.map_cons, List.map_nil, hs, hx, hrun]
  exact h v' w' h2

/-- one cell in a box of its own -/
theorem Rd.cell1 (w : World) (x : Value) (t : TypeId) : Rd (w.alloc (.cells #[x] t)) 1 (some ⟨w.heap.size, 0, none⟩) 1 [x] :=
  ⟨rfl, fun _ => ⟨_, rfl, fun j u hu => by
    have e : (⟨w.heap.size, 0, none⟩ : Addr).add j = ⟨w.heap.size, j, none⟩ := by unfold Addr.add; split <;> simp_all
    rw [e, (Blk.new w t #[x]).cell j]
    simpa using hu⟩⟩

/-- what a walk knows: things apart, in a set that holds all new memory; nothing else has turned -/
structure Bs (w0 w : World) (S : Nat → Prop) (L : List Res) : Prop where
  sp : Sp w L
  in_ : In S L
  kp : Kp S w0 w
section
variable {w0 w w' : World} {S : Nat → Prop} {X Y L : List Res} {r r' : Res}
theorem Bs.ext (h : Bs w0 w S L) (k : Ext w w') : Bs w0 w' S L := ⟨h.sp.ext k, h.in_, h.kp.then_ext k⟩
theorem Bs.drew (h : Bs w0 w S L) : Bs w0 w.drew S L := h.ext (Ext.refl w).drew
theorem Bs.alloc (h : Bs w0 w S L) (o : Obj) : Bs w0 (w.alloc o) S L := h.ext (Ext.new w o)
theorem Bs.perm {L' : List Res} (h : Bs w0 w S L) (p : L.Perm L') : Bs w0 w S L' := ⟨h.sp.perm p, h.in_.perm p, h.kp⟩
theorem Bs.mid (h : Bs w0 w S (X ++ r :: Y)) (hm : r.turns) (k : Kp r.foot w w') (hr : r'.holds w') (hf : ∀ b, r'.foot b → r.foot b ∨ w.heap.size ≤ b) (hS : ∀ b, w0.heap.size ≤ b → S b) : Bs w0 w' S (X ++ r' :: Y) := by
  have hin : ∀ b, r.foot b → S b := fun b hb => h.in_ r (by simp) b hb
  refine ⟨h.sp.mid hm k hr hf, h.in_.mid fun b hb => ?_, h.kp.trans k fun i _ e => hin i e⟩
  rcases hf b hb with e | e
  · exact hin b e
  · exact hS b (Nat.le_trans h.kp.size e)
theorem Bs.app {e : TypeId} {sz : Nat} {v v' : Value} {n m : Nat} {xs news : List Value} (h : Bs w0 w S (X ++ .row e sz v n xs :: Y)) (a : Ap w w' e sz v v' n m xs news) (hS : ∀ b, w0.heap.size ≤ b → S b) :
    Bs w0 w' S (X ++ .row e sz v' (n + m) (xs ++ news) :: Y) := h.mid trivial a.kp a.own a.foot hS
theorem Bs.set {g : Nat} {t : TypeId} {cs : Array Value} (h : Bs w0 w S (X ++ .blk g t cs :: Y)) (i : Nat) (u : Value) (hS : ∀ b, w0.heap.size ≤ b → S b) : Bs w0 (w.setCell ⟨g, i, none⟩ u) S (X ++ .blk g t (cs.setIfInBounds i u) :: Y) := by
  have hb : Blk w g t cs := h.sp.at_
  exact h.mid (r' := .blk g t (cs.setIfInBounds i u)) trivial (Kp.set (S := (Res.blk g t cs).foot) (Kp.refl w) ⟨g, i, none⟩ (.inl rfl) u) (hb.set_ i u) (fun b hb => .inl hb) hS
/-- an append to new memory: the old row is only read from here on -/
theorem Bs.moved {e : TypeId} {sz : Nat} {v v' : Value} {n m : Nat} {xs ys : List Value} (h : Bs w0 w S (X ++ .row e sz v n xs :: Y)) (hr : r.holds w) (hrf : ∀ b, r.foot b → v.ownBlock = some b) (k : Ext w w') (ho : w'.ownsRow 0 e sz v' m ys) (hn : ∀ b, v'.ownBlock = some b → w.heap.size ≤ b) (hS : ∀ b, w0.heap.size ≤ b → S b) :
    Bs w0 w' S (X ++ .row e sz v' m ys :: r :: Y) := by
  have h1 : Bs w0 w S (.row e sz v n xs :: (X ++ Y)) := h.perm List.perm_middle
  have h2 : Sp w (r :: (X ++ Y)) := h1.sp.weak trivial hr fun b hb => hrf b hb
  have h3 : Sp w' (.row e sz v' m ys :: r :: (X ++ Y)) := by
    refine (h2.ext k).add (r := .row e sz v' m ys) ho fun b hb s hs hc => ?_
    have := h2.lt s hs b hc
    have := hn b hb
    omega
  have hi : In S (Res.row e sz v' m ys :: r :: (X ++ Y)) := by
    refine (h1.in_.tail.cons fun b hb => h1.in_ (.row e sz v n xs) (by simp) b (hrf b hb)).cons fun b hb => ?_
    exact hS b (Nat.le_trans h.kp.size (hn b hb))
  have p : (Res.row e sz v' m ys :: r :: (X ++ Y)).Perm (X ++ .row e sz v' m ys :: r :: Y) :=
    ((List.perm_middle (l₁ := X) (a := r) (l₂ := Y)).symm.cons _).trans List.perm_middle.symm
  exact ⟨h3.perm p, hi.perm p, h.kp.then_ext k⟩
/-- a row is only read from here on -/
theorem Bs.weak (h : Bs w0 w S (X ++ r :: Y)) (hm : r.turns) (hr : r'.holds w) (hf : ∀ b, r'.foot b → r.foot b) : Bs w0 w S (X ++ r' :: Y) := by
  refine ⟨h.sp.mid hm (Kp.refl w) hr fun b hb => .inl (hf b hb), h.in_.mid fun b hb => h.in_ r (by simp) b (hf b hb), h.kp⟩
theorem Bs.twice (h : Bs w0 w S (X ++ r :: Y)) (hn : ¬ r.turns) (hn' : ¬ r'.turns) (hr : r'.holds w) (hf : ∀ b, r'.foot b → r.foot b) : Bs w0 w S (X ++ r' :: r :: Y) := by
  have h1 : Bs w0 w S (r :: (X ++ Y)) := h.perm List.perm_middle
  have p : (r' :: r :: (X ++ Y)).Perm (X ++ r' :: r :: Y) := ((List.perm_middle (l₁ := X) (a := r) (l₂ := Y)).symm.cons _).trans List.perm_middle.symm
  exact ⟨(h1.sp.twice hn hn' hr hf).perm p, (h1.in_.cons fun b hb => h1.in_ r (by simp) b (hf b hb)).perm p, h.kp⟩
end

end Go.Proofs.Ytfcbedkidjclhaa
