/-
  The book's write: all that lies untouched is written over, then grown.
  Conditions: as named.
-/
import Derived.Test.YtfcbedkidjclhaaBook1
import Derived.Deep.RegionLaw
namespace Go.Proofs.Ytfcbedkidjclhaa
open Go.RowKit
set_option maxRecDepth 100000
set_option linter.unusedSimpArgs false
set_option linter.unusedVariables false

def Hdr (g : Nat) (cnt tot : Int) (vF vW vK vN : Value) (G : List BF) (K : List BK) : List Res :=
  [.blk g 33 #[.int .i64 cnt, .int .i64 tot, vF, vW, vK, vN, .bool false], .row 22 1 vF G.length (G.map BF.v), .row 22 1 vW G.length (G.map BF.u), .row 22 1 vK K.length (K.map BK.v), .row 3 1 vN K.length (K.map BK.num)]

/-- written over, with the mark of a list's number -/
def BF.mk' (q : Nat) (r : BF) : BF := ⟨r.A, r.c, Bms q r.l.length, r.B, r.d⟩
def mkd : Nat → List BF → List BF
  | _, [] => []
  | q, r :: t => r.mk' q :: mkd (q + 1) t
theorem mkd_length : ∀ (q : Nat) (F : List BF), (mkd q F).length = F.length
  | _, [] => rfl
  | q, r :: t => by simp [mkd, mkd_length (q + 1) t]
theorem mkd_snoc : ∀ (q : Nat) (F : List BF) (r : BF), mkd q (F ++ [r]) = mkd q F ++ [r.mk' (q + F.length)]
  | q, [], r => rfl
  | q, x :: t, r => by
    rw [List.cons_append, mkd, mkd_snoc (q + 1) t r, List.length_cons]
    rw [show q + 1 + t.length = q + (t.length + 1) by omega]
    rfl
theorem mk_v (q : Nat) (r : BF) : (r.mk' q).v = r.v := by simp [BF.mk', BF.v, Bms_length]

/-- the list that is being written over -/
def part (q j : Nat) (r : BF) : Res := .row 5 1 r.v r.l.length (bv (Bms q j ++ r.l.drop j))
theorem part_zero (q : Nat) (r : BF) : part q 0 r = r.row := by simp [part, BF.row, Bms]
theorem part_full (q : Nat) (r : BF) : part q r.l.length r = (r.mk' q).row := by
  simp [part, BF.row, BF.mk', BF.v, Bms_length]
theorem part_len (q j : Nat) (r : BF) (h : j ≤ r.l.length) : (Bms q j ++ r.l.drop j).length = r.l.length := by
  rw [List.length_append, Bms_length, List.length_drop]; omega
theorem part_set (q j : Nat) (r : BF) (h : j < r.l.length) : (Bms q j ++ r.l.drop j).set j (Bm q j) = Bms q (j + 1) ++ r.l.drop (j + 1) := by
  rw [List.set_append_right _ _ (by rw [Bms_length]; omega), Bms_length, Nat.sub_self, List.drop_eq_getElem_cons h, Bms_succ, List.set_cons_zero]
  simp

theorem own_is {w : World} {base n : Nat} {e : TypeId} {sz : Nat} {v : Value} {xs : List Value} (h : w.ownsRow base e sz v n xs) (hn : 0 < n) : ∃ g c, v = .slice (some ⟨g, 0, none⟩) n c ∧ n ≤ c ∧ base ≤ g := by
  rcases h.2 with ⟨h1, h0⟩ | ⟨g, cap, cur, hv, h2, h3, h4, _⟩
  · omega
  · exact ⟨g, cap, hv, h4, h2⟩
/-- a row's slice, with what lies at a place -/
theorem row_cell {w : World} {e : TypeId} {v : Value} {n : Nat} {xs : List Value} (h : (Res.row e 1 v n xs).holds w) {j : Nat} (hj : j < n) :
    ∃ g c, v = .slice (some ⟨g, 0, none⟩) n c ∧ n ≤ c ∧ ∃ x, xs[j]? = some x ∧ w.cell? ⟨g, j, none⟩ = some x ∧ w.frozen? ⟨g, j, none⟩ = false := by
  have h' : w.ownsRow 0 e 1 v n xs := h
  obtain ⟨g, c, rfl, hc, -⟩ := own_is h' (by omega)
  have hl : j < xs.length := by have := h'.1; omega
  refine ⟨g, c, rfl, hc, xs[j], List.getElem?_eq_getElem hl, ?_, ?_⟩
  · rw [World.ownsRow.cellAt h' j (by omega)]
    exact List.getElem?_eq_getElem hl
  · rcases h'.2 with ⟨h1, h0⟩ | ⟨g', cap, cur, hv, _, hh, _⟩
    · omega
    · injection hv with e
      injection e with e
      injection e with e
      subst e
      simp [World.frozen?, hh]

theorem blk_of {w : World} {g : Nat} {cnt tot : Int} {vF vW vK vN : Value} {G : List BF} {K : List BK} {Z : List Res} (h : Sp w (Hdr g cnt tot vF vW vK vN G K ++ Z)) :
    Blk w g 33 #[.int .i64 cnt, .int .i64 tot, vF, vW, vK, vN, .bool false] := h.all (.blk g 33 #[.int .i64 cnt, .int .i64 tot, vF, vW, vK, vN, .bool false]) (by simp [Hdr])
theorem rowF_of {w : World} {g : Nat} {cnt tot : Int} {vF vW vK vN : Value} {G : List BF} {K : List BK} {Z : List Res} (h : Sp w (Hdr g cnt tot vF vW vK vN G K ++ Z)) :
    (Res.row 22 1 vF G.length (G.map BF.v)).holds w := h.all _ (by simp [Hdr])
theorem rowW_of {w : World} {g : Nat} {cnt tot : Int} {vF vW vK vN : Value} {G : List BF} {K : List BK} {Z : List Res} (h : Sp w (Hdr g cnt tot vF vW vK vN G K ++ Z)) :
    (Res.row 22 1 vW G.length (G.map BF.u)).holds w := h.all _ (by simp [Hdr])
theorem rowK_of {w : World} {g : Nat} {cnt tot : Int} {vF vW vK vN : Value} {G : List BF} {K : List BK} {Z : List Res} (h : Sp w (Hdr g cnt tot vF vW vK vN G K ++ Z)) :
    (Res.row 22 1 vK K.length (K.map BK.v)).holds w := h.all _ (by simp [Hdr])
theorem rowN_of {w : World} {g : Nat} {cnt tot : Int} {vF vW vK vN : Value} {G : List BF} {K : List BK} {Z : List Res} (h : Sp w (Hdr g cnt tot vF vW vK vN G K ++ Z)) :
    (Res.row 3 1 vN K.length (K.map BK.num)).holds w := h.all _ (by simp [Hdr])
/-- what the box's block is not -/
theorem box_away {w : World} {g : Nat} {cnt tot : Int} {vF vW vK vN : Value} {G : List BF} {K : List BK} {Z : List Res} (h : Sp w (Hdr g cnt tot vF vW vK vN G K ++ Z)) :
    vF.ownBlock ≠ some g ∧ vW.ownBlock ≠ some g ∧ ∀ z ∈ Z, ¬ z.foot g := by
  have ha := Sp.away (r := .blk g 33 #[.int .i64 cnt, .int .i64 tot, vF, vW, vK, vN, .bool false]) h
  refine ⟨fun e => ?_, fun e => ?_, fun z hz e => ?_⟩
  · exact ha (.row 22 1 vF G.length (G.map BF.v)) (by simp) (.inl trivial) g rfl e
  · exact ha (.row 22 1 vW G.length (G.map BF.u)) (by simp) (.inl trivial) g rfl e
  · exact ha z (by simp [hz]) (.inl trivial) g rfl e

abbrev Bst (w0 w : World) (S : Nat → Prop) (g : Nat) (cnt tot : Int) (vF vW vK vN : Value) (G : List BF) (K : List BK) (Z : List Res) : Prop :=
  Bs w0 w S (Hdr g cnt tot vF vW vK vN G K ++ Z)
theorem Bst.z {w0 w w' : World} {S : Nat → Prop} {g : Nat} {cnt tot : Int} {vF vW vK vN : Value} {G : List BF} {K : List BK} {X Y : List Res} {r r' : Res} (h : Bst w0 w S g cnt tot vF vW vK vN G K (X ++ r :: Y)) (hm : r.turns) (k : Kp r.foot w w') (hr : r'.holds w')
    (hf : ∀ b, r'.foot b → r.foot b ∨ w.heap.size ≤ b) (hS : ∀ b, w0.heap.size ≤ b → S b) : Bst w0 w' S g cnt tot vF vW vK vN G K (X ++ r' :: Y) := by
  have h' : Bs w0 w S ((Hdr g cnt tot vF vW vK vN G K ++ X) ++ r :: Y) := by rw [List.append_assoc]; exact h
  have := h'.mid hm k hr hf hS
  rwa [List.append_assoc] at this

theorem part_put {w : World} {q j : Nat} {r : BF} (h : (part q j r).holds w) (hj : j < r.l.length) {g c : Nat} (hv : r.v = .slice (some ⟨g, 0, none⟩) r.l.length c) :
    (part q (j + 1) r).holds (w.setCell ⟨g, j, none⟩ (.int .u8 (((Bm q j).toNat : Nat) : Int))) ∧ Kp (part q j r).foot w (w.setCell ⟨g, j, none⟩ (.int .u8 (((Bm q j).toNat : Nat) : Int))) := by
  have h' : w.ownsRow 0 5 1 r.v r.l.length (bv (Bms q j ++ r.l.drop j)) := h
  refine ⟨?_, ?_⟩
  · show World.ownsRow _ 0 5 1 r.v r.l.length (bv (Bms q (j + 1) ++ r.l.drop (j + 1)))
    rw [hv] at h' ⊢
    have := own_put h' hj (.int .u8 (((Bm q j).toNat : Nat) : Int))
    rwa [bv_set, part_set q j r hj] at this
  · exact (Kp.refl w).set ⟨g, j, none⟩ (.inl (by show r.v.ownBlock = _; rw [hv]; rfl)) _

theorem info22 : (Try.prog.info? 22).map (fun i => (i.zero, i.size, i.bytes)) = some (some (.slice none 0 0), 1, 24) := by kernel_rfl
theorem info3B : (Try.prog.info? 3).map (fun i => (i.zero, i.size, i.bytes)) = some (some (.int .i64 0), 1, 8) := by kernel_rfl
theorem one_sl (A : Option Addr) (n c : Nat) : ∀ u ∈ [Value.slice A n c], u.oneCell' = true := by
  intro u hu
  obtain rfl := List.mem_singleton.mp hu
  rfl
theorem one_int1 (kd : IntKind) (i : Int) : ∀ u ∈ [Value.int kd i], u.oneCell' = true := by
  intro u hu
  obtain rfl := List.mem_singleton.mp hu
  rfl

/-- the list as it was handed out, behind the marks -/
def BF.k (q : Nat) (r : BF) : BK := ⟨r.A, r.l.length, r.c, q⟩
def fks : Nat → List BF → List BK
  | _, [] => []
  | q, r :: t => r.k q :: fks (q + 1) t
theorem fks_length : ∀ (q : Nat) (F : List BF), (fks q F).length = F.length
  | _, [] => rfl
  | q, r :: t => by simp [fks, fks_length (q + 1) t]
theorem fks_snoc : ∀ (q : Nat) (F : List BF) (r : BF), fks q (F ++ [r]) = fks q F ++ [r.k (q + F.length)]
  | q, [], r => rfl
  | q, x :: t, r => by
    rw [List.cons_append, fks, fks_snoc (q + 1) t r, List.length_cons, show q + 1 + t.length = q + (t.length + 1) by omega]
    rfl
theorem mkd_mem : ∀ (q : Nat) (F G1 : List BF) (r : BF) (G2 : List BF), mkd q F = G1 ++ r :: G2 → r.l = Bms (q + G1.length) r.l.length ∧ (∃ r0 ∈ F, r.l.length = r0.l.length) ∧ F[G1.length]?.map BF.v = some r.v
  | q, [], G1, r, G2, h => by cases G1 <;> cases h
  | q, x :: t, [], r, G2, h => by
    rw [mkd] at h
    injection h with h1 h2
    subst h1
    refine ⟨by simp [BF.mk', Bms_length], ⟨x, by simp, by simp [BF.mk', Bms_length]⟩, ?_⟩
    simp [mk_v]
  | q, x :: t, y :: G1, r, G2, h => by
    rw [mkd, List.cons_append] at h
    injection h with h1 h2
    obtain ⟨i1, ⟨r0, i2, i3⟩, i4⟩ := mkd_mem (q + 1) t G1 r G2 h2
    refine ⟨?_, ⟨r0, List.mem_cons_of_mem _ i2, i3⟩, ?_⟩
    · rw [List.length_cons, show q + (G1.length + 1) = q + 1 + G1.length by omega]
      exact i1
    · rw [List.length_cons, List.getElem?_cons_succ]
      exact i4

/-- where the list as it was handed out is told: beside the grown one, or in it -/
def Grw (A : Option Addr) (n q m : Nat) (v : Value) (E : List Res) : Prop :=
  E = [.rd 1 A n (bv (Bms q n))] ∨ (E = [] ∧ ∃ b c, A = some ⟨b, 0, none⟩ ∧ v = .slice (some ⟨b, 0, none⟩) m c)
theorem Bms_take (q : Nat) {n m : Nat} (h : n ≤ m) : (Bms q m).take n = Bms q n := by
  unfold Bms
  rw [← List.map_take, List.take_range, Nat.min_eq_left h]
theorem gr_rd {w : World} {n m q c : Nat} {A : Option Addr} (h : Rd w 1 A m (bv (Bms q m))) (hn : n ≤ m) : (Res.rd 1 A n (bv (Bms q n))).holds w := by
  refine ⟨by omega, ?_⟩
  have := h.take hn
  rwa [Nat.mul_one, bv_take, Bms_take q hn] at this
theorem gr_step {w0 w w2 : World} {S : Nat → Prop} {X Y E : List Res} {A : Option Addr} {n q m : Nat} {v v2 : Value} {o : Obj} (hB : Bs w0 w S (X ++ .row 5 1 v m (bv (Bms q m)) :: (E ++ Y))) (hA : Ap (w.alloc o) w2 5 1 v v2 m 1 (bv (Bms q m)) [.int .u8 (((Bm q m).toNat : Nat) : Int)])
    (hE : Grw A n q m v E) (hn : n ≤ m) (hS : ∀ b, w0.heap.size ≤ b → S b) : ∃ E', Bs w0 w2 S (X ++ .row 5 1 v2 (m + 1) (bv (Bms q (m + 1))) :: (E' ++ Y)) ∧ Grw A n q (m + 1) v2 E' := by
  have hs : bv (Bms q m) ++ [.int .u8 (((Bm q m).toNat : Nat) : Int)] = bv (Bms q (m + 1)) := by rw [Bms_succ]; simp [bv]
  have hB' := hB.alloc o
  have ho : w2.ownsRow 0 5 1 v2 (m + 1) (bv (Bms q (m + 1))) := by
    have := hA.own
    rwa [hs] at this
  have ha : Bs w0 w2 S (X ++ .row 5 1 v2 (m + 1) (bv (Bms q (m + 1))) :: (E ++ Y)) := hB'.mid trivial hA.kp ho hA.foot hS
  rcases hE with rfl | ⟨rfl, b, c, rfl, rfl⟩
  · exact ⟨_, ha, .inl rfl⟩
  · rcases hA.how with ⟨b', c', h1, h2, _⟩ | ⟨hX, hnew⟩
    · injection h1 with h1 _ h3
      injection h1 with h1
      injection h1 with h1
      subst h1
      subst h3
      exact ⟨[], ha, .inr ⟨rfl, b, c, rfl, h2⟩⟩
    · refine ⟨[.rd 1 (some ⟨b, 0, none⟩) n (bv (Bms q n))], ?_, .inl rfl⟩
      have hrow : (Res.row 5 1 (.slice (some ⟨b, 0, none⟩) m c) m (bv (Bms q m))).holds (w.alloc o) := hB'.sp.all _ (by simp)
      refine Bs.moved (Y := Y) hB' (gr_rd (c := c) (Rd.of_own hrow) hn) ?_ hX ho hnew hS
      rintro b' ⟨_, ad, h1, rfl⟩
      injection h1 with h1
      subst h1
      rfl
/-- the grown list, and the one that was handed out, are only read from here on -/
theorem gr_end {w0 w : World} {S : Nat → Prop} {X P E Z : List Res} {A : Option Addr} {n q m : Nat} {v : Value} (hB : Bs w0 w S (X ++ .row 5 1 v m (bv (Bms q m)) :: (E ++ (P ++ Z)))) (hE : Grw A n q m v E) (hn : n ≤ m) :
    ∃ A' c', v = .slice A' m c' ∧ Bs w0 w S (X ++ (P ++ (.rd 1 A n (bv (Bms q n)) :: (BK.mk A' m c' q).rd :: Z))) := by
  have hrow : (Res.row 5 1 v m (bv (Bms q m))).holds w := hB.sp.all _ (by simp)
  obtain ⟨A', c', rfl, -, hR⟩ := row_some hrow
  refine ⟨A', c', rfl, ?_⟩
  have hw : Bs w0 w S (X ++ (BK.mk A' m c' q).rd :: (E ++ (P ++ Z))) := hB.weak trivial ⟨by omega, hR⟩ (by
    rintro b ⟨_, ad, h1, rfl⟩
    simp only [Res.foot]
    subst h1
    rfl)
  have hp : ∀ a b : Res, (X ++ a :: b :: (P ++ Z)).Perm (X ++ (P ++ (a :: b :: Z))) := fun a b => by
    refine List.Perm.append_left X ?_
    exact ((List.perm_middle (l₁ := P) (a := b) (l₂ := Z)).symm.cons a).trans (List.perm_middle (l₁ := P) (a := a) (l₂ := b :: Z)).symm
  rcases hE with rfl | ⟨rfl, b, c, rfl, h2⟩
  · refine (hw.perm ?_).perm (hp _ _)
    exact List.Perm.append_left X (List.Perm.swap _ _ _)
  · injection h2 with h2
    subst h2
    refine Bs.perm (Bs.twice (r' := .rd 1 (some ⟨b, 0, none⟩) n (bv (Bms q n))) hw (fun h => h) (fun h => h) (gr_rd (c := c) hR hn) ?_) (hp _ _)
    rintro b' ⟨h3, ad, h1, rfl⟩
    exact ⟨by show 0 < m; omega, ad, h1, rfl⟩
theorem gr_start {w0 w : World} {S : Nat → Prop} {X Y : List Res} {r : BF} {q : Nat} (hB : Bs w0 w S (X ++ r.row :: Y)) (hr : r.l = Bms q r.l.length) :
    ∃ E, Bs w0 w S (X ++ .row 5 1 r.v r.l.length (bv (Bms q r.l.length)) :: (E ++ Y)) ∧ Grw r.A r.l.length q r.l.length r.v E := by
  have hB' : Bs w0 w S (X ++ .row 5 1 r.v r.l.length (bv (Bms q r.l.length)) :: Y) := by
    rw [← hr]; exact hB
  rcases Nat.eq_zero_or_pos r.l.length with h0 | h0
  · refine ⟨_, ?_, .inl rfl⟩
    rw [h0] at hB' ⊢
    have p : ((Res.rd 1 r.A 0 (bv (Bms q 0))) :: (X ++ .row 5 1 r.v 0 (bv (Bms q 0)) :: Y)).Perm (X ++ .row 5 1 r.v 0 (bv (Bms q 0)) :: ([.rd 1 r.A 0 (bv (Bms q 0))] ++ Y)) := by
      refine List.perm_middle.symm.trans (List.Perm.append_left X (List.Perm.swap _ _ _))
    have hf : ∀ b, ¬ (Res.rd 1 r.A 0 (bv (Bms q 0))).foot b := by
      rintro b ⟨h1, _⟩
      omega
    refine Bs.perm ⟨hB'.sp.add (r := .rd 1 r.A 0 (bv (Bms q 0))) ⟨by omega, by simpa [Bms, bv] using Rd.zero⟩ (fun b hb => absurd hb (hf b)), hB'.in_.cons fun b hb => absurd hb (hf b), hB'.kp⟩ p
  · have hrow : (Res.row 5 1 r.v r.l.length (bv (Bms q r.l.length))).holds w := hB'.sp.all _ (by simp)
    obtain ⟨g, c, hv, _⟩ := own_is (hrow : w.ownsRow 0 5 1 _ _ _) h0
    refine ⟨[], hB', .inr ⟨rfl, g, c, ?_, hv⟩⟩
    have : (Value.slice r.A r.l.length r.c) = _ := hv
    injection this

theorem fks_mkd : ∀ {F : List BF} {q a k : Nat} {r : BF}, F[k]? = some r → (BK.mk r.A r.l.length r.c (q + k)) ∈ fks q (mkd a F)
  | [], q, a, k, r, h => by simp at h
  | x :: t, q, a, 0, r, h => by
    have h : x = r := by simpa using h
    subst h
    simp [mkd, fks, BF.k, BF.mk', Bms_length]
  | x :: t, q, a, k + 1, r, h => by
    have h : t[k]? = some r := by simpa using h
    have := fks_mkd (q := q + 1) (a := a + 1) h
    rw [show q + 1 + k = q + (k + 1) by omega] at this
    exact List.mem_cons_of_mem _ this

def L2 (w wr : World) (S : Nat → Prop) (g : Nat) (cnt tot : Int) (vF vW : Value) (F gF : List BF) (K : List BK) (nK nF : Nat) (G1 : List BF) : Prop :=
  ∃ (G2 : List BF) (K' : List BK) (vK vN : Value) (Z' : List Res), gF = G1 ++ G2 ∧ Bst w wr S g cnt tot vF vW vK vN F K' (G2.map BF.row ++ Z') ∧ K'.length = nK + G1.length ∧ Hid ((∀ z ∈ Z', ¬ z.turns) ∧ (∀ k ∈ K', k.rd ∈ Z') ∧ (∀ k ∈ fks nK G1, k.rd ∈ Z') ∧ (∀ k ∈ K', k ∈ K ∨ (k.n ≤ 1000004070 ∧ k.q ≤ nK + nF)))

def L3 (w wr : World) (S : Nat → Prop) (g : Nat) (cnt tot : Int) (vF vW : Value) (F : List BF) (K : List BK) (nK nF : Nat) (Z' : List Res) (k : Nat) : Prop :=
  ∃ (K' : List BK) (vK vN : Value), Bst w wr S g cnt tot vF vW vK vN F K' Z' ∧ K'.length = nK + nF + k ∧ Hid ((∀ k ∈ K', k.rd ∈ Z') ∧ (∀ k ∈ K', k ∈ K ∨ (k.n ≤ 1000004070 ∧ k.q ≤ nK + nF)))

def BkEnd (w w' : World) (S : Nat → Prop) (g : Nat) (cnt tot : Int) (K : List BK) (nK nF : Nat) (Z' : List Res) : Prop :=
  ∃ (K' : List BK) (vK vN : Value), Bst w w' S g cnt tot (.slice none 0 0) (.slice none 0 0) vK vN [] K' Z' ∧ K'.length = nK + 2 * nF ∧ (∀ k ∈ K', k.rd ∈ Z') ∧ (∀ k ∈ K', k ∈ K ∨ (k.n ≤ 1000004070 ∧ k.q ≤ nK + nF))
theorem nil_row (w : World) (e : TypeId) (sz : Nat) : (Res.row e sz (.slice none 0 0) 0 []).holds w := World.ownsRow_nil w 0 e sz
theorem end_rows {w0 w : World} {S : Nat → Prop} {a : Res} {e1 e2 : TypeId} {v1 v2 : Value} {n1 n2 : Nat} {x1 x2 : List Value} {L : List Res} (h : Bs w0 w S (a :: .row e1 1 v1 n1 x1 :: .row e2 1 v2 n2 x2 :: L)) :
    Bs w0 w S (a :: .row e1 1 (.slice none 0 0) 0 [] :: .row e2 1 (.slice none 0 0) 0 [] :: L) := by
  have h1 := Bs.weak (X := [a]) (r' := .row e1 1 (.slice none 0 0) 0 []) h trivial (nil_row w e1 1) (fun b hb => by cases hb)
  exact Bs.weak (X := [a, .row e1 1 (.slice none 0 0) 0 []]) (r' := .row e2 1 (.slice none 0 0) 0 []) h1 trivial (nil_row w e2 1) (fun b hb => by cases hb)

set_option maxHeartbeats 4000000 in
theorem write_any (w : World) (g : Nat) (cnt : Int) (tot : Nat) (F : List BF) (K : List BK) (vF vW vK vN : Value) (Z : List Res) (S : Nat → Prop) (h : Bst w w S g cnt tot vF vW vK vN F K (F.map BF.row ++ Z))
    (hZ : ∀ z ∈ Z, ¬ z.turns) (hW : ∀ r ∈ F, r.was ∈ Z) (hK : ∀ k ∈ K, k.rd ∈ Z) (hS : ∀ b, w.heap.size ≤ b → S b) (hnF : F.length ≤ 1000) (hnK : K.length ≤ 100000) (hl : ∀ r ∈ F, r.l.length ≤ 1000000000) (ht : tot ≤ 1000000000000000) :
    Calls Try.prog 78 #[.pointer (some ⟨g, 0, none⟩)] w fun e w' => e = .returned (.tuple #[]) ∧ ∃ Z' : List Res, (∀ z ∈ Z', ¬ z.turns) ∧ BkEnd w w' S g cnt tot K K.length F.length Z' := by
  have HZ := hd hZ
  have HW := hd hW
  have HK := hd hK
  have HS := hd hS
  have HL := hd hl
  clear hZ hW hK hS hl
  go_enter Try.func78, Try.ntmps78
  go_upto_region 1 with (go_at_call 113; (with_reducible refine (look_any w g cnt tot F vF vW vK vN F.length rfl (blk_of h.sp) (rowF_of h.sp) (rowW_of h.sp) (box_away h.sp).1 (box_away h.sp).2.1 ?_ ?_ (by omega)).mono ?_); (intro r hr; exact ⟨h.sp.all r.row (List.mem_append_right _ (List.mem_append_left _ (List.mem_map_of_mem hr))), fun e => (box_away h.sp).2.2 r.row (List.mem_append_left _ (List.mem_map_of_mem hr)) e⟩); (intro r hr; exact ⟨h.sp.all r.was (List.mem_append_right _ (List.mem_append_right _ (HW.out r hr))), (box_away h.sp).2.2 r.was (List.mem_append_right _ (HW.out r hr))⟩); rintro e w1 ⟨rfl, hK1, hB1⟩)
  have h1 : Bst w w1 S g cnt tot vF vW vK vN F K (F.map BF.row ++ Z) := by
    exact Bs.mid (X := []) (r := .blk g 33 #[.int .i64 cnt, .int .i64 tot, vF, vW, vK, vN, .bool false]) h trivial hK1 hB1 (fun b hb => .inl hb) HS.out
  clear hK1 hB1 h
  obtain ⟨aK, cK, rfl, -⟩ := row_some (rowK_of h1.sp)
  obtain ⟨aF, cF, rfl, -⟩ := row_some (rowF_of h1.sp)
  obtain ⟨p0, p1, p2, p3, p4, p5, p6⟩ := (blk_of h1.sp).c7
  obtain ⟨nF, hnF'⟩ : ∃ nF, F.length = nF := ⟨_, rfl⟩
  obtain ⟨nK, hnK'⟩ : ∃ nK, K.length = nK := ⟨_, rfl⟩
  rw [hnF'] at p2 hnF
  rw [hnK'] at p4 hnK
  have HNF := hd hnF'
  have HNK := hd hnK'
  clear hnF' hnK'
  go_wp2
  clear p0 p1 p2 p3 p4 p5 p6
  go_loopw [3, 4, 5] (fun i q j wr => ∃ F1 F2 : List BF, F = F1 ++ F2 ∧ i = .int .i64 (F1.length : Int) ∧ Bst w wr S g cnt tot (.slice aF F.length cF) vW (.slice aK K.length cK) vN F K ((mkd nK F1).map BF.row ++ (F2.map BF.row ++ Z))) (fun i _ _ _ => nF - (intOf i).toNat)
  case atStart => exact ⟨[], F, rfl, rfl, h1⟩
  case round =>
    obtain ⟨F1, F2, hFF, rfl, hB⟩ := hrel
    have HFF := hd hFF
    have hk : F1.length ≤ nF := by have := HNF.out; rw [hFF] at this; simp at this; omega
    clear hFF h1
    obtain ⟨p0, p1, p2, p3, p4, p5, p6⟩ := (blk_of hB.sp).c7
    rw [HNF.out] at p2
    by_cases hlt : F1.length < nF
    · have e1 : (F1.length : Int) < (nF : Int) := by omega
      cases F2 with
      | nil => exact absurd hlt (by have := HNF.out; rw [HFF.out] at this; simp at this; omega)
      | cons r F2 =>
      go_wp2
      clear p0 p1 p2 p3 p4 p5 p6
      obtain ⟨wo, rfl⟩ : ∃ wo : World, wo = wr := ⟨_, rfl⟩
      obtain ⟨k, hkn⟩ : ∃ k, F1.length = k := ⟨_, rfl⟩
      rw [hkn] at hlt e1 hk ⊢
      have HKN := hd hkn
      have hrl : r.l.length ≤ 1000000000 := HL.out r (by rw [HFF.out]; simp)
      obtain ⟨n, hn⟩ : ∃ n, r.l.length = n := ⟨_, rfl⟩
      rw [hn] at hrl
      have HN := hd hn
      clear hkn hn
      go_loopw [5] (fun j wr => ∃ jj : Nat, j = .int .i64 (jj : Int) ∧ jj ≤ n ∧ Bst w wr S g cnt tot (.slice aF F.length cF) vW (.slice aK K.length cK) vN F K ((mkd nK F1).map BF.row ++ part (nK + k) jj r :: (F2.map BF.row ++ Z))) (fun j _ => n - (intOf j).toNat)
      case atStart => exact ⟨0, rfl, by omega, by rw [part_zero]; exact hB⟩
      case round =>
        obtain ⟨jj, rfl, hj, hB2⟩ := hrel
        clear hB
        obtain ⟨p0, p1, p2, p3, p4, p5, p6⟩ := (blk_of hB2.sp).c7
        rw [HNF.out] at p2
        obtain ⟨gF, cF', hvF, hcF, x, hx, pF, -⟩ := row_cell (rowF_of hB2.sp) (j := k) (by rw [HNF.out]; exact hlt)
        injection hvF with hvF hvL hvC
        clear hvL
        subst hvF
        subst hvC
        have hxr : x = r.v := by
          rw [List.getElem?_map, HFF.out, List.getElem?_append_right (by rw [HKN.out]; omega), HKN.out, Nat.sub_self] at hx
          simpa using hx.symm
        rw [hxr] at pF
        rw [HNF.out] at hcF
        clear hx hxr
        by_cases hjl : jj < n
        · have e2 : (jj : Int) < (n : Int) := by omega
          have hpt : (part (nK + k) jj r).holds wr := hB2.sp.all _ (by simp)
          obtain ⟨gr, cr, hvr, hcr, y, hy, pr, fr⟩ := row_cell hpt (j := jj) (by rw [HN.out]; exact hjl)
          have hput := part_put hpt (by rw [HN.out]; exact hjl) hvr
          have hB3 : Bst w (wr.setCell ⟨gr, jj, none⟩ (.int .u8 (((Bm (nK + k) jj).toNat : Nat) : Int))) S g cnt tot (.slice (some ⟨gF, 0, none⟩) F.length cF) vW (.slice aK K.length cK) vN F K ((mkd nK F1).map BF.row ++ part (nK + k) (jj + 1) r :: (F2.map BF.row ++ Z)) :=
            Bst.z hB2 trivial hput.2 hput.1 (fun b hb => .inl hb) HS.out
          rw [hvr, HN.out] at pF
          have N114 : Calls Try.prog 114 #[.int .i64 ((nK : Int) + (k : Int)), .int .i64 (jj : Int)] wr.drew (fun e w'' => e = .returned (.int .u8 (((Bm (nK + k) jj).toNat : Nat) : Int)) ∧ w'' = wr.drew) :=
            (own_any (nK + k) jj (by omega) (by omega) wr.drew).mono (by rintro e w1 ⟨rfl, rfl⟩; exact ⟨rfl, rfl⟩)
          rw [HN.out] at hcr
          clear hB2 hpt hvr hy hput
          go_upto_region 9 with (fail)
          refine wp_region_still_tail 12 (by kernel_rfl) (by kernel_rfl) ?_
          simp only [List.take_succ_cons, List.take_zero, List.drop_succ_cons, List.drop_zero]
          repeat still_step
          still_call N114
          repeat still_step
          try refine wpStill_nil ?_
          go_wp2
          go_roundw
          case rel => exact ⟨jj + 1, by go_num, by omega, hB3.drew⟩
          case measure => simp [intOf]; omega
        · obtain rfl : jj = n := by omega
          have e2 : ¬ (jj : Int) < (jj : Int) := by omega
          obtain ⟨A, c, l, B, d⟩ := r
          have hv0 : (BF.mk A c l B d).v = .slice A jj c := by show Value.slice A l.length c = _; rw [show l.length = jj from HN.out]
          rw [hv0] at pF
          go_wp2
          go_roundw
          case rel =>
            refine ⟨F1 ++ [⟨A, c, l, B, d⟩], F2, by rw [HFF.out]; simp, ?_, ?_⟩
            · rw [List.length_append, HKN.out]; rfl
            · rw [mkd_snoc, List.map_append, List.append_assoc, HKN.out]
              have := hB2
              rw [← HN.out, part_full] at this
              exact this
          case measure => simp [intOf]; have := HKN.out; omega
    · obtain rfl : F2 = [] := List.eq_nil_of_length_eq_zero (by have := HNF.out; rw [HFF.out] at this; simp at this; omega)
      have hF1 : F1 = F := by rw [HFF.out, List.append_nil]
      subst hF1
      rw [List.map_nil, List.nil_append] at hB
      rw [HNF.out] at hB
      have e1 : ¬ (nF : Int) < (nF : Int) := by omega
      have hj0 := hB.sp.all
      clear hj0
      obtain ⟨m4, hm4⟩ : ∃ m4 : Nat, (4000 < tot → m4 = 4000) ∧ (¬ 4000 < tot → m4 = tot) := ⟨min tot 4000, by omega, by omega⟩
      have hm40 : m4 ≤ 4000 := by omega
      have HM4 := hd hm4
      clear hm4
      obtain ⟨gF, hgF⟩ : ∃ gF, mkd nK F1 = gF := ⟨_, rfl⟩
      have HG := hd hgF
      rw [hgF] at hB
      go_wp2
      clear p0 p1 p2 p3 p4 p5 p6
      go_loopw [6, 7, 8, 9] (fun i q gv j wr => ∃ (G1 : List BF), i = .int .i64 (G1.length : Int) ∧ L2 w wr S g cnt tot (.slice aF nF cF) vW F1 gF K nK nF G1) (fun i _ _ _ _ => nF - (intOf i).toNat)
      case atStart => exact ⟨[], rfl, gF, K, _, _, Z, rfl, hB, by rw [HNK.out]; rfl, hd ⟨HZ.out, HK.out, by simp [fks], fun k hk => .inl hk⟩⟩
      case round =>
        obtain ⟨G1, rfl, G2, K', vK, vN, Z', hgf, hB2, hK', HF⟩ := hrel
        clear hB
        have hlF : gF.length = nF := by rw [← HG.out, mkd_length]; exact HNF.out
        have hk : G1.length ≤ nF := by rw [hgf] at hlF; simp at hlF; omega
        obtain ⟨p0, p1, p2, p3, p4, p5, p6⟩ := (blk_of hB2.sp).c7
        have HK' := hd hK'
        clear hK'
        by_cases hlt : G1.length < nF
        · have e2 : (G1.length : Int) < (nF : Int) := by omega
          cases G2 with
          | nil => exact absurd hlt (by rw [hgf] at hlF; simp at hlF; omega)
          | cons r G2 =>
          obtain ⟨m1, ⟨r0, m2, m3⟩, m4'⟩ := mkd_mem nK F1 G1 r G2 (by rw [HG.out]; exact hgf)
          have hrl : r.l.length ≤ 1000000000 := by rw [m3]; exact HL.out r0 m2
          have HGF := hd hgf
          clear hgf m2 m3 r0 hlF
          obtain ⟨k, hkn⟩ : ∃ k, G1.length = k := ⟨_, rfl⟩
          rw [hkn] at hlt e2 hk m1 m4' ⊢
          have HKN := hd hkn
          clear hkn
          obtain ⟨gF', cF', hvF, hcF, x, hx, pF, -⟩ := row_cell (rowF_of hB2.sp) (j := k) (by rw [HNF.out]; exact hlt)
          injection hvF with hvF hvL hvC
          clear hvL
          subst hvF
          subst hvC
          rw [List.getElem?_map, m4'] at hx
          injection hx with hx
          subst hx
          rw [HNF.out] at hcF
          obtain ⟨E, hE1, hE2⟩ := gr_start (X := Hdr g cnt tot (.slice (some ⟨gF', 0, none⟩) nF cF) vW vK vN F1 K') (Y := G2.map BF.row ++ Z') hB2 m1
          have HM1 := hd m1
          clear m1 m4' hB2
          obtain ⟨n, hn⟩ : ∃ n, r.l.length = n := ⟨_, rfl⟩
          rw [hn] at hrl hE1 hE2
          have HN := hd hn
          clear hn
          obtain ⟨A, c, l, B, d⟩ := r
          have hv0 : (BF.mk A c l B d).v = .slice A n c := by show Value.slice A l.length c = _; rw [show l.length = n from HN.out]
          rw [hv0] at pF hE1 hE2
          simp only at hE2
          have HE2 := hd hE2
          clear hv0 hE2
          go_wp2
          clear p0 p1 p2 p3 p4 p5 p6
          obtain ⟨wo, rfl⟩ : ∃ wo : World, wo = wr := ⟨_, rfl⟩
          go_loopw [8, 9] (fun gv j wr => ∃ (jj : Nat) (E : List Res) (A1 : Option Addr) (c1 : Nat), j = .int .i64 (jj : Int) ∧ gv = .slice A1 (n + jj) c1 ∧ jj ≤ m4 + 70 ∧ Bs w wr S (Hdr g cnt tot (.slice (some ⟨gF', 0, none⟩) nF cF) vW vK vN F1 K' ++ .row 5 1 gv (n + jj) (bv (Bms (nK + k) (n + jj))) :: (E ++ (G2.map BF.row ++ Z'))) ∧ Hid (Grw A n (nK + k) (n + jj) gv E)) (fun _ j _ => m4 + 70 - (intOf j).toNat)
          case atStart => exact ⟨0, E, A, c, rfl, rfl, by omega, hE1, HE2⟩
          case round =>
            obtain ⟨jj, E', A1, c1, rfl, rfl, hj, hB3, HE3⟩ := hrel
            clear hE1 HE2
            obtain ⟨p0, p1, p2, p3, p4, p5, p6⟩ := (blk_of hB3.sp).c7
            by_cases hjl : jj < m4 + 70
            · have e3 : (jj : Int) < (m4 : Int) + 70 := by omega
              go_upto_region 16 with (fail)
              go_cut [80] from 73 to 80 (fun v W => v = .bool true ∧ W = wr)
              case first =>
                by_cases h4 : 4000 < tot
                · have h5 : 4000 < (tot : Int) := by omega
                  have h6 : (jj : Int) < 4000 + 70 := by have := HM4.out.1 h4; omega
                  go_wp2
                  go_meet
                  case rel => exact ⟨congrArg Value.bool (by first | rfl | (simp; omega)), rfl⟩
                · have h5 : ¬ 4000 < (tot : Int) := by omega
                  have h6 : (jj : Int) < (tot : Int) + 70 := by have := HM4.out.2 h4; omega
                  go_wp2
                  go_meet
                  case rel => exact ⟨congrArg Value.bool (by first | rfl | (simp; omega)), rfl⟩
              case rest =>
              obtain ⟨rfl, hwc⟩ := hcut
              rw [hwc]
              clear hwc
              have hrow : wr.ownsRow 0 5 1 (.slice A1 (n + jj) c1) (n + jj) (bv (Bms (nK + k) (n + jj))) := hB3.sp.all (.row 5 1 (.slice A1 (n + jj) c1) (n + jj) (bv (Bms (nK + k) (n + jj)))) (by simp)
              have N114 : Hid (∀ W : World, Calls Try.prog 114 #[.int .i64 ((nK : Int) + (k : Int)), .int .i64 ((n : Int) + (jj : Int))] W (fun e w'' => e = .returned (.int .u8 (((Bm (nK + k) (n + jj)).toNat : Nat) : Int)) ∧ W = w'')) :=
                hd fun W => own_any (nK + k) (n + jj) (by omega) (by omega) W
              obtain ⟨i0, hi0, hz0, hz1, hz2⟩ := info_parts info5
              go_wp2_with (first | (go_at_call 114; (with_reducible refine (N114.out _).mono ?_); rintro e v1 ⟨rfl, rfl⟩) | ((with_reducible refine wl_app2 (.tmp 83) (.tmp 88) 22 5 i0 _ 1 1 Try.underlying22 hi0 hz0 hz1 hz2 ?_ (by omega) (.slice A1 (n + jj) c1) (n + jj) _ ?_ ((Ext.new wr _).own hrow) ⟨wr.heap.size, 0, none⟩ 1 1 [.int .u8 (((Bm (nK + k) (n + jj)).toNat : Nat) : Int)] ?_ (Rd.cell1 _ _ _) (one_int1 _ _) (by omega) (by omega) ?_); exact rfl; exact rfl; exact rfl; intro v2 w2 hA2))
              obtain ⟨E2, hB4, hE4⟩ := gr_step hB3 hA2 HE3.out (by omega) HS.out
              obtain ⟨A2, c2, rfl, -⟩ := row_some (hB4.sp.all (.row 5 1 v2 (n + jj + 1) (bv (Bms (nK + k) (n + jj + 1)))) (by simp))
              have HE4 := hd hE4
              clear hE4 hA2 hrow
              go_roundw
              case rel => exact ⟨jj + 1, E2, A2, c2, by go_num, rfl, by omega, hB4, HE4⟩
              case measure => simp [intOf]; omega
            · obtain rfl : jj = m4 + 70 := by omega
              have e3 : ¬ ((m4 + 70 : Nat) : Int) < (m4 : Int) + 70 := by omega
              go_upto_region 16 with (fail)
              go_cut [80] from 73 to 80 (fun v W => v = .bool false ∧ W = wr)
              case first =>
                by_cases h4 : 4000 < tot
                · have h5 : 4000 < (tot : Int) := by omega
                  have h6 : ¬ ((m4 + 70 : Nat) : Int) < 4000 + 70 := by have := HM4.out.1 h4; omega
                  go_wp2
                  go_meet
                  case rel => exact ⟨congrArg Value.bool (by first | rfl | (simp; omega)), rfl⟩
                · have h5 : ¬ 4000 < (tot : Int) := by omega
                  have h6 : ¬ ((m4 + 70 : Nat) : Int) < (tot : Int) + 70 := by have := HM4.out.2 h4; omega
                  go_wp2
                  go_meet
                  case rel => exact ⟨congrArg Value.bool (by first | rfl | (simp; omega)), rfl⟩
              case rest =>
              obtain ⟨rfl, hwc⟩ := hcut
              rw [hwc]
              clear hwc
              obtain ⟨A', c', hv', hB4⟩ := gr_end (X := Hdr g cnt tot (.slice (some ⟨gF', 0, none⟩) nF cF) vW vK vN F1 K') hB3 HE3.out (by omega)
              injection hv' with h1 _ h2
              subst h1
              subst h2
              obtain ⟨N, hN⟩ : ∃ N, n + (m4 + 70) = N := ⟨_, rfl⟩
              have hNle : N ≤ 1000004070 := by omega
              rw [hN] at hB4 ⊢
              clear hB3 HE3
              have hkl : K'.length ≤ 101000 := by have := HK'.out; have := HKN.out; omega
              have hrowK : wr.ownsRow 0 22 1 vK K'.length (K'.map BK.v) := rowK_of hB4.sp
              obtain ⟨i0, hi0, hz0, hz1, hz2⟩ := info_parts info22
              obtain ⟨i1, hi1, hy0, hy1, hy2⟩ := info_parts info3B
              go_upto_region 20 with ((with_reducible refine wl_app2 (.tmp 94) (.tmp 96) 30 22 i0 _ 1 24 Try.underlying30 hi0 hz0 hz1 hz2 ?_ (by omega) vK K'.length _ ?_ ((Ext.new wr _).own hrowK) ⟨wr.heap.size, 0, none⟩ 1 1 [.slice A1 N c1] ?_ (Rd.cell1 _ _ _) (one_sl A1 N c1) (by omega) (by omega) ?_); exact rfl; exact rfl; exact rfl; intro v2 w2 hA2; obtain ⟨A2, c2, rfl, -⟩ := own_form hA2.own; have hB5 := Bs.app (X := [.blk g 33 #[.int .i64 cnt, .int .i64 tot, .slice (some ⟨gF', 0, none⟩) nF cF, vW, vK, vN, .bool false], .row 22 1 (.slice (some ⟨gF', 0, none⟩) nF cF) F1.length (F1.map BF.v), .row 22 1 vW F1.length (F1.map BF.u)]) (hB4.alloc _) hA2 HS.out; have hb5 : Blk w2 g 33 #[.int .i64 cnt, .int .i64 tot, .slice (some ⟨gF', 0, none⟩) nF cF, vW, vK, vN, .bool false] := Sp.head hB5.sp; obtain ⟨q0, q1, q2, q3, q4, q5, q6⟩ := hb5.c7; have f4 := hb5.free 4)
              have hB6 := Bs.set (X := []) hB5 4 (.slice A2 (K'.length + 1) c2) HS.out
              clear hA2 hrowK hB4 hB5 q0 q1 q2 q3 q4 q5 q6 f4 p0 p1 p2 p3 p4 p5 p6
              generalize w2.setCell ⟨g, 4, none⟩ (.slice A2 (K'.length + 1) c2) = W3 at hB6 ⊢
              generalize hv2 : Value.slice A2 (K'.length + 1) c2 = v2 at hB6 ⊢
              have hb6 : Blk W3 g 33 #[.int .i64 cnt, .int .i64 tot, .slice (some ⟨gF', 0, none⟩) nF cF, vW, v2, vN, .bool false] := Sp.head hB6.sp
              obtain ⟨p0, p1, p2, p3, p4, p5, p6⟩ := hb6.c7
              have hrowN : W3.ownsRow 0 3 1 vN K'.length (K'.map BK.num) := hB6.sp.all (.row 3 1 vN K'.length (K'.map BK.num)) (by simp)
              go_wp2_with ((with_reducible refine wl_app2 (.tmp 104) (.tmp 106) 31 3 i1 _ 1 8 Try.underlying31 hi1 hy0 hy1 hy2 ?_ (by omega) vN K'.length _ ?_ ((Ext.new W3 _).own hrowN) ⟨W3.heap.size, 0, none⟩ 1 1 [.int .i64 ((nK : Int) + (k : Int))] ?_ (Rd.cell1 _ _ _) (one_int1 _ _) (by omega) (by omega) ?_); exact rfl; exact rfl; exact rfl; intro v4 w4 hA4; obtain ⟨A4, c4, rfl, -⟩ := own_form hA4.own; have hB7 := Bs.app (X := [.blk g 33 #[.int .i64 cnt, .int .i64 tot, .slice (some ⟨gF', 0, none⟩) nF cF, vW, v2, vN, .bool false], .row 22 1 (.slice (some ⟨gF', 0, none⟩) nF cF) F1.length (F1.map BF.v), .row 22 1 vW F1.length (F1.map BF.u), .row 22 1 v2 (K'.length + 1) (K'.map BK.v ++ [.slice A1 N c1])]) (hB6.alloc _) hA4 HS.out; have hb7 : Blk w4 g 33 #[.int .i64 cnt, .int .i64 tot, .slice (some ⟨gF', 0, none⟩) nF cF, vW, v2, vN, .bool false] := Sp.head hB7.sp; obtain ⟨q0, q1, q2, q3, q4, q5, q6⟩ := hb7.c7; have f5 := hb7.free 5)
              have hB8 := Bs.set (X := []) hB7 5 (.slice A4 (K'.length + 1) c4) HS.out
              have hB9 : Bst w (w4.setCell ⟨g, 5, none⟩ (.slice A4 (K'.length + 1) c4)) S g cnt tot (.slice (some ⟨gF', 0, none⟩) nF cF) vW v2 (.slice A4 (K'.length + 1) c4) F1 (K' ++ [⟨A1, N, c1, nK + k⟩]) (G2.map BF.row ++ (.rd 1 A n (bv (Bms (nK + k) n)) :: (BK.mk A1 N c1 (nK + k)).rd :: Z')) := by
                have e1 : (K' ++ [BK.mk A1 N c1 (nK + k)]).length = K'.length + 1 := by simp
                have e2 : (K' ++ [BK.mk A1 N c1 (nK + k)]).map BK.v = K'.map BK.v ++ [.slice A1 N c1] := by simp [BK.v]
                have e3 : (K' ++ [BK.mk A1 N c1 (nK + k)]).map BK.num = K'.map BK.num ++ [.int .i64 ((nK : Int) + (k : Int))] := by simp [BK.num]
                show Bs _ _ _ _
                unfold Hdr
                rw [e1, e2, e3]
                exact hB8
              clear hB8 hB7 hb7 hA4 hrowN hB6 q0 q1 q2 q3 q4 q5 q6 f5
              have hL : L2 w (w4.setCell ⟨g, 5, none⟩ (.slice A4 (K'.length + 1) c4)) S g cnt tot (.slice (some ⟨gF', 0, none⟩) nF cF) vW F1 gF K nK nF (G1 ++ [⟨A, c, l, B, d⟩]) := by
                refine ⟨G2, K' ++ [⟨A1, N, c1, nK + k⟩], v2, .slice A4 (K'.length + 1) c4, .rd 1 A n (bv (Bms (nK + k) n)) :: (BK.mk A1 N c1 (nK + k)).rd :: Z', ?_, hB9, ?_, hd ⟨?_, ?_, ?_, ?_⟩⟩
                · rw [HGF.out]; simp
                · rw [List.length_append, List.length_append, HK'.out]; simp [Nat.add_assoc]
                · intro z hz
                  rcases List.mem_cons.mp hz with rfl | hz
                  · exact fun h => h
                  · rcases List.mem_cons.mp hz with rfl | hz
                    · exact fun h => h
                    · exact HF.out.1 z hz
                · intro x hx
                  rcases List.mem_append.mp hx with hx | hx
                  · exact List.mem_cons_of_mem _ (List.mem_cons_of_mem _ (HF.out.2.1 x hx))
                  · obtain rfl := List.mem_singleton.mp hx
                    simp
                · intro x hx
                  rw [fks_snoc] at hx
                  rcases List.mem_append.mp hx with hx | hx
                  · exact List.mem_cons_of_mem _ (List.mem_cons_of_mem _ (HF.out.2.2.1 x hx))
                  · obtain rfl := List.mem_singleton.mp hx
                    rw [HKN.out]
                    show Res.rd 1 A l.length (bv (Bms (nK + k) l.length)) ∈ _
                    rw [show l.length = n from HN.out]
                    simp
                · intro x hx
                  rcases List.mem_append.mp hx with hx | hx
                  · exact HF.out.2.2.2 x hx
                  · obtain rfl := List.mem_singleton.mp hx
                    exact .inr ⟨hNle, by show nK + k ≤ nK + nF; omega⟩
              clear hB9
              go_roundw
              case rel =>
                refine ⟨G1 ++ [⟨A, c, l, B, d⟩], by rw [List.length_append, HKN.out]; rfl, ?_⟩
                first | exact hL | (rw [HNF.out]; exact hL)
              case measure => simp [intOf]; have := HKN.out; omega
        · obtain rfl : G2 = [] := List.eq_nil_of_length_eq_zero (by rw [hgf] at hlF; simp at hlF; omega)
          have hG1 : G1 = gF := by rw [hgf, List.append_nil]
          subst hG1
          have e2 : ¬ (G1.length : Int) < (nF : Int) := by omega
          rw [List.map_nil, List.nil_append] at hB2
          have hGn : G1.length = nF := hlF
          have HGN := hd hGn
          have HGF := hd hgf
          clear hgf hlF hGn
          go_wp2
          clear p0 p1 p2 p3 p4 p5 p6
          obtain ⟨wo, rfl⟩ : ∃ wo : World, wo = wr := ⟨_, rfl⟩
          go_loopw [10] (fun i wr => ∃ (k : Nat), i = .int .i64 (k : Int) ∧ k ≤ nF ∧ L3 w wr S g cnt tot (.slice aF nF cF) vW F1 K nK nF Z' k) (fun i _ => nF - (intOf i).toNat)
          case atStart => exact ⟨0, rfl, by omega, K', vK, vN, hB2, by have := HK'.out; have := HGN.out; omega, hd ⟨HF.out.2.1, HF.out.2.2.2⟩⟩
          case round =>
            obtain ⟨k, rfl, hk3, K3, vK3, vN3, hB3, hK3, HF3⟩ := hrel
            have HK3 := hd hK3
            clear hB2 hK3
            obtain ⟨p0, p1, p2, p3, p4, p5, p6⟩ := (blk_of hB3.sp).c7
            by_cases hlt3 : k < nF
            · have e4 : (k : Int) < (nF : Int) := by omega
              obtain ⟨gF', cF', hvF, hcF, x, hx, pF, -⟩ := row_cell (rowF_of hB3.sp) (j := k) (by rw [HNF.out]; exact hlt3)
              injection hvF with hvF hvL hvC
              clear hvL
              subst hvF
              subst hvC
              rw [HNF.out] at hcF
              obtain ⟨r, hr1, hr2⟩ : ∃ r, F1[k]? = some r ∧ x = r.v := by
                rw [List.getElem?_map] at hx
                cases hF1 : F1[k]? with
                | none => rw [hF1] at hx; cases hx
                | some r => rw [hF1] at hx; exact ⟨r, rfl, by simpa using hx.symm⟩
              subst hr2
              clear hx
              have HR := hd hr1
              clear hr1
              obtain ⟨A, c, l, B, d⟩ := r
              obtain ⟨n, hn⟩ : ∃ n, l.length = n := ⟨_, rfl⟩
              have hv0 : (BF.mk A c l B d).v = .slice A n c := by show Value.slice A l.length c = _; rw [hn]
              rw [hv0] at pF
              have HN := hd hn
              clear hn hv0
              have hkl : K3.length ≤ 102000 := by have := HK3.out; omega
              have hrowK : wr.ownsRow 0 22 1 vK3 K3.length (K3.map BK.v) := rowK_of hB3.sp
              obtain ⟨i0, hi0, hz0, hz1, hz2⟩ := info_parts info22
              obtain ⟨i1, hi1, hy0, hy1, hy2⟩ := info_parts info3B
              go_upto_region 24 with (fail)
              go_cut [] from 119 to 134 (fun W => ∃ v2, Bs w W S ([.blk g 33 #[.int .i64 cnt, .int .i64 tot, .slice (some ⟨gF', 0, none⟩) nF cF, vW, v2, vN3, .bool false], .row 22 1 (.slice (some ⟨gF', 0, none⟩) nF cF) F1.length (F1.map BF.v), .row 22 1 vW F1.length (F1.map BF.u)] ++ .row 22 1 v2 (K3.length + 1) (K3.map BK.v ++ [.slice A n c]) :: .row 3 1 vN3 K3.length (K3.map BK.num) :: Z'))
              case first =>
                have hBa := hB3.alloc (.cells #[.slice A n c] 22)
                obtain ⟨pa0, pa1, pa2, pa3, pa4, pa5, pa6⟩ := (blk_of hBa.sp).c7
                have pFa := (Ext.new wr (.cells #[.slice A n c] 22)).cell pF
                clear p0 p1 p3 p5 p6 pa0 pa1 pa3 pa5 pa6
                go_region_law ((refine step_app2 (by rfl) (.tmp 123) (.tmp 131) 30 (by rfl) 22 i0 _ 1 24 Try.underlying30 hi0 hz0 hz1 hz2 (by rfl) (by omega) vK3 K3.length (K3.map BK.v) (by rfl) (((Ext.refl _).alloc _).drew.own hrowK) ⟨wr.heap.size, 0, none⟩ 1 1 [.slice A n c] (by rfl) (Rd.cell1 _ _ _).drew (one_sl A n c) (by omega) (by omega) ?_; intro v2 w2 hA2; obtain ⟨A2, c2, rfl, -⟩ := own_form hA2.own; have hB5 := Bs.app (X := [.blk g 33 #[.int .i64 cnt, .int .i64 tot, .slice (some ⟨gF', 0, none⟩) nF cF, vW, vK3, vN3, .bool false], .row 22 1 (.slice (some ⟨gF', 0, none⟩) nF cF) F1.length (F1.map BF.v), .row 22 1 vW F1.length (F1.map BF.u)]) (hB3.alloc _).drew hA2 HS.out; have hb5 : Blk w2 g 33 #[.int .i64 cnt, .int .i64 tot, .slice (some ⟨gF', 0, none⟩) nF cF, vW, vK3, vN3, .bool false] := Sp.head hB5.sp; obtain ⟨q0, q1, q2, q3, q4, q5, q6⟩ := hb5.c7; have f4 := hb5.free 4))
                all_goals go_wp2
                all_goals go_meet
                all_goals case rel => exact ⟨_, Bs.set (X := []) hB5 4 (.slice A2 (K3.length + 1) c2) HS.out⟩
              case rest =>
              obtain ⟨v2, hB6⟩ := hcut
              clear hrowK hB3 p0 p1 p2 p3 p4 p5 p6 pF
              obtain ⟨W3, rfl⟩ : ∃ W3, W3 = wc := ⟨_, rfl⟩
              have hb6 : Blk W3 g 33 #[.int .i64 cnt, .int .i64 tot, .slice (some ⟨gF', 0, none⟩) nF cF, vW, v2, vN3, .bool false] := Sp.head hB6.sp
              obtain ⟨p0, p1, p2, p3, p4, p5, p6⟩ := hb6.c7
              have hrowN : W3.ownsRow 0 3 1 vN3 K3.length (K3.map BK.num) := hB6.sp.all (.row 3 1 vN3 K3.length (K3.map BK.num)) (by simp)
              go_wp2_with ((with_reducible refine wl_app2 (.tmp 139) (.tmp 143) 31 3 i1 _ 1 8 Try.underlying31 hi1 hy0 hy1 hy2 ?_ (by omega) vN3 K3.length _ ?_ ((Ext.new W3 _).own hrowN) ⟨W3.heap.size, 0, none⟩ 1 1 [.int .i64 ((nK : Int) + (k : Int))] ?_ (Rd.cell1 _ _ _) (one_int1 _ _) (by omega) (by omega) ?_); exact rfl; exact rfl; exact rfl; intro v4 w4 hA4; obtain ⟨A4, c4, rfl, -⟩ := own_form hA4.own; have hB7 := Bs.app (X := [.blk g 33 #[.int .i64 cnt, .int .i64 tot, .slice (some ⟨gF', 0, none⟩) nF cF, vW, v2, vN3, .bool false], .row 22 1 (.slice (some ⟨gF', 0, none⟩) nF cF) F1.length (F1.map BF.v), .row 22 1 vW F1.length (F1.map BF.u), .row 22 1 v2 (K3.length + 1) (K3.map BK.v ++ [.slice A n c])]) (hB6.alloc _) hA4 HS.out; have hb7 : Blk w4 g 33 #[.int .i64 cnt, .int .i64 tot, .slice (some ⟨gF', 0, none⟩) nF cF, vW, v2, vN3, .bool false] := Sp.head hB7.sp; obtain ⟨q0, q1, q2, q3, q4, q5, q6⟩ := hb7.c7; have f5 := hb7.free 5)
              have hB8 := Bs.set (X := []) hB7 5 (.slice A4 (K3.length + 1) c4) HS.out
              have hB9 : Bst w (w4.setCell ⟨g, 5, none⟩ (.slice A4 (K3.length + 1) c4)) S g cnt tot (.slice (some ⟨gF', 0, none⟩) nF cF) vW v2 (.slice A4 (K3.length + 1) c4) F1 (K3 ++ [⟨A, n, c, nK + k⟩]) Z' := by
                have e1 : (K3 ++ [BK.mk A n c (nK + k)]).length = K3.length + 1 := by simp
                have e2 : (K3 ++ [BK.mk A n c (nK + k)]).map BK.v = K3.map BK.v ++ [.slice A n c] := by simp [BK.v]
                have e3 : (K3 ++ [BK.mk A n c (nK + k)]).map BK.num = K3.map BK.num ++ [.int .i64 ((nK : Int) + (k : Int))] := by simp [BK.num]
                show Bs _ _ _ _
                unfold Hdr
                rw [e1, e2, e3]
                exact hB8
              clear hB8 hB7 hb7 hA4 hrowN hB6 q0 q1 q2 q3 q4 q5 q6 f5
              have hL : L3 w (w4.setCell ⟨g, 5, none⟩ (.slice A4 (K3.length + 1) c4)) S g cnt tot (.slice (some ⟨gF', 0, none⟩) nF cF) vW F1 K nK nF Z' (k + 1) := by
                refine ⟨K3 ++ [⟨A, n, c, nK + k⟩], v2, .slice A4 (K3.length + 1) c4, hB9, ?_, hd ⟨?_, ?_⟩⟩
                · rw [List.length_append, HK3.out]; rfl
                · intro x hx
                  rcases List.mem_append.mp hx with hx | hx
                  · exact HF3.out.1 x hx
                  · obtain rfl := List.mem_singleton.mp hx
                    exact HF.out.2.2.1 _ (by have h7 := fks_mkd (q := nK) (a := nK) HR.out; rw [HG.out] at h7; simp only at h7; rw [HN.out] at h7; exact h7)
                · intro x hx
                  rcases List.mem_append.mp hx with hx | hx
                  · exact HF3.out.2 x hx
                  · obtain rfl := List.mem_singleton.mp hx
                    have := HL.out _ (List.mem_of_getElem? HR.out)
                    exact .inr ⟨by have := HN.out; simp only at *; omega, by show nK + k ≤ nK + nF; omega⟩
              clear hB9
              go_roundw
              case rel =>
                refine ⟨k + 1, by go_num, by omega, ?_⟩
                first | exact hL | (rw [HNF.out]; exact hL)
              case measure => simp [intOf]; omega
            · obtain rfl : k = nF := by omega
              have e4 : ¬ (k : Int) < (k : Int) := by omega
              have q2 := (blk_of hB3.sp).free 2
              have hBx := Bs.set (X := []) hB3 2 (.slice none 0 0) HS.out
              have hbx : Blk (wr.setCell ⟨g, 2, none⟩ (.slice none 0 0)) g 33 #[.int .i64 cnt, .int .i64 tot, .slice none 0 0, vW, vK3, vN3, .bool false] := Sp.head hBx.sp
              have q3 := hbx.free 3
              have q3c := hbx.c7.2.2.2.1
              have hBy := Bs.set (X := []) hBx 3 (.slice none 0 0) HS.out
              have hB9 : Bst w ((wr.setCell ⟨g, 2, none⟩ (.slice none 0 0)).setCell ⟨g, 3, none⟩ (.slice none 0 0)) S g cnt tot (.slice none 0 0) (.slice none 0 0) vK3 vN3 [] K3 Z' :=
                end_rows hBy
              have HB := hd (show BkEnd w _ S g cnt tot K nK k Z' from ⟨K3, vK3, vN3, hB9, by have := HK3.out; omega, HF3.out.1, HF3.out.2⟩)
              clear hBx hBy hbx hB9 hB3
              go_wp2
              go_end0
              exact ⟨rfl, Z', HF.out.1, by have := HB.out; rw [HNF.out, HNK.out]; exact this⟩

end Go.Proofs.Ytfcbedkidjclhaa
