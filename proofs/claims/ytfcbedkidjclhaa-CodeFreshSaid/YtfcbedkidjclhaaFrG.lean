/-
  The ledger of numbers that were handed out: what it holds, its marks, its look.
  Conditions: as named.
  The ledger's write: all that lies untouched is written over, then grown.
  Conditions: as named.
  The ledger's Holds, Own, Done; the copy of numbers.
  Conditions: as named.
-/
import Derived.Test.YtfcbedkidjclhaaOfB
import Derived.Test.YtfcbedkidjclhaaCode8
import Derived.Deep.RegionLaw
import Derived.Deep.CutBlock
namespace Go.Proofs.Ytfcbedkidjclhaa
open Go.RowKit
set_option maxRecDepth 100000
set_option linter.unusedSimpArgs false
set_option linter.unusedVariables false

theorem Blk.c6 {w : World} {g : Nat} {t : TypeId} {a b c d e f : Value} (h : Blk w g t #[a, b, c, d, e, f]) : w.cell? ⟨g, 0, none⟩ = some a ∧ w.cell? ⟨g, 1, none⟩ = some b ∧ w.cell? ⟨g, 2, none⟩ = some c ∧ w.cell? ⟨g, 3, none⟩ = some d ∧ w.cell? ⟨g, 4, none⟩ = some e ∧ w.cell? ⟨g, 5, none⟩ = some f :=
  ⟨h.cell 0, h.cell 1, h.cell 2, h.cell 3, h.cell 4, h.cell 5⟩
namespace Lg
theorem iv_set (l : List Int) (j : Nat) (x : Int) : (iv l).set j (.int .i64 x) = iv (l.set j x) := by simp [iv, List.map_set]
theorem iv_take (l : List Int) (k : Nat) : (iv l).take k = iv (l.take k) := by simp [iv, List.map_take]

/-- a caller's mark: of a list's number and a place -/
def Bm (list i : Nat) : Int := -1000003 * ((list : Int) + 1) - (i : Int)
def Bms (list n : Nat) : List Int := (List.range n).map (Bm list)
theorem Bms_succ (q k : Nat) : Bms q (k + 1) = Bms q k ++ [Bm q k] := by simp [Bms, List.range_succ]
theorem Bms_length (q k : Nat) : (Bms q k).length = k := by simp [Bms]
theorem Bms_get {q k i : Nat} (h : i < k) : (Bms q k)[i]? = some (Bm q i) := by simp [Bms, h]

/-- a list that lies untouched, and its copy -/
structure BF where
  A : Option Addr
  c : Nat
  l : List Int
  B : Option Addr
  d : Nat
def BF.v (r : BF) : Value := .slice r.A r.l.length r.c
def BF.u (r : BF) : Value := .slice r.B r.l.length r.d
def BF.row (r : BF) : Res := .row 3 1 r.v r.l.length (iv r.l)
def BF.was (r : BF) : Res := .rd 1 r.B r.l.length (iv r.l)
/-- a list that was written over -/
structure BK where
  A : Option Addr
  n : Nat
  c : Nat
  q : Nat
def BK.v (k : BK) : Value := .slice k.A k.n k.c
def BK.num (k : BK) : Value := .int .i64 (k.q : Int)
def BK.rd (k : BK) : Res := .rd 1 k.A k.n (iv (Bms k.q k.n))

/-- the book's box and its four lists, and what lies beside -/
structure Bk0 (w : World) (g : Nat) (tot : Int) (F : List BF) (K : List BK) (vF vW vK vN : Value) (L : List Res) : Prop where
  sp : Sp w (Res.blk g 83 #[.int .i64 tot, vF, vW, vK, vN, .bool false] :: Res.row 31 1 vF F.length (F.map BF.v) :: Res.row 31 1 vW F.length (F.map BF.u) :: Res.row 31 1 vK K.length (K.map BK.v) :: Res.row 3 1 vN K.length (K.map BK.num) :: L)

/-- the form of a row that holds something -/
theorem row_some {w : World} {e : TypeId} {sz n : Nat} {v : Value} {xs : List Value} (h : (Res.row e sz v n xs).holds w) : ∃ A c, v = .slice A n c ∧ n ≤ c ∧ Rd w sz A n xs := by
  obtain ⟨A, c, rfl, h1, _, h2⟩ := own_rd (h : w.ownsRow 0 e sz v n xs)
  exact ⟨A, c, rfl, h1, h2⟩

set_option maxHeartbeats 1000000 in
theorem look_any (w : World) (g : Nat) (tot : Int) (F : List BF) (vF vW vK vN : Value) (nF : Nat) (hn : F.length = nF)
    (hB : Blk w g 83 #[.int .i64 tot, vF, vW, vK, vN, .bool false]) (hF : (Res.row 31 1 vF nF (F.map BF.v)).holds w) (hW : (Res.row 31 1 vW nF (F.map BF.u)).holds w)
    (nF' : vF.ownBlock ≠ some g) (nW' : vW.ownBlock ≠ some g) (hr : ∀ r ∈ F, r.row.holds w ∧ r.v.ownBlock ≠ some g) (hw : ∀ r ∈ F, r.was.holds w ∧ ¬ r.was.foot g) (hs : nF ≤ 1000000) (hl : ∀ r ∈ F, r.l.length ≤ 4398046511104) :
    Calls Try.prog 140 #[.pointer (some ⟨g, 0, none⟩)] w fun e w' => e = .returned (.tuple #[]) ∧ Kp (fun b => b = g) w w' ∧ Blk w' g 83 #[.int .i64 tot, vF, vW, vK, vN, .bool false] := by
  have HN := hd hn
  clear hn
  go_enter Try.func140, Try.ntmps140
  go_wp2
  go_loopw [2] (fun i wr => ∃ k : Nat, i = .int .i64 k ∧ k ≤ nF ∧ Kp (fun b => b = g) w wr ∧ Blk wr g 83 #[.int .i64 tot, vF, vW, vK, vN, .bool false]) (fun i _ => nF - (intOf i).toNat)
  case atStart => exact ⟨0, rfl, by omega, Kp.refl w, hB⟩
  case round =>
    obtain ⟨k, rfl, hk, hK, hBr⟩ := hrel
    have hF2 := Res.keep (r := .row 31 1 vF nF (F.map BF.v)) hF hK (fun b e1 e2 => nF' (by rw [e1, e2]))
    have hW2 := Res.keep (r := .row 31 1 vW nF (F.map BF.u)) hW hK (fun b e1 e2 => nW' (by rw [e1, e2]))
    obtain ⟨aF, cF, rfl, hcF, hRF⟩ := row_some hF2
    obtain ⟨aW, cW, rfl, hcW, hRW⟩ := row_some hW2
    obtain ⟨p1, p2, p3, p4, p5, p6⟩ := hBr.c6
    have q6 := hBr.free 5
    by_cases hlt : k < nF
    · have e1 : (k : Int) < (nF : Int) := by omega
      have hkF : k < F.length := by rw [HN.out]; exact hlt
      obtain ⟨bF, oF, rfl, hcellF⟩ := hRF.form (by omega) (by omega)
      obtain ⟨bW, oW, rfl, hcellW⟩ := hRW.form (by omega) (by omega)
      have r0 := hcellF k _ (by rw [List.getElem?_map, List.getElem?_eq_getElem hkF]; rfl)
      have r1 := hcellW k _ (by rw [List.getElem?_map, List.getElem?_eq_getElem hkF]; rfl)
      have hrk := hr F[k] (List.getElem_mem hkF)
      have hwk := hw F[k] (List.getElem_mem hkF)
      have hrl : F[k].l.length * 8 ≤ 140737488355328 := by have := hl F[k] (List.getElem_mem hkF); omega
      generalize F[k] = r at r0 r1 hrk hwk hrl
      have hrow := Res.keep hrk.1 hK (fun b e1 e2 => hrk.2 (by rw [← e2]; exact e1))
      have hwas := Res.keep hwk.1 hK (fun b e1 e2 => hwk.2 (by rw [← e2]; exact e1))
      obtain ⟨A, c, l, B, d⟩ := r
      simp only [BF.v, BF.u] at r0 r1
      have HL := hd (show l.length * 8 ≤ 140737488355328 from hrl)
      have N101 : Hid (∀ W : World, Ext wr W → Calls Try.prog 101 #[.slice A l.length c, .slice B l.length d] W fun e w'' => e = .returned (.bool true) ∧ Ext W w'') :=
        hd fun W hX => (SameInts_any A B l.length l.length c d l l W ((Rd.of_own hrow).ext hX) (hwas.2.ext hX) HL.out HL.out).mono (by rintro e w1 ⟨r, hr, rfl, hX1⟩; rw [hr.2 rfl]; exact ⟨rfl, hX1⟩)
      clear hrk hwk hrow hwas hrl hcellF hcellW hF2 hW2 hRF hRW
      go_upto_region 3 with (fail)
      have hbF : bF ≠ g := fun e => nF' (by rw [e]; rfl)
      have hbW : bW ≠ g := fun e => nW' (by rw [e]; rfl)
      go_region_held3 (fun w' => w'.cell? ⟨g, 1, none⟩ = some (.slice (some ⟨bF, oF, none⟩) nF cF) ∧ w'.cell? ⟨g, 2, none⟩ = some (.slice (some ⟨bW, oW, none⟩) nF cW) ∧ w'.cell? ⟨g, 5, none⟩ = some (.bool false) ∧ w'.cell? ⟨bF, oF + k, none⟩ = some (.slice A l.length c) ∧ w'.cell? ⟨bW, oW + k, none⟩ = some (.slice B l.length d))
        (first | exact ⟨p2, p3, p6, r0, r1⟩ | exact ⟨s1, s2, s5, t0, t1⟩ | exact ⟨u1.2.1, u1.2.2.1, u1.2.2.2.2.2, u2, u3⟩ | go_keep)
        (first | (go_at_call 101; (with_reducible refine (N101.out _ (Ext.refl _).drew).mono ?_); rintro e' w5 ⟨rfl, hX5⟩; have hY5 := hX5.of_drew; have s1 := hY5.cell p2; have s2 := hY5.cell p3; have s5 := hY5.cell p6; have t0 := hY5.cell r0; have t1 := hY5.cell r1; have f5 := (hBr.ext hY5).free 5; have u1 := ((hBr.ext hY5).set_ 5 (.bool false)).c6; have u2 := ((Kp.refl w5).set (S := fun b => b = g) ⟨g, 5, none⟩ (.inl rfl) (.bool false)).cell t0 hbF; have u3 := ((Kp.refl w5).set (S := fun b => b = g) ⟨g, 5, none⟩ (.inl rfl) (.bool false)).cell t1 hbW))
      all_goals go_wp2
      all_goals go_roundw
      all_goals first | (case rel => exact ⟨k + 1, by go_num, by omega, (hK.then_ext hY5).set ⟨g, 5, none⟩ (.inl rfl) _, (hBr.ext hY5).set_ 5 _⟩) | (case measure => simp [intOf]; omega)
    · have e1 : ¬ (k : Int) < (nF : Int) := by omega
      go_wp2
      go_end0
      exact ⟨rfl, hK, hBr⟩

end Lg
end Go.Proofs.Ytfcbedkidjclhaa
namespace Go.Proofs.Ytfcbedkidjclhaa
open Go.RowKit
set_option maxRecDepth 100000
set_option linter.unusedSimpArgs false
set_option linter.unusedVariables false
namespace Lg

def Hdr (g : Nat) (tot : Int) (vF vW vK vN : Value) (G : List BF) (K : List BK) : List Res :=
  [.blk g 83 #[.int .i64 tot, vF, vW, vK, vN, .bool false], .row 31 1 vF G.length (G.map BF.v), .row 31 1 vW G.length (G.map BF.u), .row 31 1 vK K.length (K.map BK.v), .row 3 1 vN K.length (K.map BK.num)]

/-- written over, with the mark of a list's number -/
def BF.mk' (q : Nat) (r : BF) : BF := ⟨r.A, r.c, Bms q r.l.length, r.B, r.d⟩
def mkd : Nat → List BF → List BF
  | _, [] => []
  | q, r :: t => r.mk' q :: mkd (q + 1) t
theorem mkd_length : ∀ (q : Nat) (F : List BF), (mkd q F).length = F.length
  | _, [] => rfl
  | q, r :: t => by simp [mkd, mkd_length (q + 1) t]
theorem mkd_snoc : ∀ (q : Nat) (F : List BF) (r : BF), mkd q (F ++ [r]) = mkd q F ++ [r.mk' (q + F.length)]
  | q, [], r => rfl
  | q, x :: t, r => by
    rw [List.cons_append, mkd, mkd_snoc (q + 1) t r, List.length_cons]
    rw [show q + 1 + t.length = q + (t.length + 1) by omega]
    rfl
theorem mk_v (q : Nat) (r : BF) : (r.mk' q).v = r.v := by simp [BF.mk', BF.v, Bms_length]

/-- the list that is being written over -/
def part (q j : Nat) (r : BF) : Res := .row 3 1 r.v r.l.length (iv (Bms q j ++ r.l.drop j))
theorem part_zero (q : Nat) (r : BF) : part q 0 r = r.row := by simp [part, BF.row, Bms]
theorem part_full (q : Nat) (r : BF) : part q r.l.length r = (r.mk' q).row := by
  simp [part, BF.row, BF.mk', BF.v, Bms_length]
theorem part_len (q j : Nat) (r : BF) (h : j ≤ r.l.length) : (Bms q j ++ r.l.drop j).length = r.l.length := by
  rw [List.length_append, Bms_length, List.length_drop]; omega
theorem part_set (q j : Nat) (r : BF) (h : j < r.l.length) : (Bms q j ++ r.l.drop j).set j (Bm q j) = Bms q (j + 1) ++ r.l.drop (j + 1) := by
  rw [List.set_append_right _ _ (by rw [Bms_length]; omega), Bms_length, Nat.sub_self, List.drop_eq_getElem_cons h, Bms_succ, List.set_cons_zero]
  simp

theorem own_is {w : World} {base n : Nat} {e : TypeId} {sz : Nat} {v : Value} {xs : List Value} (h : w.ownsRow base e sz v n xs) (hn : 0 < n) : ∃ g c, v = .slice (some ⟨g, 0, none⟩) n c ∧ n ≤ c ∧ base ≤ g := by
  rcases h.2 with ⟨h1, h0⟩ | ⟨g, cap, cur, hv, h2, h3, h4, _⟩
  · omega
  · exact ⟨g, cap, hv, h4, h2⟩
/-- a row's slice, with what lies at a place -/
theorem row_cell {w : World} {e : TypeId} {v : Value} {n : Nat} {xs : List Value} (h : (Res.row e 1 v n xs).holds w) {j : Nat} (hj : j < n) :
    ∃ g c, v = .slice (some ⟨g, 0, none⟩) n c ∧ n ≤ c ∧ ∃ x, xs[j]? = some x ∧ w.cell? ⟨g, j, none⟩ = some x ∧ w.frozen? ⟨g, j, none⟩ = false := by
  have h' : w.ownsRow 0 e 1 v n xs := h
  obtain ⟨g, c, rfl, hc, -⟩ := own_is h' (by omega)
  have hl : j < xs.length := by have := h'.1; omega
  refine ⟨g, c, rfl, hc, xs[j], List.getElem?_eq_getElem hl, ?_, ?_⟩
  · rw [World.ownsRow.cellAt h' j (by omega)]
    exact List.getElem?_eq_getElem hl
  · rcases h'.2 with ⟨h1, h0⟩ | ⟨g', cap, cur, hv, _, hh, _⟩
    · omega
    · injection hv with e
      injection e with e
      injection e with e
      subst e
      simp [World.frozen?, hh]

theorem blk_of {w : World} {g : Nat} {tot : Int} {vF vW vK vN : Value} {G : List BF} {K : List BK} {Z : List Res} (h : Sp w (Hdr g tot vF vW vK vN G K ++ Z)) :
    Blk w g 83 #[.int .i64 tot, vF, vW, vK, vN, .bool false] := h.all (.blk g 83 #[.int .i64 tot, vF, vW, vK, vN, .bool false]) (by simp [Hdr])
theorem rowF_of {w : World} {g : Nat} {tot : Int} {vF vW vK vN : Value} {G : List BF} {K : List BK} {Z : List Res} (h : Sp w (Hdr g tot vF vW vK vN G K ++ Z)) :
    (Res.row 31 1 vF G.length (G.map BF.v)).holds w := h.all _ (by simp [Hdr])
theorem rowW_of {w : World} {g : Nat} {tot : Int} {vF vW vK vN : Value} {G : List BF} {K : List BK} {Z : List Res} (h : Sp w (Hdr g tot vF vW vK vN G K ++ Z)) :
    (Res.row 31 1 vW G.length (G.map BF.u)).holds w := h.all _ (by simp [Hdr])
theorem rowK_of {w : World} {g : Nat} {tot : Int} {vF vW vK vN : Value} {G : List BF} {K : List BK} {Z : List Res} (h : Sp w (Hdr g tot vF vW vK vN G K ++ Z)) :
    (Res.row 31 1 vK K.length (K.map BK.v)).holds w := h.all _ (by simp [Hdr])
theorem rowN_of {w : World} {g : Nat} {tot : Int} {vF vW vK vN : Value} {G : List BF} {K : List BK} {Z : List Res} (h : Sp w (Hdr g tot vF vW vK vN G K ++ Z)) :
    (Res.row 3 1 vN K.length (K.map BK.num)).holds w := h.all _ (by simp [Hdr])
/-- what the box's block is not -/
theorem box_away {w : World} {g : Nat} {tot : Int} {vF vW vK vN : Value} {G : List BF} {K : List BK} {Z : List Res} (h : Sp w (Hdr g tot vF vW vK vN G K ++ Z)) :
    vF.ownBlock ≠ some g ∧ vW.ownBlock ≠ some g ∧ ∀ z ∈ Z, ¬ z.foot g := by
  have ha := Sp.away (r := .blk g 83 #[.int .i64 tot, vF, vW, vK, vN, .bool false]) h
  refine ⟨fun e => ?_, fun e => ?_, fun z hz e => ?_⟩
  · exact ha (.row 31 1 vF G.length (G.map BF.v)) (by simp) (.inl trivial) g rfl e
  · exact ha (.row 31 1 vW G.length (G.map BF.u)) (by simp) (.inl trivial) g rfl e
  · exact ha z (by simp [hz]) (.inl trivial) g rfl e

abbrev Bst (w0 w : World) (S : Nat → Prop) (g : Nat) (tot : Int) (vF vW vK vN : Value) (G : List BF) (K : List BK) (Z : List Res) : Prop :=
  Bs w0 w S (Hdr g tot vF vW vK vN G K ++ Z)
theorem Bst.z {w0 w w' : World} {S : Nat → Prop} {g : Nat} {tot : Int} {vF vW vK vN : Value} {G : List BF} {K : List BK} {X Y : List Res} {r r' : Res} (h : Bst w0 w S g tot vF vW vK vN G K (X ++ r :: Y)) (hm : r.turns) (k : Kp r.foot w w') (hr : r'.holds w')
    (hf : ∀ b, r'.foot b → r.foot b ∨ w.heap.size ≤ b) (hS : ∀ b, w0.heap.size ≤ b → S b) : Bst w0 w' S g tot vF vW vK vN G K (X ++ r' :: Y) := by
  have h' : Bs w0 w S ((Hdr g tot vF vW vK vN G K ++ X) ++ r :: Y) := by rw [List.append_assoc]; exact h
  have := h'.mid hm k hr hf hS
  rwa [List.append_assoc] at this

theorem part_put {w : World} {q j : Nat} {r : BF} (h : (part q j r).holds w) (hj : j < r.l.length) {g c : Nat} (hv : r.v = .slice (some ⟨g, 0, none⟩) r.l.length c) :
    (part q (j + 1) r).holds (w.setCell ⟨g, j, none⟩ (.int .i64 (Bm q j))) ∧ Kp (part q j r).foot w (w.setCell ⟨g, j, none⟩ (.int .i64 (Bm q j))) := by
  have h' : w.ownsRow 0 3 1 r.v r.l.length (iv (Bms q j ++ r.l.drop j)) := h
  refine ⟨?_, ?_⟩
  · show World.ownsRow _ 0 3 1 r.v r.l.length (iv (Bms q (j + 1) ++ r.l.drop (j + 1)))
    rw [hv] at h' ⊢
    have := own_put h' hj (.int .i64 (Bm q j))
    rwa [iv_set, part_set q j r hj] at this
  · exact (Kp.refl w).set ⟨g, j, none⟩ (.inl (by show r.v.ownBlock = _; rw [hv]; rfl)) _

theorem info31 : (Try.prog.info? 31).map (fun i => (i.zero, i.size, i.bytes)) = some (some (.slice none 0 0), 1, 24) := by kernel_rfl
theorem info3B : (Try.prog.info? 3).map (fun i => (i.zero, i.size, i.bytes)) = some (some (.int .i64 0), 1, 8) := by kernel_rfl
theorem one_sl (A : Option Addr) (n c : Nat) : ∀ u ∈ [Value.slice A n c], u.oneCell' = true := by
  intro u hu
  obtain rfl := List.mem_singleton.mp hu
  rfl
theorem one_int1 (kd : IntKind) (i : Int) : ∀ u ∈ [Value.int kd i], u.oneCell' = true := by
  intro u hu
  obtain rfl := List.mem_singleton.mp hu
  rfl

/-- the list as it was handed out, behind the marks -/
def BF.k (q : Nat) (r : BF) : BK := ⟨r.A, r.l.length, r.c, q⟩
def fks : Nat → List BF → List BK
  | _, [] => []
  | q, r :: t => r.k q :: fks (q + 1) t
theorem fks_length : ∀ (q : Nat) (F : List BF), (fks q F).length = F.length
  | _, [] => rfl
  | q, r :: t => by simp [fks, fks_length (q + 1) t]
theorem fks_snoc : ∀ (q : Nat) (F : List BF) (r : BF), fks q (F ++ [r]) = fks q F ++ [r.k (q + F.length)]
  | q, [], r => rfl
  | q, x :: t, r => by
    rw [List.cons_append, fks, fks_snoc (q + 1) t r, List.length_cons, show q + 1 + t.length = q + (t.length + 1) by omega]
    rfl
theorem mkd_mem : ∀ (q : Nat) (F G1 : List BF) (r : BF) (G2 : List BF), mkd q F = G1 ++ r :: G2 → r.l = Bms (q + G1.length) r.l.length ∧ (∃ r0 ∈ F, r.l.length = r0.l.length) ∧ F[G1.length]?.map BF.v = some r.v
  | q, [], G1, r, G2, h => by cases G1 <;> cases h
  | q, x :: t, [], r, G2, h => by
    rw [mkd] at h
    injection h with h1 h2
    subst h1
    refine ⟨by simp [BF.mk', Bms_length], ⟨x, by simp, by simp [BF.mk', Bms_length]⟩, ?_⟩
    simp [mk_v]
  | q, x :: t, y :: G1, r, G2, h => by
    rw [mkd, List.cons_append] at h
    injection h with h1 h2
    obtain ⟨i1, ⟨r0, i2, i3⟩, i4⟩ := mkd_mem (q + 1) t G1 r G2 h2
    refine ⟨?_, ⟨r0, List.mem_cons_of_mem _ i2, i3⟩, ?_⟩
    · rw [List.length_cons, show q + (G1.length + 1) = q + 1 + G1.length by omega]
      exact i1
    · rw [List.length_cons, List.getElem?_cons_succ]
      exact i4

/-- where the list as it was handed out is told: beside the grown one, or in it -/
def Grw (A : Option Addr) (n q m : Nat) (v : Value) (E : List Res) : Prop :=
  E = [.rd 1 A n (iv (Bms q n))] ∨ (E = [] ∧ ∃ b c, A = some ⟨b, 0, none⟩ ∧ v = .slice (some ⟨b, 0, none⟩) m c)
theorem Bms_take (q : Nat) {n m : Nat} (h : n ≤ m) : (Bms q m).take n = Bms q n := by
  unfold Bms
  rw [← List.map_take, List.take_range, Nat.min_eq_left h]
theorem gr_rd {w : World} {n m q c : Nat} {A : Option Addr} (h : Rd w 1 A m (iv (Bms q m))) (hn : n ≤ m) : (Res.rd 1 A n (iv (Bms q n))).holds w := by
  refine ⟨by omega, ?_⟩
  have := h.take hn
  rwa [Nat.mul_one, iv_take, Bms_take q hn] at this
theorem gr_step {w0 w w2 : World} {S : Nat → Prop} {X Y E : List Res} {A : Option Addr} {n q m : Nat} {v v2 : Value} {o : Obj} (hB : Bs w0 w S (X ++ .row 3 1 v m (iv (Bms q m)) :: (E ++ Y))) (hA : Ap (w.alloc o) w2 3 1 v v2 m 1 (iv (Bms q m)) [.int .i64 (Bm q m)])
    (hE : Grw A n q m v E) (hn : n ≤ m) (hS : ∀ b, w0.heap.size ≤ b → S b) : ∃ E', Bs w0 w2 S (X ++ .row 3 1 v2 (m + 1) (iv (Bms q (m + 1))) :: (E' ++ Y)) ∧ Grw A n q (m + 1) v2 E' := by
  have hs : iv (Bms q m) ++ [.int .i64 (Bm q m)] = iv (Bms q (m + 1)) := by rw [Bms_succ]; simp [iv]
  have hB' := hB.alloc o
  have ho : w2.ownsRow 0 3 1 v2 (m + 1) (iv (Bms q (m + 1))) := by
    have := hA.own
    rwa [hs] at this
  have ha : Bs w0 w2 S (X ++ .row 3 1 v2 (m + 1) (iv (Bms q (m + 1))) :: (E ++ Y)) := hB'.mid trivial hA.kp ho hA.foot hS
  rcases hE with rfl | ⟨rfl, b, c, rfl, rfl⟩
  · exact ⟨_, ha, .inl rfl⟩
  · rcases hA.how with ⟨b', c', h1, h2, _⟩ | ⟨hX, hnew⟩
    · injection h1 with h1 _ h3
      injection h1 with h1
      injection h1 with h1
      subst h1
      subst h3
      exact ⟨[], ha, .inr ⟨rfl, b, c, rfl, h2⟩⟩
    · refine ⟨[.rd 1 (some ⟨b, 0, none⟩) n (iv (Bms q n))], ?_, .inl rfl⟩
      have hrow : (Res.row 3 1 (.slice (some ⟨b, 0, none⟩) m c) m (iv (Bms q m))).holds (w.alloc o) := hB'.sp.all _ (by simp)
      refine Bs.moved (Y := Y) hB' (gr_rd (c := c) (Rd.of_own hrow) hn) ?_ hX ho hnew hS
      rintro b' ⟨_, ad, h1, rfl⟩
      injection h1 with h1
      subst h1
      rfl
/-- the grown list, and the one that was handed out, are only read from here on -/
theorem gr_end {w0 w : World} {S : Nat → Prop} {X P E Z : List Res} {A : Option Addr} {n q m : Nat} {v : Value} (hB : Bs w0 w S (X ++ .row 3 1 v m (iv (Bms q m)) :: (E ++ (P ++ Z)))) (hE : Grw A n q m v E) (hn : n ≤ m) :
    ∃ A' c', v = .slice A' m c' ∧ Bs w0 w S (X ++ (P ++ (.rd 1 A n (iv (Bms q n)) :: (BK.mk A' m c' q).rd :: Z))) := by
  have hrow : (Res.row 3 1 v m (iv (Bms q m))).holds w := hB.sp.all _ (by simp)
  obtain ⟨A', c', rfl, -, hR⟩ := row_some hrow
  refine ⟨A', c', rfl, ?_⟩
  have hw : Bs w0 w S (X ++ (BK.mk A' m c' q).rd :: (E ++ (P ++ Z))) := hB.weak trivial ⟨by omega, hR⟩ (by
    rintro b ⟨_, ad, h1, rfl⟩
    simp only [Res.foot]
    subst h1
    rfl)
  have hp : ∀ a b : Res, (X ++ a :: b :: (P ++ Z)).Perm (X ++ (P ++ (a :: b :: Z))) := fun a b => by
    refine List.Perm.append_left X ?_
    exact ((List.perm_middle (l₁ := P) (a := b) (l₂ := Z)).symm.cons a).trans (List.perm_middle (l₁ := P) (a := a) (l₂ := b :: Z)).symm
  rcases hE with rfl | ⟨rfl, b, c, rfl, h2⟩
  · refine (hw.perm ?_).perm (hp _ _)
    exact List.Perm.append_left X (List.Perm.swap _ _ _)
  · injection h2 with h2
    subst h2
    refine Bs.perm (Bs.twice (r' := .rd 1 (some ⟨b, 0, none⟩) n (iv (Bms q n))) hw (fun h => h) (fun h => h) (gr_rd (c := c) hR hn) ?_) (hp _ _)
    rintro b' ⟨h3, ad, h1, rfl⟩
    exact ⟨by show 0 < m; omega, ad, h1, rfl⟩
theorem gr_start {w0 w : World} {S : Nat → Prop} {X Y : List Res} {r : BF} {q : Nat} (hB : Bs w0 w S (X ++ r.row :: Y)) (hr : r.l = Bms q r.l.length) :
    ∃ E, Bs w0 w S (X ++ .row 3 1 r.v r.l.length (iv (Bms q r.l.length)) :: (E ++ Y)) ∧ Grw r.A r.l.length q r.l.length r.v E := by
  have hB' : Bs w0 w S (X ++ .row 3 1 r.v r.l.length (iv (Bms q r.l.length)) :: Y) := by
    rw [← hr]; exact hB
  rcases Nat.eq_zero_or_pos r.l.length with h0 | h0
  · refine ⟨_, ?_, .inl rfl⟩
    rw [h0] at hB' ⊢
    have p : ((Res.rd 1 r.A 0 (iv (Bms q 0))) :: (X ++ .row 3 1 r.v 0 (iv (Bms q 0)) :: Y)).Perm (X ++ .row 3 1 r.v 0 (iv (Bms q 0)) :: ([.rd 1 r.A 0 (iv (Bms q 0))] ++ Y)) := by
      refine List.perm_middle.symm.trans (List.Perm.append_left X (List.Perm.swap _ _ _))
    have hf : ∀ b, ¬ (Res.rd 1 r.A 0 (iv (Bms q 0))).foot b := by
      rintro b ⟨h1, _⟩
      omega
    refine Bs.perm ⟨hB'.sp.add (r := .rd 1 r.A 0 (iv (Bms q 0))) ⟨by omega, by simpa [Bms, iv] using Rd.zero⟩ (fun b hb => absurd hb (hf b)), hB'.in_.cons fun b hb => absurd hb (hf b), hB'.kp⟩ p
  · have hrow : (Res.row 3 1 r.v r.l.length (iv (Bms q r.l.length))).holds w := hB'.sp.all _ (by simp)
    obtain ⟨g, c, hv, _⟩ := own_is (hrow : w.ownsRow 0 3 1 _ _ _) h0
    refine ⟨[], hB', .inr ⟨rfl, g, c, ?_, hv⟩⟩
    have : (Value.slice r.A r.l.length r.c) = _ := hv
    injection this

theorem fks_mkd : ∀ {F : List BF} {q a k : Nat} {r : BF}, F[k]? = some r → (BK.mk r.A r.l.length r.c (q + k)) ∈ fks q (mkd a F)
  | [], q, a, k, r, h => by simp at h
  | x :: t, q, a, 0, r, h => by
    have h : x = r := by simpa using h
    subst h
    simp [mkd, fks, BF.k, BF.mk', Bms_length]
  | x :: t, q, a, k + 1, r, h => by
    have h : t[k]? = some r := by simpa using h
    have := fks_mkd (q := q + 1) (a := a + 1) h
    rw [show q + 1 + k = q + (k + 1) by omega] at this
    exact List.mem_cons_of_mem _ this

def L2 (w wr : World) (S : Nat → Prop) (g : Nat) (tot : Int) (vF vW : Value) (F gF : List BF) (K : List BK) (nK nF : Nat) (G1 : List BF) : Prop :=
  ∃ (G2 : List BF) (K' : List BK) (vK vN : Value) (Z' : List Res), gF = G1 ++ G2 ∧ Bst w wr S g tot vF vW vK vN F K' (G2.map BF.row ++ Z') ∧ K'.length = nK + G1.length ∧ Hid ((∀ z ∈ Z', ¬ z.turns) ∧ (∀ k ∈ K', k.rd ∈ Z') ∧ (∀ k ∈ fks nK G1, k.rd ∈ Z') ∧ (∀ k ∈ K', k ∈ K ∨ (k.n ≤ 4398046515174 ∧ k.q ≤ nK + nF)))

def L3 (w wr : World) (S : Nat → Prop) (g : Nat) (tot : Int) (vF vW : Value) (F : List BF) (K : List BK) (nK nF : Nat) (Z' : List Res) (k : Nat) : Prop :=
  ∃ (K' : List BK) (vK vN : Value), Bst w wr S g tot vF vW vK vN F K' Z' ∧ K'.length = nK + nF + k ∧ Hid ((∀ k ∈ K', k.rd ∈ Z') ∧ (∀ k ∈ K', k ∈ K ∨ (k.n ≤ 4398046515174 ∧ k.q ≤ nK + nF)))

def BkEnd (w w' : World) (S : Nat → Prop) (g : Nat) (tot : Int) (K : List BK) (nK nF : Nat) (Z' : List Res) : Prop :=
  ∃ (K' : List BK) (vK vN : Value), Bst w w' S g tot (.slice none 0 0) (.slice none 0 0) vK vN [] K' Z' ∧ K'.length = nK + 2 * nF ∧ (∀ k ∈ K', k.rd ∈ Z') ∧ (∀ k ∈ K', k ∈ K ∨ (k.n ≤ 4398046515174 ∧ k.q ≤ nK + nF))
theorem nil_row (w : World) (e : TypeId) (sz : Nat) : (Res.row e sz (.slice none 0 0) 0 []).holds w := World.ownsRow_nil w 0 e sz
theorem end_rows {w0 w : World} {S : Nat → Prop} {a : Res} {e1 e2 : TypeId} {v1 v2 : Value} {n1 n2 : Nat} {x1 x2 : List Value} {L : List Res} (h : Bs w0 w S (a :: .row e1 1 v1 n1 x1 :: .row e2 1 v2 n2 x2 :: L)) :
    Bs w0 w S (a :: .row e1 1 (.slice none 0 0) 0 [] :: .row e2 1 (.slice none 0 0) 0 [] :: L) := by
  have h1 := Bs.weak (X := [a]) (r' := .row e1 1 (.slice none 0 0) 0 []) h trivial (nil_row w e1 1) (fun b hb => by cases hb)
  exact Bs.weak (X := [a, .row e1 1 (.slice none 0 0) 0 []]) (r' := .row e2 1 (.slice none 0 0) 0 []) h1 trivial (nil_row w e2 1) (fun b hb => by cases hb)

set_option maxHeartbeats 4000000 in
theorem write_any (w : World) (g : Nat) (tot : Nat) (F : List BF) (K : List BK) (vF vW vK vN : Value) (Z : List Res) (S : Nat → Prop) (h : Bst w w S g tot vF vW vK vN F K (F.map BF.row ++ Z))
    (hZ : ∀ z ∈ Z, ¬ z.turns) (hW : ∀ r ∈ F, r.was ∈ Z) (hK : ∀ k ∈ K, k.rd ∈ Z) (hS : ∀ b, w.heap.size ≤ b → S b) (hnF : F.length ≤ 1000) (hnK : K.length ≤ 100000) (hl : ∀ r ∈ F, r.l.length ≤ 4398046511104) (ht : tot ≤ 1000000000000000) :
    Calls Try.prog 103 #[.pointer (some ⟨g, 0, none⟩)] w fun e w' => e = .returned (.tuple #[]) ∧ ∃ Z' : List Res, (∀ z ∈ Z', ¬ z.turns) ∧ BkEnd w w' S g tot K K.length F.length Z' := by
  have HZ := hd hZ
  have HW := hd hW
  have HK := hd hK
  have HS := hd hS
  have HL := hd hl
  clear hZ hW hK hS hl
  go_enter Try.func103, Try.ntmps103
  go_upto_region 1 with (go_at_call 140; (with_reducible refine (look_any w g tot F vF vW vK vN F.length rfl (blk_of h.sp) (rowF_of h.sp) (rowW_of h.sp) (box_away h.sp).1 (box_away h.sp).2.1 ?_ ?_ (by omega) HL.out).mono ?_); (intro r hr; exact ⟨h.sp.all r.row (List.mem_append_right _ (List.mem_append_left _ (List.mem_map_of_mem hr))), fun e => (box_away h.sp).2.2 r.row (List.mem_append_left _ (List.mem_map_of_mem hr)) e⟩); (intro r hr; exact ⟨h.sp.all r.was (List.mem_append_right _ (List.mem_append_right _ (HW.out r hr))), (box_away h.sp).2.2 r.was (List.mem_append_right _ (HW.out r hr))⟩); rintro e w1 ⟨rfl, hK1, hB1⟩)
  have h1 : Bst w w1 S g tot vF vW vK vN F K (F.map BF.row ++ Z) := by
    exact Bs.mid (X := []) (r := .blk g 83 #[.int .i64 tot, vF, vW, vK, vN, .bool false]) h trivial hK1 hB1 (fun b hb => .inl hb) HS.out
  clear hK1 hB1 h
  obtain ⟨aK, cK, rfl, -⟩ := row_some (rowK_of h1.sp)
  obtain ⟨aF, cF, rfl, -⟩ := row_some (rowF_of h1.sp)
  obtain ⟨p1, p2, p3, p4, p5, p6⟩ := (blk_of h1.sp).c6
  obtain ⟨nF, hnF'⟩ : ∃ nF, F.length = nF := ⟨_, rfl⟩
  obtain ⟨nK, hnK'⟩ : ∃ nK, K.length = nK := ⟨_, rfl⟩
  rw [hnF'] at p2 hnF
  rw [hnK'] at p4 hnK
  have HNF := hd hnF'
  have HNK := hd hnK'
  clear hnF' hnK'
  go_wp2
  clear p1 p2 p3 p4 p5 p6
  go_loopw [3, 4] (fun i j wr => ∃ F1 F2 : List BF, F = F1 ++ F2 ∧ i = .int .i64 (F1.length : Int) ∧ Bst w wr S g tot (.slice aF F.length cF) vW (.slice aK K.length cK) vN F K ((mkd nK F1).map BF.row ++ (F2.map BF.row ++ Z))) (fun i _ _ => nF - (intOf i).toNat)
  case atStart => exact ⟨[], F, rfl, rfl, h1⟩
  case round =>
    obtain ⟨F1, F2, hFF, rfl, hB⟩ := hrel
    have HFF := hd hFF
    have hk : F1.length ≤ nF := by have := HNF.out; rw [hFF] at this; simp at this; omega
    clear hFF h1
    obtain ⟨p1, p2, p3, p4, p5, p6⟩ := (blk_of hB.sp).c6
    rw [HNF.out] at p2
    by_cases hlt : F1.length < nF
    · have e1 : (F1.length : Int) < (nF : Int) := by omega
      cases F2 with
      | nil => exact absurd hlt (by have := HNF.out; rw [HFF.out] at this; simp at this; omega)
      | cons r F2 =>
      go_wp2
      clear p1 p2 p3 p4 p5 p6
      obtain ⟨wo, rfl⟩ : ∃ wo : World, wo = wr := ⟨_, rfl⟩
      obtain ⟨k, hkn⟩ : ∃ k, F1.length = k := ⟨_, rfl⟩
      rw [hkn] at hlt e1 hk ⊢
      have HKN := hd hkn
      have hrl : r.l.length ≤ 4398046511104 := HL.out r (by rw [HFF.out]; simp)
      obtain ⟨n, hn⟩ : ∃ n, r.l.length = n := ⟨_, rfl⟩
      rw [hn] at hrl
      have HN := hd hn
      clear hkn hn
      go_loopw [4] (fun j wr => ∃ jj : Nat, j = .int .i64 (jj : Int) ∧ jj ≤ n ∧ Bst w wr S g tot (.slice aF F.length cF) vW (.slice aK K.length cK) vN F K ((mkd nK F1).map BF.row ++ part (nK + k) jj r :: (F2.map BF.row ++ Z))) (fun j _ => n - (intOf j).toNat)
      case atStart => exact ⟨0, rfl, by omega, by rw [part_zero]; exact hB⟩
      case round =>
        obtain ⟨jj, rfl, hj, hB2⟩ := hrel
        clear hB
        obtain ⟨p1, p2, p3, p4, p5, p6⟩ := (blk_of hB2.sp).c6
        rw [HNF.out] at p2
        obtain ⟨gF, cF', hvF, hcF, x, hx, pF, -⟩ := row_cell (rowF_of hB2.sp) (j := k) (by rw [HNF.out]; exact hlt)
        injection hvF with hvF hvL hvC
        clear hvL
        subst hvF
        subst hvC
        have hxr : x = r.v := by
          rw [List.getElem?_map, HFF.out, List.getElem?_append_right (by rw [HKN.out]; omega), HKN.out, Nat.sub_self] at hx
          simpa using hx.symm
        rw [hxr] at pF
        rw [HNF.out] at hcF
        clear hx hxr
        by_cases hjl : jj < n
        · have e2 : (jj : Int) < (n : Int) := by omega
          have hpt : (part (nK + k) jj r).holds wr := hB2.sp.all _ (by simp)
          obtain ⟨gr, cr, hvr, hcr, y, hy, pr, fr⟩ := row_cell hpt (j := jj) (by rw [HN.out]; exact hjl)
          have hput := part_put hpt (by rw [HN.out]; exact hjl) hvr
          have hB3 : Bst w (wr.setCell ⟨gr, jj, none⟩ (.int .i64 (Bm (nK + k) jj))) S g tot (.slice (some ⟨gF, 0, none⟩) F.length cF) vW (.slice aK K.length cK) vN F K ((mkd nK F1).map BF.row ++ part (nK + k) (jj + 1) r :: (F2.map BF.row ++ Z)) :=
            Bst.z hB2 trivial hput.2 hput.1 (fun b hb => .inl hb) HS.out
          rw [hvr, HN.out] at pF
          rw [HN.out] at hcr
          clear hB2 hpt hvr hy hput
          rw [show Bm (nK + k) jj = -1000003 * ((nK : Int) + (k : Int) + 1) - (jj : Int) by simp [Bm]] at hB3
          go_wp2
          go_roundw
          case rel => exact ⟨jj + 1, by go_num, by omega, hB3⟩
          case measure => simp [intOf]; omega
        · obtain rfl : jj = n := by omega
          have e2 : ¬ (jj : Int) < (jj : Int) := by omega
          obtain ⟨A, c, l, B, d⟩ := r
          have hv0 : (BF.mk A c l B d).v = .slice A jj c := by show Value.slice A l.length c = _; rw [show l.length = jj from HN.out]
          rw [hv0] at pF
          go_wp2
          go_roundw
          case rel =>
            refine ⟨F1 ++ [⟨A, c, l, B, d⟩], F2, by rw [HFF.out]; simp, ?_, ?_⟩
            · rw [List.length_append, HKN.out]; rfl
            · rw [mkd_snoc, List.map_append, List.append_assoc, HKN.out]
              have := hB2
              rw [← HN.out, part_full] at this
              exact this
          case measure => simp [intOf]; have := HKN.out; omega
    · obtain rfl : F2 = [] := List.eq_nil_of_length_eq_zero (by have := HNF.out; rw [HFF.out] at this; simp at this; omega)
      have hF1 : F1 = F := by rw [HFF.out, List.append_nil]
      subst hF1
      rw [List.map_nil, List.nil_append] at hB
      rw [HNF.out] at hB
      have e1 : ¬ (nF : Int) < (nF : Int) := by omega
      have hj0 := hB.sp.all
      clear hj0
      obtain ⟨m4, hm4⟩ : ∃ m4 : Nat, (4000 < tot → m4 = 4000) ∧ (¬ 4000 < tot → m4 = tot) := ⟨min tot 4000, by omega, by omega⟩
      have hm40 : m4 ≤ 4000 := by omega
      have HM4 := hd hm4
      clear hm4
      obtain ⟨gF, hgF⟩ : ∃ gF, mkd nK F1 = gF := ⟨_, rfl⟩
      have HG := hd hgF
      rw [hgF] at hB
      go_wp2
      clear p1 p2 p3 p4 p5 p6
      go_loopw [5, 6, 7] (fun i gv j wr => ∃ (G1 : List BF), i = .int .i64 (G1.length : Int) ∧ L2 w wr S g tot (.slice aF nF cF) vW F1 gF K nK nF G1) (fun i _ _ _ => nF - (intOf i).toNat)
      case atStart => exact ⟨[], rfl, gF, K, _, _, Z, rfl, hB, by rw [HNK.out]; rfl, hd ⟨HZ.out, HK.out, by simp [fks], fun k hk => .inl hk⟩⟩
      case round =>
        obtain ⟨G1, rfl, G2, K', vK, vN, Z', hgf, hB2, hK', HF⟩ := hrel
        clear hB
        have hlF : gF.length = nF := by rw [← HG.out, mkd_length]; exact HNF.out
        have hk : G1.length ≤ nF := by rw [hgf] at hlF; simp at hlF; omega
        obtain ⟨p1, p2, p3, p4, p5, p6⟩ := (blk_of hB2.sp).c6
        have HK' := hd hK'
        clear hK'
        by_cases hlt : G1.length < nF
        · have e2 : (G1.length : Int) < (nF : Int) := by omega
          cases G2 with
          | nil => exact absurd hlt (by rw [hgf] at hlF; simp at hlF; omega)
          | cons r G2 =>
          obtain ⟨m1, ⟨r0, m2, m3⟩, m4'⟩ := mkd_mem nK F1 G1 r G2 (by rw [HG.out]; exact hgf)
          have hrl : r.l.length ≤ 4398046511104 := by rw [m3]; exact HL.out r0 m2
          have HGF := hd hgf
          clear hgf m2 m3 r0 hlF
          obtain ⟨k, hkn⟩ : ∃ k, G1.length = k := ⟨_, rfl⟩
          rw [hkn] at hlt e2 hk m1 m4' ⊢
          have HKN := hd hkn
          clear hkn
          obtain ⟨gF', cF', hvF, hcF, x, hx, pF, -⟩ := row_cell (rowF_of hB2.sp) (j := k) (by rw [HNF.out]; exact hlt)
          injection hvF with hvF hvL hvC
          clear hvL
          subst hvF
          subst hvC
          rw [List.getElem?_map, m4'] at hx
          injection hx with hx
          subst hx
          rw [HNF.out] at hcF
          obtain ⟨E, hE1, hE2⟩ := gr_start (X := Hdr g tot (.slice (some ⟨gF', 0, none⟩) nF cF) vW vK vN F1 K') (Y := G2.map BF.row ++ Z') hB2 m1
          have HM1 := hd m1
          clear m1 m4' hB2
          obtain ⟨n, hn⟩ : ∃ n, r.l.length = n := ⟨_, rfl⟩
          rw [hn] at hrl hE1 hE2
          have HN := hd hn
          clear hn
          obtain ⟨A, c, l, B, d⟩ := r
          have hv0 : (BF.mk A c l B d).v = .slice A n c := by show Value.slice A l.length c = _; rw [show l.length = n from HN.out]
          rw [hv0] at pF hE1 hE2
          simp only at hE2
          have HE2 := hd hE2
          clear hv0 hE2
          go_wp2
          clear p1 p2 p3 p4 p5 p6
          obtain ⟨wo, rfl⟩ : ∃ wo : World, wo = wr := ⟨_, rfl⟩
          go_loopw [6, 7] (fun gv j wr => ∃ (jj : Nat) (E : List Res) (A1 : Option Addr) (c1 : Nat), j = .int .i64 (jj : Int) ∧ gv = .slice A1 (n + jj) c1 ∧ jj ≤ m4 + 70 ∧ Bs w wr S (Hdr g tot (.slice (some ⟨gF', 0, none⟩) nF cF) vW vK vN F1 K' ++ .row 3 1 gv (n + jj) (iv (Bms (nK + k) (n + jj))) :: (E ++ (G2.map BF.row ++ Z'))) ∧ Hid (Grw A n (nK + k) (n + jj) gv E)) (fun _ j _ => m4 + 70 - (intOf j).toNat)
          case atStart => exact ⟨0, E, A, c, rfl, rfl, by omega, hE1, HE2⟩
          case round =>
            obtain ⟨jj, E', A1, c1, rfl, rfl, hj, hB3, HE3⟩ := hrel
            clear hE1 HE2
            obtain ⟨p1, p2, p3, p4, p5, p6⟩ := (blk_of hB3.sp).c6
            by_cases hjl : jj < m4 + 70
            · have e3 : (jj : Int) < (m4 : Int) + 70 := by omega
              go_upto_region 14 with (fail)
              go_cut [76] from 69 to 76 (fun v W => v = .bool true ∧ W = wr)
              case first =>
                by_cases h4 : 4000 < tot
                · have h5 : 4000 < (tot : Int) := by omega
                  have h6 : (jj : Int) < 4000 + 70 := by have := HM4.out.1 h4; omega
                  go_wp2
                  go_meet
                  case rel => exact ⟨congrArg Value.bool (by first | rfl | (simp; omega)), rfl⟩
                · have h5 : ¬ 4000 < (tot : Int) := by omega
                  have h6 : (jj : Int) < (tot : Int) + 70 := by have := HM4.out.2 h4; omega
                  go_wp2
                  go_meet
                  case rel => exact ⟨congrArg Value.bool (by first | rfl | (simp; omega)), rfl⟩
              case rest =>
              obtain ⟨rfl, hwc⟩ := hcut
              rw [hwc]
              clear hwc
              have hrow : wr.ownsRow 0 3 1 (.slice A1 (n + jj) c1) (n + jj) (iv (Bms (nK + k) (n + jj))) := hB3.sp.all (.row 3 1 (.slice A1 (n + jj) c1) (n + jj) (iv (Bms (nK + k) (n + jj)))) (by simp)
              obtain ⟨i0, hi0, hz0, hz1, hz2⟩ := info_parts info3B
              go_wp2_with (((with_reducible refine wl_app2 (.tmp 79) (.tmp 88) 31 3 i0 _ 1 8 Try.underlying31 hi0 hz0 hz1 hz2 ?_ (by omega) (.slice A1 (n + jj) c1) (n + jj) _ ?_ ((Ext.new wr _).own hrow) ⟨wr.heap.size, 0, none⟩ 1 1 [.int .i64 (-1000003 * ((nK : Int) + (k : Int) + 1) - ((n : Int) + (jj : Int)))] ?_ (Rd.cell1 _ _ _) (one_int1 _ _) (by omega) (by omega) ?_); exact rfl; exact rfl; exact rfl; intro v2 w2 hA2))
              rw [show -1000003 * ((nK : Int) + (k : Int) + 1) - ((n : Int) + (jj : Int)) = Bm (nK + k) (n + jj) by simp [Bm]] at hA2
              obtain ⟨E2, hB4, hE4⟩ := gr_step hB3 hA2 HE3.out (by omega) HS.out
              obtain ⟨A2, c2, rfl, -⟩ := row_some (hB4.sp.all (.row 3 1 v2 (n + jj + 1) (iv (Bms (nK + k) (n + jj + 1)))) (by simp))
              have HE4 := hd hE4
              clear hE4 hA2 hrow
              go_roundw
              case rel => exact ⟨jj + 1, E2, A2, c2, by go_num, rfl, by omega, hB4, HE4⟩
              case measure => simp [intOf]; omega
            · obtain rfl : jj = m4 + 70 := by omega
              have e3 : ¬ ((m4 + 70 : Nat) : Int) < (m4 : Int) + 70 := by omega
              go_upto_region 14 with (fail)
              go_cut [76] from 69 to 76 (fun v W => v = .bool false ∧ W = wr)
              case first =>
                by_cases h4 : 4000 < tot
                · have h5 : 4000 < (tot : Int) := by omega
                  have h6 : ¬ ((m4 + 70 : Nat) : Int) < 4000 + 70 := by have := HM4.out.1 h4; omega
                  go_wp2
                  go_meet
                  case rel => exact ⟨congrArg Value.bool (by first | rfl | (simp; omega)), rfl⟩
                · have h5 : ¬ 4000 < (tot : Int) := by omega
                  have h6 : ¬ ((m4 + 70 : Nat) : Int) < (tot : Int) + 70 := by have := HM4.out.2 h4; omega
                  go_wp2
                  go_meet
                  case rel => exact ⟨congrArg Value.bool (by first | rfl | (simp; omega)), rfl⟩
              case rest =>
              obtain ⟨rfl, hwc⟩ := hcut
              rw [hwc]
              clear hwc
              obtain ⟨A', c', hv', hB4⟩ := gr_end (X := Hdr g tot (.slice (some ⟨gF', 0, none⟩) nF cF) vW vK vN F1 K') hB3 HE3.out (by omega)
              injection hv' with h1 _ h2
              subst h1
              subst h2
              obtain ⟨N, hN⟩ : ∃ N, n + (m4 + 70) = N := ⟨_, rfl⟩
              have hNle : N ≤ 4398046515174 := by omega
              rw [hN] at hB4 ⊢
              clear hB3 HE3
              have hkl : K'.length ≤ 101000 := by have := HK'.out; have := HKN.out; omega
              have hrowK : wr.ownsRow 0 31 1 vK K'.length (K'.map BK.v) := rowK_of hB4.sp
              obtain ⟨i0, hi0, hz0, hz1, hz2⟩ := info_parts info31
              obtain ⟨i1, hi1, hy0, hy1, hy2⟩ := info_parts info3B
              go_upto_region 18 with ((with_reducible refine wl_app2 (.tmp 94) (.tmp 96) 81 31 i0 _ 1 24 Try.underlying81 hi0 hz0 hz1 hz2 ?_ (by omega) vK K'.length _ ?_ ((Ext.new wr _).own hrowK) ⟨wr.heap.size, 0, none⟩ 1 1 [.slice A1 N c1] ?_ (Rd.cell1 _ _ _) (one_sl A1 N c1) (by omega) (by omega) ?_); exact rfl; exact rfl; exact rfl; intro v2 w2 hA2; obtain ⟨A2, c2, rfl, -⟩ := own_form hA2.own; have hB5 := Bs.app (X := [.blk g 83 #[.int .i64 tot, .slice (some ⟨gF', 0, none⟩) nF cF, vW, vK, vN, .bool false], .row 31 1 (.slice (some ⟨gF', 0, none⟩) nF cF) F1.length (F1.map BF.v), .row 31 1 vW F1.length (F1.map BF.u)]) (hB4.alloc _) hA2 HS.out; have hb5 : Blk w2 g 83 #[.int .i64 tot, .slice (some ⟨gF', 0, none⟩) nF cF, vW, vK, vN, .bool false] := Sp.head hB5.sp; obtain ⟨q1, q2, q3, q4, q5, q6⟩ := hb5.c6; have f4 := hb5.free 3)
              have hB6 := Bs.set (X := []) hB5 3 (.slice A2 (K'.length + 1) c2) HS.out
              clear hA2 hrowK hB4 hB5 q1 q2 q3 q4 q5 q6 f4 p1 p2 p3 p4 p5 p6
              generalize w2.setCell ⟨g, 3, none⟩ (.slice A2 (K'.length + 1) c2) = W3 at hB6 ⊢
              generalize hv2 : Value.slice A2 (K'.length + 1) c2 = v2 at hB6 ⊢
              have hb6 : Blk W3 g 83 #[.int .i64 tot, .slice (some ⟨gF', 0, none⟩) nF cF, vW, v2, vN, .bool false] := Sp.head hB6.sp
              obtain ⟨p1, p2, p3, p4, p5, p6⟩ := hb6.c6
              have hrowN : W3.ownsRow 0 3 1 vN K'.length (K'.map BK.num) := hB6.sp.all (.row 3 1 vN K'.length (K'.map BK.num)) (by simp)
              go_wp2_with ((with_reducible refine wl_app2 (.tmp 104) (.tmp 108) 31 3 i1 _ 1 8 Try.underlying31 hi1 hy0 hy1 hy2 ?_ (by omega) vN K'.length _ ?_ ((Ext.new W3 _).own hrowN) ⟨W3.heap.size, 0, none⟩ 1 1 [.int .i64 ((nK : Int) + (k : Int))] ?_ (Rd.cell1 _ _ _) (one_int1 _ _) (by omega) (by omega) ?_); exact rfl; exact rfl; exact rfl; intro v4 w4 hA4; obtain ⟨A4, c4, rfl, -⟩ := own_form hA4.own; have hB7 := Bs.app (X := [.blk g 83 #[.int .i64 tot, .slice (some ⟨gF', 0, none⟩) nF cF, vW, v2, vN, .bool false], .row 31 1 (.slice (some ⟨gF', 0, none⟩) nF cF) F1.length (F1.map BF.v), .row 31 1 vW F1.length (F1.map BF.u), .row 31 1 v2 (K'.length + 1) (K'.map BK.v ++ [.slice A1 N c1])]) (hB6.alloc _) hA4 HS.out; have hb7 : Blk w4 g 83 #[.int .i64 tot, .slice (some ⟨gF', 0, none⟩) nF cF, vW, v2, vN, .bool false] := Sp.head hB7.sp; obtain ⟨q1, q2, q3, q4, q5, q6⟩ := hb7.c6; have f5 := hb7.free 4)
              have hB8 := Bs.set (X := []) hB7 4 (.slice A4 (K'.length + 1) c4) HS.out
              have hB9 : Bst w (w4.setCell ⟨g, 4, none⟩ (.slice A4 (K'.length + 1) c4)) S g tot (.slice (some ⟨gF', 0, none⟩) nF cF) vW v2 (.slice A4 (K'.length + 1) c4) F1 (K' ++ [⟨A1, N, c1, nK + k⟩]) (G2.map BF.row ++ (.rd 1 A n (iv (Bms (nK + k) n)) :: (BK.mk A1 N c1 (nK + k)).rd :: Z')) := by
                have e1 : (K' ++ [BK.mk A1 N c1 (nK + k)]).length = K'.length + 1 := by simp
                have e2 : (K' ++ [BK.mk A1 N c1 (nK + k)]).map BK.v = K'.map BK.v ++ [.slice A1 N c1] := by simp [BK.v]
                have e3 : (K' ++ [BK.mk A1 N c1 (nK + k)]).map BK.num = K'.map BK.num ++ [.int .i64 ((nK : Int) + (k : Int))] := by simp [BK.num]
                show Bs _ _ _ _
                unfold Hdr
                rw [e1, e2, e3]
                exact hB8
              clear hB8 hB7 hb7 hA4 hrowN hB6 q1 q2 q3 q4 q5 q6 f5
              have hL : L2 w (w4.setCell ⟨g, 4, none⟩ (.slice A4 (K'.length + 1) c4)) S g tot (.slice (some ⟨gF', 0, none⟩) nF cF) vW F1 gF K nK nF (G1 ++ [⟨A, c, l, B, d⟩]) := by
                refine ⟨G2, K' ++ [⟨A1, N, c1, nK + k⟩], v2, .slice A4 (K'.length + 1) c4, .rd 1 A n (iv (Bms (nK + k) n)) :: (BK.mk A1 N c1 (nK + k)).rd :: Z', ?_, hB9, ?_, hd ⟨?_, ?_, ?_, ?_⟩⟩
                · rw [HGF.out]; simp
                · rw [List.length_append, List.length_append, HK'.out]; simp [Nat.add_assoc]
                · intro z hz
                  rcases List.mem_cons.mp hz with rfl | hz
                  · exact fun h => h
                  · rcases List.mem_cons.mp hz with rfl | hz
                    · exact fun h => h
                    · exact HF.out.1 z hz
                · intro x hx
                  rcases List.mem_append.mp hx with hx | hx
                  · exact List.mem_cons_of_mem _ (List.mem_cons_of_mem _ (HF.out.2.1 x hx))
                  · obtain rfl := List.mem_singleton.mp hx
                    simp
                · intro x hx
                  rw [fks_snoc] at hx
                  rcases List.mem_append.mp hx with hx | hx
                  · exact List.mem_cons_of_mem _ (List.mem_cons_of_mem _ (HF.out.2.2.1 x hx))
                  · obtain rfl := List.mem_singleton.mp hx
                    rw [HKN.out]
                    show Res.rd 1 A l.length (iv (Bms (nK + k) l.length)) ∈ _
                    rw [show l.length = n from HN.out]
                    simp
                · intro x hx
                  rcases List.mem_append.mp hx with hx | hx
                  · exact HF.out.2.2.2 x hx
                  · obtain rfl := List.mem_singleton.mp hx
                    exact .inr ⟨hNle, by show nK + k ≤ nK + nF; omega⟩
              clear hB9
              go_roundw
              case rel =>
                refine ⟨G1 ++ [⟨A, c, l, B, d⟩], by rw [List.length_append, HKN.out]; rfl, ?_⟩
                first | exact hL | (rw [HNF.out]; exact hL)
              case measure => simp [intOf]; have := HKN.out; omega
        · obtain rfl : G2 = [] := List.eq_nil_of_length_eq_zero (by rw [hgf] at hlF; simp at hlF; omega)
          have hG1 : G1 = gF := by rw [hgf, List.append_nil]
          subst hG1
          have e2 : ¬ (G1.length : Int) < (nF : Int) := by omega
          rw [List.map_nil, List.nil_append] at hB2
          have hGn : G1.length = nF := hlF
          have HGN := hd hGn
          have HGF := hd hgf
          clear hgf hlF hGn
          go_wp2
          clear p1 p2 p3 p4 p5 p6
          obtain ⟨wo, rfl⟩ : ∃ wo : World, wo = wr := ⟨_, rfl⟩
          go_loopw [8] (fun i wr => ∃ (k : Nat), i = .int .i64 (k : Int) ∧ k ≤ nF ∧ L3 w wr S g tot (.slice aF nF cF) vW F1 K nK nF Z' k) (fun i _ => nF - (intOf i).toNat)
          case atStart => exact ⟨0, rfl, by omega, K', vK, vN, hB2, by have := HK'.out; have := HGN.out; omega, hd ⟨HF.out.2.1, HF.out.2.2.2⟩⟩
          case round =>
            obtain ⟨k, rfl, hk3, K3, vK3, vN3, hB3, hK3, HF3⟩ := hrel
            have HK3 := hd hK3
            clear hB2 hK3
            obtain ⟨p1, p2, p3, p4, p5, p6⟩ := (blk_of hB3.sp).c6
            by_cases hlt3 : k < nF
            · have e4 : (k : Int) < (nF : Int) := by omega
              obtain ⟨gF', cF', hvF, hcF, x, hx, pF, -⟩ := row_cell (rowF_of hB3.sp) (j := k) (by rw [HNF.out]; exact hlt3)
              injection hvF with hvF hvL hvC
              clear hvL
              subst hvF
              subst hvC
              rw [HNF.out] at hcF
              obtain ⟨r, hr1, hr2⟩ : ∃ r, F1[k]? = some r ∧ x = r.v := by
                rw [List.getElem?_map] at hx
                cases hF1 : F1[k]? with
                | none => rw [hF1] at hx; cases hx
                | some r => rw [hF1] at hx; exact ⟨r, rfl, by simpa using hx.symm⟩
              subst hr2
              clear hx
              have HR := hd hr1
              clear hr1
              obtain ⟨A, c, l, B, d⟩ := r
              obtain ⟨n, hn⟩ : ∃ n, l.length = n := ⟨_, rfl⟩
              have hv0 : (BF.mk A c l B d).v = .slice A n c := by show Value.slice A l.length c = _; rw [hn]
              rw [hv0] at pF
              have HN := hd hn
              clear hn hv0
              have hkl : K3.length ≤ 102000 := by have := HK3.out; omega
              have hrowK : wr.ownsRow 0 31 1 vK3 K3.length (K3.map BK.v) := rowK_of hB3.sp
              obtain ⟨i0, hi0, hz0, hz1, hz2⟩ := info_parts info31
              obtain ⟨i1, hi1, hy0, hy1, hy2⟩ := info_parts info3B
              go_upto_region 22 with (fail)
              go_cut [] from 121 to 136 (fun W => ∃ v2, Bs w W S ([.blk g 83 #[.int .i64 tot, .slice (some ⟨gF', 0, none⟩) nF cF, vW, v2, vN3, .bool false], .row 31 1 (.slice (some ⟨gF', 0, none⟩) nF cF) F1.length (F1.map BF.v), .row 31 1 vW F1.length (F1.map BF.u)] ++ .row 31 1 v2 (K3.length + 1) (K3.map BK.v ++ [.slice A n c]) :: .row 3 1 vN3 K3.length (K3.map BK.num) :: Z'))
              case first =>
                have hBa := hB3.alloc (.cells #[.slice A n c] 31)
                obtain ⟨pa1, pa2, pa3, pa4, pa5, pa6⟩ := (blk_of hBa.sp).c6
                have pFa := (Ext.new wr (.cells #[.slice A n c] 31)).cell pF
                clear p1 p3 p5 p6 pa1 pa3 pa5 pa6
                go_region_law ((refine step_app2 (by rfl) (.tmp 125) (.tmp 133) 81 (by rfl) 31 i0 _ 1 24 Try.underlying81 hi0 hz0 hz1 hz2 (by rfl) (by omega) vK3 K3.length (K3.map BK.v) (by rfl) (((Ext.refl _).alloc _).drew.own hrowK) ⟨wr.heap.size, 0, none⟩ 1 1 [.slice A n c] (by rfl) (Rd.cell1 _ _ _).drew (one_sl A n c) (by omega) (by omega) ?_; intro v2 w2 hA2; obtain ⟨A2, c2, rfl, -⟩ := own_form hA2.own; have hB5 := Bs.app (X := [.blk g 83 #[.int .i64 tot, .slice (some ⟨gF', 0, none⟩) nF cF, vW, vK3, vN3, .bool false], .row 31 1 (.slice (some ⟨gF', 0, none⟩) nF cF) F1.length (F1.map BF.v), .row 31 1 vW F1.length (F1.map BF.u)]) (hB3.alloc _).drew hA2 HS.out; have hb5 : Blk w2 g 83 #[.int .i64 tot, .slice (some ⟨gF', 0, none⟩) nF cF, vW, vK3, vN3, .bool false] := Sp.head hB5.sp; obtain ⟨q1, q2, q3, q4, q5, q6⟩ := hb5.c6; have f4 := hb5.free 3))
                all_goals go_wp2
                all_goals go_meet
                all_goals case rel => exact ⟨_, Bs.set (X := []) hB5 3 (.slice A2 (K3.length + 1) c2) HS.out⟩
              case rest =>
              obtain ⟨v2, hB6⟩ := hcut
              clear hrowK hB3 p1 p2 p3 p4 p5 p6 pF
              obtain ⟨W3, rfl⟩ : ∃ W3, W3 = wc := ⟨_, rfl⟩
              have hb6 : Blk W3 g 83 #[.int .i64 tot, .slice (some ⟨gF', 0, none⟩) nF cF, vW, v2, vN3, .bool false] := Sp.head hB6.sp
              obtain ⟨p1, p2, p3, p4, p5, p6⟩ := hb6.c6
              have hrowN : W3.ownsRow 0 3 1 vN3 K3.length (K3.map BK.num) := hB6.sp.all (.row 3 1 vN3 K3.length (K3.map BK.num)) (by simp)
              go_wp2_with ((with_reducible refine wl_app2 (.tmp 141) (.tmp 145) 31 3 i1 _ 1 8 Try.underlying31 hi1 hy0 hy1 hy2 ?_ (by omega) vN3 K3.length _ ?_ ((Ext.new W3 _).own hrowN) ⟨W3.heap.size, 0, none⟩ 1 1 [.int .i64 ((nK : Int) + (k : Int))] ?_ (Rd.cell1 _ _ _) (one_int1 _ _) (by omega) (by omega) ?_); exact rfl; exact rfl; exact rfl; intro v4 w4 hA4; obtain ⟨A4, c4, rfl, -⟩ := own_form hA4.own; have hB7 := Bs.app (X := [.blk g 83 #[.int .i64 tot, .slice (some ⟨gF', 0, none⟩) nF cF, vW, v2, vN3, .bool false], .row 31 1 (.slice (some ⟨gF', 0, none⟩) nF cF) F1.length (F1.map BF.v), .row 31 1 vW F1.length (F1.map BF.u), .row 31 1 v2 (K3.length + 1) (K3.map BK.v ++ [.slice A n c])]) (hB6.alloc _) hA4 HS.out; have hb7 : Blk w4 g 83 #[.int .i64 tot, .slice (some ⟨gF', 0, none⟩) nF cF, vW, v2, vN3, .bool false] := Sp.head hB7.sp; obtain ⟨q1, q2, q3, q4, q5, q6⟩ := hb7.c6; have f5 := hb7.free 4)
              have hB8 := Bs.set (X := []) hB7 4 (.slice A4 (K3.length + 1) c4) HS.out
              have hB9 : Bst w (w4.setCell ⟨g, 4, none⟩ (.slice A4 (K3.length + 1) c4)) S g tot (.slice (some ⟨gF', 0, none⟩) nF cF) vW v2 (.slice A4 (K3.length + 1) c4) F1 (K3 ++ [⟨A, n, c, nK + k⟩]) Z' := by
                have e1 : (K3 ++ [BK.mk A n c (nK + k)]).length = K3.length + 1 := by simp
                have e2 : (K3 ++ [BK.mk A n c (nK + k)]).map BK.v = K3.map BK.v ++ [.slice A n c] := by simp [BK.v]
                have e3 : (K3 ++ [BK.mk A n c (nK + k)]).map BK.num = K3.map BK.num ++ [.int .i64 ((nK : Int) + (k : Int))] := by simp [BK.num]
                show Bs _ _ _ _
                unfold Hdr
                rw [e1, e2, e3]
                exact hB8
              clear hB8 hB7 hb7 hA4 hrowN hB6 q1 q2 q3 q4 q5 q6 f5
              have hL : L3 w (w4.setCell ⟨g, 4, none⟩ (.slice A4 (K3.length + 1) c4)) S g tot (.slice (some ⟨gF', 0, none⟩) nF cF) vW F1 K nK nF Z' (k + 1) := by
                refine ⟨K3 ++ [⟨A, n, c, nK + k⟩], v2, .slice A4 (K3.length + 1) c4, hB9, ?_, hd ⟨?_, ?_⟩⟩
                · rw [List.length_append, HK3.out]; rfl
                · intro x hx
                  rcases List.mem_append.mp hx with hx | hx
                  · exact HF3.out.1 x hx
                  · obtain rfl := List.mem_singleton.mp hx
                    exact HF.out.2.2.1 _ (by have h7 := fks_mkd (q := nK) (a := nK) HR.out; rw [HG.out] at h7; simp only at h7; rw [HN.out] at h7; exact h7)
                · intro x hx
                  rcases List.mem_append.mp hx with hx | hx
                  · exact HF3.out.2 x hx
                  · obtain rfl := List.mem_singleton.mp hx
                    have := HL.out _ (List.mem_of_getElem? HR.out)
                    exact .inr ⟨by have := HN.out; simp only at *; omega, by show nK + k ≤ nK + nF; omega⟩
              clear hB9
              go_roundw
              case rel =>
                refine ⟨k + 1, by go_num, by omega, ?_⟩
                first | exact hL | (rw [HNF.out]; exact hL)
              case measure => simp [intOf]; omega
            · obtain rfl : k = nF := by omega
              have e4 : ¬ (k : Int) < (k : Int) := by omega
              have q2 := (blk_of hB3.sp).free 1
              have hBx := Bs.set (X := []) hB3 1 (.slice none 0 0) HS.out
              have hbx : Blk (wr.setCell ⟨g, 1, none⟩ (.slice none 0 0)) g 83 #[.int .i64 tot, .slice none 0 0, vW, vK3, vN3, .bool false] := Sp.head hBx.sp
              have q3 := hbx.free 2
              have q3c := hbx.c6.2.2.1
              have hBy := Bs.set (X := []) hBx 2 (.slice none 0 0) HS.out
              have hB9 : Bst w ((wr.setCell ⟨g, 1, none⟩ (.slice none 0 0)).setCell ⟨g, 2, none⟩ (.slice none 0 0)) S g tot (.slice none 0 0) (.slice none 0 0) vK3 vN3 [] K3 Z' :=
                end_rows hBy
              have HB := hd (show BkEnd w _ S g tot K nK k Z' from ⟨K3, vK3, vN3, hB9, by have := HK3.out; omega, HF3.out.1, HF3.out.2⟩)
              clear hBx hBy hbx hB9 hB3
              go_wp2
              go_end0
              exact ⟨rfl, Z', HF.out.1, by have := HB.out; rw [HNF.out, HNK.out]; exact this⟩

end Lg
end Go.Proofs.Ytfcbedkidjclhaa
namespace Go.Proofs.Ytfcbedkidjclhaa
open Go.RowKit
set_option maxRecDepth 100000
set_option linter.unusedSimpArgs false
set_option linter.unusedVariables false
namespace Lg

theorem CopyInts_any (A : Option Addr) (n c : Nat) (xs : List Int) (w : World) (h : Rd w 1 A n (iv xs)) (hn : n * 8 ≤ 140737488355328) :
    Calls Try.prog 102 #[.slice A n c] w fun e w' => ∃ A' c', e = .returned (.slice A' n c') ∧ w'.ownsRow w.heap.size 3 1 (.slice A' n c') n (iv xs) ∧ Ext w w' := by
  obtain ⟨i0, hi0, hz0, hz1, hz2⟩ := info_parts info3B
  go_enter Try.func102, Try.ntmps102
  go_wp2_with (at_builtin; refine wpList_app _ rfl _ _ 31 rfl w.heap.size 3 i0 _ 1 8 Try.underlying31 hi0 hz0 hz1 hz2 rfl (by omega) (.slice none 0 0) 0 [] rfl (World.ownsRow_nil _ _ _ _) A n c _ rfl h (iv_one _) (by omega) (by omega) (Nat.le_refl _) ?_; intro v1 w1 hown1 hg1 hat1)
  go_ret
  obtain ⟨A', c', rfl, _⟩ := own_form hown1
  simp only [Nat.zero_add, List.nil_append] at hown1 ⊢
  exact ⟨A', c', rfl, hown1, (Ext.refl _).grown hg1 (by simp [Value.ownBlock])⟩

theorem iv_cell {w : World} {A : Option Addr} {n q : Nat} (h : Rd w 1 A n (iv (Bms q n))) {j : Nat} (hj : j < n) :
    ∃ b o, A = some ⟨b, o, none⟩ ∧ w.cell? ⟨b, o + j, none⟩ = some (.int .i64 (Bm q j)) := by
  obtain ⟨b, o, rfl, hc⟩ := h.form (by omega) (by omega)
  refine ⟨b, o, rfl, hc j _ ?_⟩
  rw [iv, List.getElem?_map, Bms_get hj]
  rfl

set_option maxHeartbeats 2000000 in
theorem Holds_any (w : World) (g : Nat) (tot : Int) (F : List BF) (K : List BK) (vF vW vK vN : Value) (Z : List Res) (h : Sp w (Hdr g tot vF vW vK vN F K ++ (F.map BF.row ++ Z)))
    (hW : ∀ r ∈ F, r.was ∈ Z) (hK : ∀ k ∈ K, k.rd ∈ Z) (hnF : F.length ≤ 1000) (hnK : K.length ≤ 100000) (hb : ∀ k ∈ K, k.n ≤ 4398046515174 ∧ k.q ≤ 200000) (hl : ∀ r ∈ F, r.l.length ≤ 4398046511104) :
    Calls Try.prog 104 #[.pointer (some ⟨g, 0, none⟩)] w fun e w' => e = .returned (.bool true) ∧ Kp (fun b => b = g) w w' ∧ Blk w' g 83 #[.int .i64 tot, vF, vW, vK, vN, .bool false] := by
  have HW := hd hW
  have HK := hd hK
  have HB := hd hb
  have HA := hd (box_away h)
  have HKA := hd (show vK.ownBlock ≠ some g from fun e => Sp.away (r := .blk g 83 #[.int .i64 tot, vF, vW, vK, vN, .bool false]) h (.row 31 1 vK K.length (K.map BK.v)) (by simp [Hdr]) (.inl trivial) g rfl e)
  have HNA := hd (show vN.ownBlock ≠ some g from fun e => Sp.away (r := .blk g 83 #[.int .i64 tot, vF, vW, vK, vN, .bool false]) h (.row 3 1 vN K.length (K.map BK.num)) (by simp [Hdr]) (.inl trivial) g rfl e)
  clear hW hK hb
  go_enter Try.func104, Try.ntmps104
  go_upto_region 2 with (go_at_call 140; (with_reducible refine (look_any w g tot F vF vW vK vN F.length rfl (blk_of h) (rowF_of h) (rowW_of h) HA.out.1 HA.out.2.1 ?_ ?_ (by omega) hl).mono ?_); (intro r hr; exact ⟨h.all r.row (List.mem_append_right _ (List.mem_append_left _ (List.mem_map_of_mem hr))), fun e => HA.out.2.2 r.row (List.mem_append_left _ (List.mem_map_of_mem hr)) e⟩); (intro r hr; exact ⟨h.all r.was (List.mem_append_right _ (List.mem_append_right _ (HW.out r hr))), HA.out.2.2 r.was (List.mem_append_right _ (HW.out r hr))⟩); rintro e w1 ⟨rfl, hK1, hB1⟩)
  obtain ⟨nK, hnK'⟩ : ∃ nK, K.length = nK := ⟨_, rfl⟩
  have hrK := rowK_of h
  have hrN := rowN_of h
  rw [hnK'] at hnK hrK hrN
  have HNK := hd hnK'
  clear hnK'
  obtain ⟨aK, cK, rfl, hcK, -⟩ := row_some hrK
  obtain ⟨aN, cN, rfl, hcN, -⟩ := row_some hrN
  go_wp2
  go_loopw [3, 4] (fun i _ wr => ∃ k : Nat, i = .int .i64 (k : Int) ∧ k ≤ nK ∧ Kp (fun b => b = g) w wr ∧ Blk wr g 83 #[.int .i64 tot, vF, vW, .slice aK nK cK, .slice aN nK cN, .bool false]) (fun i _ _ => nK - (intOf i).toNat)
  case atStart => exact ⟨0, rfl, by omega, hK1, hB1⟩
  case round =>
    obtain ⟨k, rfl, hk, hKr, hBr⟩ := hrel
    clear hK1 hB1
    obtain ⟨p1, p2, p3, p4, p5, p6⟩ := hBr.c6
    by_cases hlt : k < nK
    · have e1 : (k : Int) < (nK : Int) := by omega
      have hkK : k < K.length := by rw [HNK.out]; exact hlt
      obtain ⟨gK, cK', hvK, -, x, hx, pK, -⟩ := row_cell hrK (j := k) hlt
      obtain ⟨gN, cN', hvN, -, y, hy, pN, -⟩ := row_cell hrN (j := k) hlt
      injection hvK with hvK hvL hvC
      clear hvL
      subst hvK
      subst hvC
      injection hvN with hvN hvL hvC
      clear hvL
      subst hvN
      subst hvC
      rw [List.getElem?_map, List.getElem?_eq_getElem hkK] at hx hy
      injection hx with hx
      injection hy with hy
      subst hx
      subst hy
      have hrd0 := h.all K[k].rd (by have := HK.out K[k] (List.getElem_mem hkK); simp [this])
      have hrf := HA.out.2.2 K[k].rd (by have := HK.out K[k] (List.getElem_mem hkK); simp [this])
      have hbd := HB.out K[k] (List.getElem_mem hkK)
      generalize K[k] = r at pK pN hrd0 hrf hbd
      obtain ⟨A, n, c, q⟩ := r
      simp only [BK.v, BK.num] at pK pN hbd
      obtain ⟨hn9, hq9⟩ := hbd
      have hgK : gK ≠ g := fun e => HKA.out (by rw [e]; rfl)
      have hgN : gN ≠ g := fun e => HNA.out (by rw [e]; rfl)
      go_wp2
      clear p1 p2 p3 p4 p5 p6
      obtain ⟨wo, rfl⟩ : ∃ wo : World, wo = wr := ⟨_, rfl⟩
      go_loopw [4] (fun j wr => ∃ jj : Nat, j = .int .i64 (jj : Int) ∧ jj ≤ n ∧ Kp (fun b => b = g) w wr ∧ Blk wr g 83 #[.int .i64 tot, vF, vW, .slice (some ⟨gK, 0, none⟩) nK cK, .slice (some ⟨gN, 0, none⟩) nK cN, .bool false]) (fun j _ => n - (intOf j).toNat)
      case atStart => exact ⟨0, rfl, by omega, hKr, hBr⟩
      case round =>
        obtain ⟨jj, rfl, hj, hKi, hBi⟩ := hrel
        clear hKr hBr
        obtain ⟨p1, p2, p3, p4, p5, p6⟩ := hBi.c6
        have q6 := hBi.free 5
        have pK2 := hKi.cell pK hgK
        have pN2 := hKi.cell pN hgN
        by_cases hjl : jj < n
        · have e2 : (jj : Int) < (n : Int) := by omega
          have hrd := Res.keep hrd0 hKi (fun b e1 e2 => hrf (by rw [← e2]; exact e1))
          obtain ⟨b, o, rfl, pc⟩ := iv_cell hrd.2 hjl
          rw [show Bm q jj = -1000003 * ((q : Int) + 1) - (jj : Int) from rfl] at pc
          clear hrd
          go_upto_region 8 with (fail)
          refine wp_region_still_tail 31 (by kernel_rfl) (by kernel_rfl) ?_
          simp only [List.take_succ_cons, List.take_zero, List.drop_succ_cons, List.drop_zero]
          repeat still_step
          try refine wpStill_nil ?_
          go_wp2
          go_roundw
          case rel => exact ⟨jj + 1, by go_num, by omega, hKi.drew.set ⟨g, 5, none⟩ (.inl rfl) _, hBi.drew.set_ 5 _⟩
          case measure => simp [intOf]; omega
        · obtain rfl : jj = n := by omega
          have e2 : ¬ (jj : Int) < (jj : Int) := by omega
          go_wp2
          go_roundw
          case rel => exact ⟨k + 1, by go_num, by omega, hKi, hBi⟩
          case measure => simp [intOf]; omega
    · have e1 : ¬ (k : Int) < (nK : Int) := by omega
      go_wp2
      go_ret
      exact ⟨rfl, hKr, hBr⟩

def Bok (w : World) (S : Nat → Prop) (g c tot : Nat) (F : List BF) (K : List BK) (vF vW vK vN : Value) (Z : List Res) : Prop :=
  Sp w (Hdr g (tot : Int) vF vW vK vN F K ++ (F.map BF.row ++ Z)) ∧ In S (Hdr g (tot : Int) vF vW vK vN F K ++ (F.map BF.row ++ Z)) ∧ (∀ z ∈ Z, ¬ z.turns) ∧ (∀ r ∈ F, r.was ∈ Z) ∧ (∀ k ∈ K, k.rd ∈ Z) ∧
    F.length ≤ 2 ∧ (∀ r ∈ F, r.l.length ≤ 4398046511104) ∧ (∀ k ∈ K, k.n ≤ 4398046515174 ∧ k.q ≤ 200000) ∧ K.length + 2 * F.length ≤ 2 * c ∧ tot ≤ c * 4398046511104
/-- a book in order, all that it knows in a set; so many lists were handed out -/
def BookOk (w : World) (S : Nat → Prop) (g c : Nat) : Prop := ∃ tot F K vF vW vK vN Z, Bok w S g c tot F K vF vW vK vN Z

theorem BookOk.new {w : World} {g : Nat} (h : Blk w g 83 #[.int .i64 0, .slice none 0 0, .slice none 0 0, .slice none 0 0, .slice none 0 0, .bool false]) : BookOk w (fun b => b = g) g 0 := by
  have hn : ∀ e b, ¬ (Res.row e 1 (.slice none 0 0) 0 []).foot b := fun e b hb => by cases hb
  refine ⟨0, [], [], .slice none 0 0, .slice none 0 0, .slice none 0 0, .slice none 0 0, [], ⟨?_, ?_⟩, ?_, by simp, by simp, by simp, by simp, by simp, by simp, by simp, by simp⟩
  · intro r hr
    simp only [Hdr, List.map_nil, List.nil_append, List.append_nil, List.length_nil, List.mem_cons, List.not_mem_nil, or_false] at hr
    rcases hr with rfl | rfl | rfl | rfl | rfl
    · exact h
    all_goals exact nil_row w _ 1
  · simp only [Hdr, List.map_nil, List.nil_append, List.append_nil, List.length_nil, List.pairwise_cons, List.mem_cons, List.not_mem_nil, or_false]
    refine ⟨?_, ?_, ?_, ?_, by simp, by simp⟩
    · rintro s (rfl | rfl | rfl | rfl) _ b hb hc <;> cases hc
    · rintro s (rfl | rfl | rfl) _ b hb hc <;> cases hc
    · rintro s (rfl | rfl) _ b hb hc <;> cases hc
    · rintro s rfl _ b hb hc; cases hc
  · intro r hr b hb
    simp only [Hdr, List.map_nil, List.nil_append, List.append_nil, List.length_nil, List.mem_cons, List.not_mem_nil, or_false] at hr
    rcases hr with rfl | rfl | rfl | rfl | rfl
    · exact hb
    all_goals cases hb
theorem BookOk.keep {w w' : World} {S T : Nat → Prop} {g c : Nat} (h : BookOk w S g c) (k : Kp T w w') (hT : ∀ b, S b → ¬ T b) : BookOk w' S g c := by
  obtain ⟨tot, F, K, vF, vW, vK, vN, Z, h1, h2, h3⟩ := h
  refine ⟨tot, F, K, vF, vW, vK, vN, Z, ⟨fun r hr => Res.keep (h1.all r hr) k fun b hb => hT b (h2 r hr b hb), h1.sep⟩, h2, h3⟩
theorem BookOk.ext {w w' : World} {S : Nat → Prop} {g c : Nat} (h : BookOk w S g c) (k : Ext w w') : BookOk w' S g c := h.keep (T := fun _ => False) (Kp.of_ext k) fun _ _ e => e
/-- all that it knows was there -/
theorem BookOk.low {w : World} {S : Nat → Prop} {g c : Nat} (h : BookOk w S g c) : BookOk w (fun b => S b ∧ b < w.heap.size) g c := by
  obtain ⟨tot, F, K, vF, vW, vK, vN, Z, h1, h2, h3⟩ := h
  exact ⟨tot, F, K, vF, vW, vK, vN, Z, h1, fun r hr b hb => ⟨h2 r hr b hb, h1.lt r hr b hb⟩, h3⟩
theorem perm_in (P Q : List Res) (v r : Res) (Z : List Res) : (r :: (P ++ (Q ++ (v :: Z)))).Perm (P ++ (Q ++ (v :: r :: Z))) := by
  have := (List.perm_middle (l₁ := P ++ (Q ++ [v])) (a := r) (l₂ := Z)).symm
  simpa [List.append_assoc] using this
/-- the copy beside, then the list of copies longer by it -/
theorem was_in {w0 W3 w5 w6 : World} {T : Nat → Prop} {b0 r1 r3 r4 v : Res} {Q Z : List Res} {vW v6 : Value} {nF n d5 : Nat} {xs : List Value} {B5 : Option Addr} {l : List Int} {o : Obj}
    (h : Bs w0 W3 T (b0 :: r1 :: .row 31 1 vW nF xs :: r3 :: r4 :: (Q ++ (v :: Z)))) (k : Ext W3 w5) (own5 : w5.ownsRow W3.heap.size 3 1 (.slice B5 n d5) n (iv l)) (hA : Ap (w5.alloc o) w6 31 1 vW v6 nF 1 xs [.slice B5 n d5]) (hS : ∀ b, w0.heap.size ≤ b → T b) :
    Bs w0 w6 T (b0 :: r1 :: .row 31 1 v6 (nF + 1) (xs ++ [.slice B5 n d5]) :: r3 :: r4 :: (Q ++ (v :: .rd 1 B5 n (iv l) :: Z))) := by
  have h1 := Bs.add_new (X := []) (Y := b0 :: r1 :: .row 31 1 vW nF xs :: r3 :: r4 :: (Q ++ (v :: Z))) (r := .rd 1 B5 n (iv l)) h k ⟨by omega, Rd.of_own own5⟩ (by
    rintro b ⟨_, ad, h1, rfl⟩
    subst h1
    exact (own5.lt ad.block rfl).1) hS
  have h2 : Bs w0 w5 T (b0 :: r1 :: .row 31 1 vW nF xs :: r3 :: r4 :: (Q ++ (v :: .rd 1 B5 n (iv l) :: Z))) := h1.perm (perm_in [b0, r1, .row 31 1 vW nF xs, r3, r4] Q v _ Z)
  exact Bs.app (X := [b0, r1]) (h2.alloc o) hA hS

def OwnPost (w : World) (S : Nat → Prop) (v : Value) (g c : Nat) (e : Ending) (w' : World) : Prop :=
  e = .returned (.bool true) ∧ ∃ S', BookOk w' S' g (c + 1) ∧ (∀ b, S' b → (S b ∨ v.ownBlock = some b ∨ w.heap.size ≤ b) ∧ b < w'.heap.size) ∧ Kp (fun b => S b ∨ v.ownBlock = some b) w w'

set_option maxHeartbeats 4000000 in
theorem Own_any (w : World) (S : Nat → Prop) (g c : Nat) (A : Option Addr) (n cp : Nat) (l : List Int) (h : BookOk w S g c) (hc : c ≤ 100) (hv : w.ownsRow 0 3 1 (.slice A n cp) n (iv l)) (hS : ∀ b, (Value.slice A n cp).ownBlock = some b → ¬ S b) (hn : n ≤ 4398046511104) :
    Calls Try.prog 56 #[.pointer (some ⟨g, 0, none⟩), .slice A n cp] w (OwnPost w S (.slice A n cp) g c) := by
  have hl : l.length = n := by have := hv.1; rw [iv_length] at this; omega
  obtain ⟨tot, F, K, vF, vW, vK, vN, Z, h1, h2, h3, h4, h5, h6, h7, h8, h9, h10⟩ := h
  obtain ⟨T, hT⟩ : ∃ T : Nat → Prop, T = fun b => S b ∨ (Value.slice A n cp).ownBlock = some b ∨ w.heap.size ≤ b := ⟨_, rfl⟩
  have HT := hd hT
  have HS := hd (show ∀ b, w.heap.size ≤ b → T b by rw [hT]; exact fun b hb => .inr (.inr hb))
  have hB0 : Bs w w T ((Hdr g (tot : Int) vF vW vK vN F K ++ F.map BF.row) ++ .row 3 1 (.slice A n cp) n (iv l) :: Z) := by
    have h1' : Sp w ((Hdr g (tot : Int) vF vW vK vN F K ++ F.map BF.row) ++ Z) := by rw [List.append_assoc]; exact h1
    have h2' : In S ((Hdr g (tot : Int) vF vW vK vN F K ++ F.map BF.row) ++ Z) := by rw [List.append_assoc]; exact h2
    refine Bs.perm ⟨h1'.add (r := .row 3 1 (.slice A n cp) n (iv l)) hv fun b hb s hs hcc => hS b hb (h2' s hs b hcc), (h2'.mono ?_).cons ?_, Kp.refl w⟩ (List.perm_middle (l₁ := Hdr g (tot : Int) vF vW vK vN F K ++ F.map BF.row) (l₂ := Z)).symm
    · rw [hT]; exact fun b hb => .inl hb
    · rw [hT]; exact fun b hb => .inr (.inl hb)
  rw [List.append_assoc] at hB0
  have H3 := hd h3
  have H4 := hd h4
  have H5 := hd h5
  have H7 := hd h7
  have H8 := hd h8
  have HL := hd hl
  clear h1 h2 h3 h4 h5 h7 h8 hT hl hS hv
  obtain ⟨nF, hnF⟩ : ∃ nF, F.length = nF := ⟨_, rfl⟩
  obtain ⟨nK, hnK⟩ : ∃ nK, K.length = nK := ⟨_, rfl⟩
  rw [hnF] at h6 h9
  rw [hnK] at h9
  unfold Hdr at hB0
  rw [hnF, hnK] at hB0
  have HNF := hd hnF
  have HNK := hd hnK
  clear hnF hnK
  obtain ⟨i0, hi0, hz0, hz1, hz2⟩ := info_parts info31
  have hb0 : Blk w g 83 #[.int .i64 (tot : Int), vF, vW, vK, vN, .bool false] := Sp.head hB0.sp
  obtain ⟨p1, p2, p3, p4, p5, p6⟩ := hb0.c6
  have q1 := hb0.free 0
  go_enter Try.func56, Try.ntmps56
  go_upto_region 2 with (fail)
  have hB1 := Bs.set (X := []) hB0 0 (.int .i64 ((tot : Int) + (n : Int))) HS.out
  clear p1 p2 p3 p4 p5 p6 q1 hB0
  generalize w.setCell ⟨g, 0, none⟩ (.int .i64 ((tot : Int) + (n : Int))) = W1 at hB1 ⊢
  have hb1 : Blk W1 g 83 #[.int .i64 ((tot : Int) + (n : Int)), vF, vW, vK, vN, .bool false] := Sp.head hB1.sp
  obtain ⟨p1, p2, p3, p4, p5, p6⟩ := hb1.c6
  have hrowF : W1.ownsRow 0 31 1 vF nF (F.map BF.v) := hB1.sp.all (.row 31 1 vF nF (F.map BF.v)) (by simp)
  go_upto_region 3 with ((with_reducible refine wl_app2 (.tmp 19) (.tmp 21) 81 31 i0 _ 1 24 Try.underlying81 hi0 hz0 hz1 hz2 ?_ (by omega) vF nF _ ?_ ((Ext.new W1 _).own hrowF) ⟨W1.heap.size, 0, none⟩ 1 1 [.slice A n cp] ?_ (Rd.cell1 _ _ _) (one_sl A n cp) (by omega) (by omega) ?_); exact rfl; exact rfl; exact rfl; intro v2 w2 hA2; obtain ⟨A2, c2, rfl, -⟩ := own_form hA2.own; have hB2 := Bs.app (X := [.blk g 83 #[.int .i64 ((tot : Int) + (n : Int)), vF, vW, vK, vN, .bool false]]) (hB1.alloc _) hA2 HS.out; have hb2 : Blk w2 g 83 #[.int .i64 ((tot : Int) + (n : Int)), vF, vW, vK, vN, .bool false] := Sp.head hB2.sp; obtain ⟨q1, q2, q3, q4, q5, q6⟩ := hb2.c6; have f2 := hb2.free 1)
  have hB3 := Bs.set (X := []) hB2 1 (.slice A2 (nF + 1) c2) HS.out
  clear hA2 hrowF hB1 hb1 hB2 hb2 q1 q2 q3 q4 q5 q6 f2 p1 p2 p3 p4 p5 p6
  generalize w2.setCell ⟨g, 1, none⟩ (.slice A2 (nF + 1) c2) = W3 at hB3 ⊢
  generalize hv2 : Value.slice A2 (nF + 1) c2 = v2 at hB3 ⊢
  clear hv2
  have hb3 : Blk W3 g 83 #[.int .i64 ((tot : Int) + (n : Int)), v2, vW, vK, vN, .bool false] := Sp.head hB3.sp
  have hrowW : W3.ownsRow 0 31 1 vW nF (F.map BF.u) := hB3.sp.all (.row 31 1 vW nF (F.map BF.u)) (by simp)
  have hrd : Rd W3 1 A n (iv l) := Rd.of_own (hB3.sp.all (.row 3 1 (.slice A n cp) n (iv l)) (by simp) : W3.ownsRow 0 3 1 (.slice A n cp) n (iv l))
  have p3 := hb3.c6.2.2.1
  go_cut [] from 25 to 35 (fun W => ∃ v4 B d, Bs w W T ([.blk g 83 #[.int .i64 ((tot : Int) + (n : Int)), v2, v4, vK, vN, .bool false], .row 31 1 v2 (nF + 1) (F.map BF.v ++ [.slice A n cp])] ++ .row 31 1 v4 (nF + 1) (F.map BF.u ++ [.slice B n d]) :: .row 31 1 vK nK (K.map BK.v) :: .row 3 1 vN nK (K.map BK.num) :: (F.map BF.row ++ (.row 3 1 (.slice A n cp) n (iv l) :: .rd 1 B n (iv l) :: Z))))
  case first =>
    go_region_law (first | (go_simp; go_at_call 102; with_reducible refine (CopyInts_any A n cp l _ (hrd.ext (Ext.refl _).drew) (by omega)).mono ?_; rintro e' w5 ⟨B5, d5, rfl, own5, hX5⟩; have hY5 := hX5.of_drew; have p35 := hY5.cell p3; have p36 := (Ext.new w5 (.cells #[.slice B5 n d5] 31)).cell p35) | (refine step_app2 (by rfl) (.tmp 29) (.tmp 32) 81 (by rfl) 31 i0 _ 1 24 Try.underlying81 hi0 hz0 hz1 hz2 (by rfl) (by omega) vW nF (F.map BF.u) (by rfl) ((hY5.alloc _).own hrowW) ⟨w5.heap.size, 0, none⟩ 1 1 [.slice B5 n d5] (by rfl) (Rd.cell1 _ _ _) (one_sl B5 n d5) (by omega) (by omega) ?_; intro v6 w6 hA6; obtain ⟨A6, c6, rfl, -⟩ := own_form hA6.own; have hB6 := was_in hB3 hY5 own5 hA6 HS.out; have hb6 : Blk w6 g 83 #[.int .i64 ((tot : Int) + (n : Int)), v2, vW, vK, vN, .bool false] := Sp.head hB6.sp; obtain ⟨r1, r2, r3, r4, r5, r6⟩ := hb6.c6; have f3 := hb6.free 2))
    all_goals go_wp2
    all_goals go_meet
    all_goals case rel => exact ⟨_, B5, d5, Bs.set (X := []) hB6 2 (.slice A6 (nF + 1) c6) HS.out⟩
  case rest =>
  obtain ⟨v4, B, d, hB4⟩ := hcut
  clear hB3 hb3 hrowW hrd p3
  obtain ⟨r, hr⟩ : ∃ r : BF, r = ⟨A, cp, l, B, d⟩ := ⟨_, rfl⟩
  have hrl : r.l.length = n := by rw [hr]; exact HL.out
  have hrv : r.v = .slice A n cp := by rw [hr, ← HL.out]; rfl
  have hru : r.u = .slice B n d := by rw [hr, ← HL.out]; rfl
  have hrr : r.row = .row 3 1 (.slice A n cp) n (iv l) := by rw [hr, ← HL.out]; rfl
  have hrw : r.was = .rd 1 B n (iv l) := by rw [hr, ← HL.out]; rfl
  have hB5 : Bst w wc T g ((tot + n : Nat) : Int) v2 v4 vK vN (F ++ [r]) K ((F ++ [r]).map BF.row ++ (r.was :: Z)) := by
    rw [← hrr, ← hrw, ← hrv, ← hru] at hB4
    have e1 : (F ++ [r]).length = nF + 1 := by rw [List.length_append, HNF.out]; rfl
    have e2 : (F ++ [r]).map BF.v = F.map BF.v ++ [r.v] := by simp
    have e3 : (F ++ [r]).map BF.u = F.map BF.u ++ [r.u] := by simp
    have e4 : (F ++ [r]).map BF.row = F.map BF.row ++ [r.row] := by simp
    show Bs _ _ _ _
    unfold Hdr
    rw [e1, e2, e3, e4, HNK.out, Int.natCast_add, List.append_assoc]
    exact hB4
  have hZ' : ∀ z ∈ r.was :: Z, ¬ z.turns := by
    intro z hz
    rcases List.mem_cons.mp hz with rfl | hz
    · exact fun h => h
    · exact H3.out z hz
  have hW' : ∀ x ∈ F ++ [r], x.was ∈ r.was :: Z := by
    intro x hx
    rcases List.mem_append.mp hx with hx | hx
    · exact List.mem_cons_of_mem _ (H4.out x hx)
    · obtain rfl := List.mem_singleton.mp hx
      simp
  have hK' : ∀ k ∈ K, k.rd ∈ r.was :: Z := fun k hk => List.mem_cons_of_mem _ (H5.out k hk)
  have hl' : ∀ x ∈ F ++ [r], x.l.length ≤ 4398046511104 := by
    intro x hx
    rcases List.mem_append.mp hx with hx | hx
    · exact H7.out x hx
    · obtain rfl := List.mem_singleton.mp hx
      omega
  have hlF : (F ++ [r]).length = nF + 1 := by rw [List.length_append, HNF.out]; rfl
  clear hrl hrv hru hrr hrw hr hB4
  obtain ⟨F', hF'⟩ : ∃ F', F ++ [r] = F' := ⟨_, rfl⟩
  rw [hF'] at hB5 hW' hl' hlF
  generalize r.was :: Z = Z2 at hB5 hZ' hW' hK'
  have HZ2 := hd hZ'
  have HW2 := hd hW'
  have HK2 := hd hK'
  have HL2 := hd hl'
  have HLF := hd hlF
  clear hZ' hW' hK' hl' hF' hlF H3 H4 H5 H7 HNF
  have hKp : ∀ w', Kp T w w' → Kp (fun b => S b ∨ (Value.slice A n cp).ownBlock = some b) w w' := fun w' k => k.mono fun i hi e => by
    rw [HT.out] at e
    rcases e with e | e | e
    · exact .inl e
    · exact .inr e
    · omega
  have HKp := hd hKp
  have fin : ∀ (w1 w2 : World) (F2 : List BF) (K2 : List BK) (vF vW vK vN : Value) (Z2 : List Res), Bst w w1 T g ((tot + n : Nat) : Int) vF vW vK vN F2 K2 (F2.map BF.row ++ Z2) → (∀ z ∈ Z2, ¬ z.turns) → (∀ x ∈ F2, x.was ∈ Z2) → (∀ k ∈ K2, k.rd ∈ Z2) → F2.length ≤ 2 → (∀ x ∈ F2, x.l.length ≤ 4398046511104) →
      (∀ k ∈ K2, k.n ≤ 4398046515174 ∧ k.q ≤ 200000) → K2.length + 2 * F2.length ≤ 2 * (c + 1) → Kp (fun b => b = g) w1 w2 → Blk w2 g 83 #[.int .i64 ((tot + n : Nat) : Int), vF, vW, vK, vN, .bool false] →
      OwnPost w S (.slice A n cp) g c (.returned (.bool true)) w2 := by
    intro w1 w2 F2 K2 vF vW vK vN Z2 hB a1 a2 a3 a4 a5 a6 a7 hk hb
    have hB2 : Bst w w2 T g ((tot + n : Nat) : Int) vF vW vK vN F2 K2 (F2.map BF.row ++ Z2) :=
      Bs.mid (X := []) (r := .blk g 83 #[.int .i64 ((tot + n : Nat) : Int), vF, vW, vK, vN, .bool false]) hB trivial hk hb (fun b hb => .inl hb) HS.out
    refine ⟨rfl, _, BookOk.low (S := T) ⟨tot + n, F2, K2, vF, vW, vK, vN, Z2, hB2.sp, hB2.in_, a1, a2, a3, a4, a5, a6, a7, by omega⟩, fun b hb => ⟨?_, hb.2⟩, HKp.out _ hB2.kp⟩
    have := hb.1
    rw [HT.out] at this
    exact this
  have FIN := hd fin
  clear fin hKp
  obtain ⟨aF, cF, rfl, -⟩ := row_some (rowF_of hB5.sp)
  rw [HLF.out] at hB5 ⊢
  have p2 := (blk_of hB5.sp).c6.2.1
  by_cases h3 : nF = 2
  · subst h3
    go_upto_region 6 with (go_at_call 103; (with_reducible refine (write_any wc g (tot + n) F' K _ _ _ _ Z2 T hB5.rebase HZ2.out HW2.out HK2.out (fun b hb => HS.out b (Nat.le_trans hB5.kp.size hb)) (by rw [HLF.out]; omega) (by rw [HNK.out]; omega) HL2.out (by omega)).mono ?_); rintro e w6 ⟨rfl, Z6, hZ6, K6, vK6, vN6, hB6, hK6, hk6, hb6⟩)
    have hb7 : ∀ k ∈ K6, k.n ≤ 4398046515174 ∧ k.q ≤ 200000 := by
      intro k hk
      rcases hb6 k hk with e | e
      · exact H8.out k e
      · have := HNK.out; have := HLF.out; omega
    have hl6 : K6.length ≤ 2 * (c + 1) := by have := HNK.out; have := HLF.out; omega
    have hB7 := hB5.over hB6
    have HB7 := hd hb7
    have HK6 := hd hk6
    have HZ6 := hd hZ6
    clear hb6 hb7 hk6 hZ6 hK6 p2 hB6
    go_wp2_with (go_at_call 104; (with_reducible refine (Holds_any w6 g _ [] K6 _ _ _ _ Z6 hB7.sp (by simp) HK6.out (by simp) (by omega) HB7.out (by simp)).mono ?_); rintro e w7 ⟨rfl, hk7, hb7⟩)
    go_ret
    exact FIN.out w6 w7 [] K6 _ _ _ _ Z6 hB7 HZ6.out (by simp) HK6.out (by simp) (by simp) HB7.out (by simpa using hl6) hk7 hb7
  · have e3 : ¬ (3 : Int) ≤ ((nF + 1 : Nat) : Int) := by omega
    have e3' : ¬ (3 : Int) ≤ (nF : Int) + 1 := by omega
    have e3'' : ¬ 3 ≤ nF + 1 := by omega
    go_wp2_with (go_at_call 104; (with_reducible refine (Holds_any wc g _ F' K _ _ _ _ Z2 hB5.sp HW2.out HK2.out (by rw [HLF.out]; omega) (by rw [HNK.out]; omega) H8.out HL2.out).mono ?_); rintro e w7 ⟨rfl, hk7, hb7⟩)
    go_ret
    exact FIN.out wc w7 F' K _ _ _ _ Z2 hB5 HZ2.out HW2.out HK2.out (by rw [HLF.out]; omega) HL2.out H8.out (by rw [HLF.out, HNK.out]; omega) hk7 hb7

set_option maxHeartbeats 2000000 in
theorem Done_any (w : World) (S : Nat → Prop) (g c : Nat) (h : BookOk w S g c) (hc : c ≤ 100) :
    Calls Try.prog 58 #[.pointer (some ⟨g, 0, none⟩)] w fun e w' => e = .returned (.bool true) ∧ Kp S w w' := by
  obtain ⟨tot, F, K, vF, vW, vK, vN, Z, h1, h2, h3, h4, h5, h6, h7, h8, h9, h10⟩ := h
  obtain ⟨T, hT⟩ : ∃ T : Nat → Prop, T = fun b => S b ∨ w.heap.size ≤ b := ⟨_, rfl⟩
  have hB : Bst w w T g (tot : Int) vF vW vK vN F K (F.map BF.row ++ Z) := ⟨h1, h2.mono (by rw [hT]; exact fun b hb => .inl hb), Kp.refl w⟩
  have HS := hd (show ∀ b, w.heap.size ≤ b → T b by rw [hT]; exact fun b hb => .inr hb)
  have HKp := hd (show ∀ w', Kp T w w' → Kp S w w' from fun w' k => k.mono fun i hi e => by
    rw [hT] at e
    rcases e with e | e
    · exact e
    · omega)
  have H3 := hd h3
  have H4 := hd h4
  have H5 := hd h5
  have H7 := hd h7
  have H8 := hd h8
  clear h1 h2 h3 h4 h5 h7 h8 hT
  go_enter Try.func58, Try.ntmps58
  go_upto_region 2 with (go_at_call 103; (with_reducible refine (write_any w g tot F K _ _ _ _ Z T hB H3.out H4.out H5.out HS.out (by omega) (by omega) H7.out (by omega)).mono ?_); rintro e w6 ⟨rfl, Z6, hZ6, K6, vK6, vN6, hB6, hK6, hk6, hb6⟩)
  have hb7 : ∀ k ∈ K6, k.n ≤ 4398046515174 ∧ k.q ≤ 200000 := by
    intro k hk
    rcases hb6 k hk with e | e
    · exact H8.out k e
    · omega
  have hl6 : K6.length ≤ 100000 := by omega
  have HB7 := hd hb7
  have HK6 := hd hk6
  clear hb6 hb7 hk6 hZ6 hK6
  go_wp2_with (go_at_call 104; (with_reducible refine (Holds_any w6 g _ [] K6 _ _ _ _ Z6 hB6.sp (by simp) HK6.out (by simp) hl6 HB7.out (by simp)).mono ?_); rintro e w7 ⟨rfl, hk7, hb7⟩)
  go_ret
  refine ⟨rfl, HKp.out _ ?_⟩
  have hB7 := Bs.mid (X := []) (r := .blk g 83 #[.int .i64 (tot : Int), .slice none 0 0, .slice none 0 0, vK6, vN6, .bool false]) (r' := .blk g 83 #[.int .i64 (tot : Int), .slice none 0 0, .slice none 0 0, vK6, vN6, .bool false]) hB6 trivial hk7 hb7 (fun b hb => .inl hb) HS.out
  exact hB7.kp

end Lg
end Go.Proofs.Ytfcbedkidjclhaa
