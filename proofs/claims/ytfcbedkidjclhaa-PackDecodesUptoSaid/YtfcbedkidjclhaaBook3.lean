/-
  The book's Holds, Own, Done.
  Conditions: as named.
-/
import Derived.Test.YtfcbedkidjclhaaBook2
import Derived.Deep.RegionLaw
namespace Go.Proofs.Ytfcbedkidjclhaa
open Go.RowKit
set_option maxRecDepth 100000
set_option linter.unusedSimpArgs false
set_option linter.unusedVariables false

theorem bv_cell {w : World} {A : Option Addr} {n q : Nat} (h : Rd w 1 A n (bv (Bms q n))) {j : Nat} (hj : j < n) :
    ∃ b o, A = some ⟨b, o, none⟩ ∧ w.cell? ⟨b, o + j, none⟩ = some (.int .u8 (((Bm q j).toNat : Nat) : Int)) := by
  obtain ⟨b, o, rfl, hc⟩ := h.form (by omega) (by omega)
  refine ⟨b, o, rfl, hc j _ ?_⟩
  rw [bv, List.getElem?_map, Bms_get hj]
  rfl

set_option maxHeartbeats 2000000 in
theorem Holds_any (w : World) (g : Nat) (cnt tot : Int) (F : List BF) (K : List BK) (vF vW vK vN : Value) (Z : List Res) (h : Sp w (Hdr g cnt tot vF vW vK vN F K ++ (F.map BF.row ++ Z)))
    (hW : ∀ r ∈ F, r.was ∈ Z) (hK : ∀ k ∈ K, k.rd ∈ Z) (hnF : F.length ≤ 1000) (hnK : K.length ≤ 100000) (hb : ∀ k ∈ K, k.n ≤ 1000004070 ∧ k.q ≤ 200000) :
    Calls Try.prog 79 #[.pointer (some ⟨g, 0, none⟩)] w fun e w' => e = .returned (.bool true) ∧ Kp (fun b => b = g) w w' ∧ Blk w' g 33 #[.int .i64 cnt, .int .i64 tot, vF, vW, vK, vN, .bool false] := by
  have HW := hd hW
  have HK := hd hK
  have HB := hd hb
  have HA := hd (box_away h)
  have HKA := hd (show vK.ownBlock ≠ some g from fun e => Sp.away (r := .blk g 33 #[.int .i64 cnt, .int .i64 tot, vF, vW, vK, vN, .bool false]) h (.row 22 1 vK K.length (K.map BK.v)) (by simp [Hdr]) (.inl trivial) g rfl e)
  have HNA := hd (show vN.ownBlock ≠ some g from fun e => Sp.away (r := .blk g 33 #[.int .i64 cnt, .int .i64 tot, vF, vW, vK, vN, .bool false]) h (.row 3 1 vN K.length (K.map BK.num)) (by simp [Hdr]) (.inl trivial) g rfl e)
  clear hW hK hb
  go_enter Try.func79, Try.ntmps79
  go_upto_region 2 with (go_at_call 113; (with_reducible refine (look_any w g cnt tot F vF vW vK vN F.length rfl (blk_of h) (rowF_of h) (rowW_of h) HA.out.1 HA.out.2.1 ?_ ?_ (by omega)).mono ?_); (intro r hr; exact ⟨h.all r.row (List.mem_append_right _ (List.mem_append_left _ (List.mem_map_of_mem hr))), fun e => HA.out.2.2 r.row (List.mem_append_left _ (List.mem_map_of_mem hr)) e⟩); (intro r hr; exact ⟨h.all r.was (List.mem_append_right _ (List.mem_append_right _ (HW.out r hr))), HA.out.2.2 r.was (List.mem_append_right _ (HW.out r hr))⟩); rintro e w1 ⟨rfl, hK1, hB1⟩)
  obtain ⟨nK, hnK'⟩ : ∃ nK, K.length = nK := ⟨_, rfl⟩
  have hrK := rowK_of h
  have hrN := rowN_of h
  rw [hnK'] at hnK hrK hrN
  have HNK := hd hnK'
  clear hnK'
  obtain ⟨aK, cK, rfl, hcK, -⟩ := row_some hrK
  obtain ⟨aN, cN, rfl, hcN, -⟩ := row_some hrN
  go_wp2
  go_loopw [3, 4] (fun i _ wr => ∃ k : Nat, i = .int .i64 (k : Int) ∧ k ≤ nK ∧ Kp (fun b => b = g) w wr ∧ Blk wr g 33 #[.int .i64 cnt, .int .i64 tot, vF, vW, .slice aK nK cK, .slice aN nK cN, .bool false]) (fun i _ _ => nK - (intOf i).toNat)
  case atStart => exact ⟨0, rfl, by omega, hK1, hB1⟩
  case round =>
    obtain ⟨k, rfl, hk, hKr, hBr⟩ := hrel
    clear hK1 hB1
    obtain ⟨p0, p1, p2, p3, p4, p5, p6⟩ := hBr.c7
    by_cases hlt : k < nK
    · have e1 : (k : Int) < (nK : Int) := by omega
      have hkK : k < K.length := by rw [HNK.out]; exact hlt
      obtain ⟨gK, cK', hvK, -, x, hx, pK, -⟩ := row_cell hrK (j := k) hlt
      obtain ⟨gN, cN', hvN, -, y, hy, pN, -⟩ := row_cell hrN (j := k) hlt
      injection hvK with hvK hvL hvC
      clear hvL
      subst hvK
      subst hvC
      injection hvN with hvN hvL hvC
      clear hvL
      subst hvN
      subst hvC
      rw [List.getElem?_map, List.getElem?_eq_getElem hkK] at hx hy
      injection hx with hx
      injection hy with hy
      subst hx
      subst hy
      have hrd0 := h.all K[k].rd (by have := HK.out K[k] (List.getElem_mem hkK); simp [this])
      have hrf := HA.out.2.2 K[k].rd (by have := HK.out K[k] (List.getElem_mem hkK); simp [this])
      have hbd := HB.out K[k] (List.getElem_mem hkK)
      generalize K[k] = r at pK pN hrd0 hrf hbd
      obtain ⟨A, n, c, q⟩ := r
      simp only [BK.v, BK.num] at pK pN hbd
      obtain ⟨hn9, hq9⟩ := hbd
      have hgK : gK ≠ g := fun e => HKA.out (by rw [e]; rfl)
      have hgN : gN ≠ g := fun e => HNA.out (by rw [e]; rfl)
      go_wp2
      clear p0 p1 p2 p3 p4 p5 p6
      obtain ⟨wo, rfl⟩ : ∃ wo : World, wo = wr := ⟨_, rfl⟩
      go_loopw [4] (fun j wr => ∃ jj : Nat, j = .int .i64 (jj : Int) ∧ jj ≤ n ∧ Kp (fun b => b = g) w wr ∧ Blk wr g 33 #[.int .i64 cnt, .int .i64 tot, vF, vW, .slice (some ⟨gK, 0, none⟩) nK cK, .slice (some ⟨gN, 0, none⟩) nK cN, .bool false]) (fun j _ => n - (intOf j).toNat)
      case atStart => exact ⟨0, rfl, by omega, hKr, hBr⟩
      case round =>
        obtain ⟨jj, rfl, hj, hKi, hBi⟩ := hrel
        clear hKr hBr
        obtain ⟨p0, p1, p2, p3, p4, p5, p6⟩ := hBi.c7
        have q6 := hBi.free 6
        have pK2 := hKi.cell pK hgK
        have pN2 := hKi.cell pN hgN
        by_cases hjl : jj < n
        · have e2 : (jj : Int) < (n : Int) := by omega
          have hrd := Res.keep hrd0 hKi (fun b e1 e2 => hrf (by rw [← e2]; exact e1))
          obtain ⟨b, o, rfl, pc⟩ := bv_cell hrd.2 hjl
          have N114 : Calls Try.prog 114 #[.int .i64 (q : Int), .int .i64 (jj : Int)] wr.drew (fun e w'' => e = .returned (.int .u8 (((Bm q jj).toNat : Nat) : Int)) ∧ w'' = wr.drew) :=
            (own_any q jj (by omega) (by omega) wr.drew).mono (by rintro e w1 ⟨rfl, rfl⟩; exact ⟨rfl, rfl⟩)
          clear hrd
          go_upto_region 8 with (fail)
          refine wp_region_still_tail 29 (by kernel_rfl) (by kernel_rfl) ?_
          simp only [List.take_succ_cons, List.take_zero, List.drop_succ_cons, List.drop_zero]
          repeat still_step
          still_call N114
          repeat still_step
          try refine wpStill_nil ?_
          go_wp2
          go_roundw
          case rel => exact ⟨jj + 1, by go_num, by omega, hKi.drew.set ⟨g, 6, none⟩ (.inl rfl) _, hBi.drew.set_ 6 _⟩
          case measure => simp [intOf]; omega
        · obtain rfl : jj = n := by omega
          have e2 : ¬ (jj : Int) < (jj : Int) := by omega
          go_wp2
          go_roundw
          case rel => exact ⟨k + 1, by go_num, by omega, hKi, hBi⟩
          case measure => simp [intOf]; omega
    · have e1 : ¬ (k : Int) < (nK : Int) := by omega
      go_wp2
      go_ret
      exact ⟨rfl, hKr, hBr⟩

def Bok (w : World) (S : Nat → Prop) (g c tot : Nat) (F : List BF) (K : List BK) (vF vW vK vN : Value) (Z : List Res) : Prop :=
  Sp w (Hdr g (c : Int) (tot : Int) vF vW vK vN F K ++ (F.map BF.row ++ Z)) ∧ In S (Hdr g (c : Int) (tot : Int) vF vW vK vN F K ++ (F.map BF.row ++ Z)) ∧ (∀ z ∈ Z, ¬ z.turns) ∧ (∀ r ∈ F, r.was ∈ Z) ∧ (∀ k ∈ K, k.rd ∈ Z) ∧
    F.length ≤ 2 ∧ (∀ r ∈ F, r.l.length ≤ 1000000000) ∧ (∀ k ∈ K, k.n ≤ 1000004070 ∧ k.q ≤ 200000) ∧ K.length + 2 * F.length ≤ 2 * c ∧ tot ≤ c * 1000000000
/-- a book in order, all that it knows in a set; so many lists were handed out -/
def BookOk (w : World) (S : Nat → Prop) (g c : Nat) : Prop := ∃ tot F K vF vW vK vN Z, Bok w S g c tot F K vF vW vK vN Z

theorem BookOk.new {w : World} {g : Nat} (h : Blk w g 33 #[.int .i64 0, .int .i64 0, .slice none 0 0, .slice none 0 0, .slice none 0 0, .slice none 0 0, .bool false]) : BookOk w (fun b => b = g) g 0 := by
  have hn : ∀ e b, ¬ (Res.row e 1 (.slice none 0 0) 0 []).foot b := fun e b hb => by cases hb
  refine ⟨0, [], [], .slice none 0 0, .slice none 0 0, .slice none 0 0, .slice none 0 0, [], ⟨?_, ?_⟩, ?_, by simp, by simp, by simp, by simp, by simp, by simp, by simp, by simp⟩
  · intro r hr
    simp only [Hdr, List.map_nil, List.nil_append, List.append_nil, List.length_nil, List.mem_cons, List.not_mem_nil, or_false] at hr
    rcases hr with rfl | rfl | rfl | rfl | rfl
    · exact h
    all_goals exact nil_row w _ 1
  · simp only [Hdr, List.map_nil, List.nil_append, List.append_nil, List.length_nil, List.pairwise_cons, List.mem_cons, List.not_mem_nil, or_false]
    refine ⟨?_, ?_, ?_, ?_, by simp, by simp⟩
    · rintro s (rfl | rfl | rfl | rfl) _ b hb hc <;> cases hc
    · rintro s (rfl | rfl | rfl) _ b hb hc <;> cases hc
    · rintro s (rfl | rfl) _ b hb hc <;> cases hc
    · rintro s rfl _ b hb hc; cases hc
  · intro r hr b hb
    simp only [Hdr, List.map_nil, List.nil_append, List.append_nil, List.length_nil, List.mem_cons, List.not_mem_nil, or_false] at hr
    rcases hr with rfl | rfl | rfl | rfl | rfl
    · exact hb
    all_goals cases hb
theorem BookOk.keep {w w' : World} {S T : Nat → Prop} {g c : Nat} (h : BookOk w S g c) (k : Kp T w w') (hT : ∀ b, S b → ¬ T b) : BookOk w' S g c := by
  obtain ⟨tot, F, K, vF, vW, vK, vN, Z, h1, h2, h3⟩ := h
  refine ⟨tot, F, K, vF, vW, vK, vN, Z, ⟨fun r hr => Res.keep (h1.all r hr) k fun b hb => hT b (h2 r hr b hb), h1.sep⟩, h2, h3⟩
theorem BookOk.ext {w w' : World} {S : Nat → Prop} {g c : Nat} (h : BookOk w S g c) (k : Ext w w') : BookOk w' S g c := h.keep (T := fun _ => False) (Kp.of_ext k) fun _ _ e => e
/-- all that it knows was there -/
theorem BookOk.low {w : World} {S : Nat → Prop} {g c : Nat} (h : BookOk w S g c) : BookOk w (fun b => S b ∧ b < w.heap.size) g c := by
  obtain ⟨tot, F, K, vF, vW, vK, vN, Z, h1, h2, h3⟩ := h
  exact ⟨tot, F, K, vF, vW, vK, vN, Z, h1, fun r hr b hb => ⟨h2 r hr b hb, h1.lt r hr b hb⟩, h3⟩
theorem Bs.add_new {w0 w w' : World} {S : Nat → Prop} {X Y : List Res} {r : Res} (h : Bs w0 w S (X ++ Y)) (k : Ext w w') (hr : r.holds w') (hf : ∀ b, r.foot b → w.heap.size ≤ b) (hS : ∀ b, w0.heap.size ≤ b → S b) : Bs w0 w' S (X ++ r :: Y) := by
  refine Bs.perm ⟨(h.sp.ext k).add hr fun b hb s hs hc => ?_, h.in_.cons fun b hb => hS b (Nat.le_trans h.kp.size (hf b hb)), h.kp.then_ext k⟩ (List.perm_middle (l₁ := X) (a := r) (l₂ := Y)).symm
  have := h.sp.lt s hs b hc
  have := hf b hb
  omega
theorem Bs.rebase {w0 w : World} {S : Nat → Prop} {L : List Res} (h : Bs w0 w S L) : Bs w w S L := ⟨h.sp, h.in_, Kp.refl w⟩
theorem Bs.over {w0 w w' : World} {S : Nat → Prop} {L L' : List Res} (h : Bs w0 w S L) (k : Bs w w' S L') : Bs w0 w' S L' := ⟨k.sp, k.in_, h.kp.trans k.kp fun _ _ e => e⟩

theorem perm_in (P Q : List Res) (v r : Res) (Z : List Res) : (r :: (P ++ (Q ++ (v :: Z)))).Perm (P ++ (Q ++ (v :: r :: Z))) := by
  have := (List.perm_middle (l₁ := P ++ (Q ++ [v])) (a := r) (l₂ := Z)).symm
  simpa [List.append_assoc] using this
/-- the copy beside, then the list of copies longer by it -/
theorem was_in {w0 W3 w5 w6 : World} {T : Nat → Prop} {b0 r1 r3 r4 v : Res} {Q Z : List Res} {vW v6 : Value} {nF n d5 : Nat} {xs : List Value} {B5 : Option Addr} {l : List UInt8} {o : Obj}
    (h : Bs w0 W3 T (b0 :: r1 :: .row 22 1 vW nF xs :: r3 :: r4 :: (Q ++ (v :: Z)))) (k : Ext W3 w5) (own5 : w5.ownsRow W3.heap.size 5 1 (.slice B5 n d5) n (bv l)) (hA : Ap (w5.alloc o) w6 22 1 vW v6 nF 1 xs [.slice B5 n d5]) (hS : ∀ b, w0.heap.size ≤ b → T b) :
    Bs w0 w6 T (b0 :: r1 :: .row 22 1 v6 (nF + 1) (xs ++ [.slice B5 n d5]) :: r3 :: r4 :: (Q ++ (v :: .rd 1 B5 n (bv l) :: Z))) := by
  have h1 := Bs.add_new (X := []) (Y := b0 :: r1 :: .row 22 1 vW nF xs :: r3 :: r4 :: (Q ++ (v :: Z))) (r := .rd 1 B5 n (bv l)) h k ⟨by omega, Rd.of_own own5⟩ (by
    rintro b ⟨_, ad, h1, rfl⟩
    subst h1
    exact (own5.lt ad.block rfl).1) hS
  have h2 : Bs w0 w5 T (b0 :: r1 :: .row 22 1 vW nF xs :: r3 :: r4 :: (Q ++ (v :: .rd 1 B5 n (bv l) :: Z))) := h1.perm (perm_in [b0, r1, .row 22 1 vW nF xs, r3, r4] Q v _ Z)
  exact Bs.app (X := [b0, r1]) (h2.alloc o) hA hS

def OwnPost (w : World) (S : Nat → Prop) (v : Value) (g c : Nat) (e : Ending) (w' : World) : Prop :=
  e = .returned (.bool true) ∧ ∃ S', BookOk w' S' g (c + 1) ∧ (∀ b, S' b → (S b ∨ v.ownBlock = some b ∨ w.heap.size ≤ b) ∧ b < w'.heap.size) ∧ Kp (fun b => S b ∨ v.ownBlock = some b) w w'

set_option maxHeartbeats 4000000 in
theorem Own_any (w : World) (S : Nat → Prop) (g c : Nat) (A : Option Addr) (n cp : Nat) (l : List UInt8) (h : BookOk w S g c) (hc : c ≤ 10000) (hv : w.ownsRow 0 5 1 (.slice A n cp) n (bv l)) (hS : ∀ b, (Value.slice A n cp).ownBlock = some b → ¬ S b) (hn : n ≤ 1000000000) :
    Calls Try.prog 34 #[.pointer (some ⟨g, 0, none⟩), .slice A n cp] w (OwnPost w S (.slice A n cp) g c) := by
  have hl : l.length = n := by have := hv.1; rw [bv_length] at this; omega
  obtain ⟨tot, F, K, vF, vW, vK, vN, Z, h1, h2, h3, h4, h5, h6, h7, h8, h9, h10⟩ := h
  obtain ⟨T, hT⟩ : ∃ T : Nat → Prop, T = fun b => S b ∨ (Value.slice A n cp).ownBlock = some b ∨ w.heap.size ≤ b := ⟨_, rfl⟩
  have HT := hd hT
  have HS := hd (show ∀ b, w.heap.size ≤ b → T b by rw [hT]; exact fun b hb => .inr (.inr hb))
  have hB0 : Bs w w T ((Hdr g (c : Int) (tot : Int) vF vW vK vN F K ++ F.map BF.row) ++ .row 5 1 (.slice A n cp) n (bv l) :: Z) := by
    have h1' : Sp w ((Hdr g (c : Int) (tot : Int) vF vW vK vN F K ++ F.map BF.row) ++ Z) := by rw [List.append_assoc]; exact h1
    have h2' : In S ((Hdr g (c : Int) (tot : Int) vF vW vK vN F K ++ F.map BF.row) ++ Z) := by rw [List.append_assoc]; exact h2
    refine Bs.perm ⟨h1'.add (r := .row 5 1 (.slice A n cp) n (bv l)) hv fun b hb s hs hcc => hS b hb (h2' s hs b hcc), (h2'.mono ?_).cons ?_, Kp.refl w⟩ (List.perm_middle (l₁ := Hdr g (c : Int) (tot : Int) vF vW vK vN F K ++ F.map BF.row) (l₂ := Z)).symm
    · rw [hT]; exact fun b hb => .inl hb
    · rw [hT]; exact fun b hb => .inr (.inl hb)
  rw [List.append_assoc] at hB0
  have H3 := hd h3
  have H4 := hd h4
  have H5 := hd h5
  have H7 := hd h7
  have H8 := hd h8
  have HL := hd hl
  clear h1 h2 h3 h4 h5 h7 h8 hT hl hS hv
  obtain ⟨nF, hnF⟩ : ∃ nF, F.length = nF := ⟨_, rfl⟩
  obtain ⟨nK, hnK⟩ : ∃ nK, K.length = nK := ⟨_, rfl⟩
  rw [hnF] at h6 h9
  rw [hnK] at h9
  unfold Hdr at hB0
  rw [hnF, hnK] at hB0
  have HNF := hd hnF
  have HNK := hd hnK
  clear hnF hnK
  obtain ⟨i0, hi0, hz0, hz1, hz2⟩ := info_parts info22
  have hb0 : Blk w g 33 #[.int .i64 (c : Int), .int .i64 (tot : Int), vF, vW, vK, vN, .bool false] := Sp.head hB0.sp
  obtain ⟨p0, p1, p2, p3, p4, p5, p6⟩ := hb0.c7
  have q0 := hb0.free 0
  have q1 := hb0.free 1
  go_enter Try.func34, Try.ntmps34
  go_upto_region 3 with (fail)
  have hB1 := Bs.set (X := []) (Bs.set (X := []) hB0 0 (.int .i64 ((c : Int) + 1)) HS.out) 1 (.int .i64 ((tot : Int) + (n : Int))) HS.out
  clear p0 p1 p2 p3 p4 p5 p6 q0 q1 hB0
  generalize (w.setCell ⟨g, 0, none⟩ (.int .i64 ((c : Int) + 1))).setCell ⟨g, 1, none⟩ (.int .i64 ((tot : Int) + (n : Int))) = W1 at hB1 ⊢
  have hb1 : Blk W1 g 33 #[.int .i64 ((c : Int) + 1), .int .i64 ((tot : Int) + (n : Int)), vF, vW, vK, vN, .bool false] := Sp.head hB1.sp
  obtain ⟨p0, p1, p2, p3, p4, p5, p6⟩ := hb1.c7
  have hrowF : W1.ownsRow 0 22 1 vF nF (F.map BF.v) := hB1.sp.all (.row 22 1 vF nF (F.map BF.v)) (by simp)
  go_upto_region 4 with ((with_reducible refine wl_app2 (.tmp 26) (.tmp 28) 30 22 i0 _ 1 24 Try.underlying30 hi0 hz0 hz1 hz2 ?_ (by omega) vF nF _ ?_ ((Ext.new W1 _).own hrowF) ⟨W1.heap.size, 0, none⟩ 1 1 [.slice A n cp] ?_ (Rd.cell1 _ _ _) (one_sl A n cp) (by omega) (by omega) ?_); exact rfl; exact rfl; exact rfl; intro v2 w2 hA2; obtain ⟨A2, c2, rfl, -⟩ := own_form hA2.own; have hB2 := Bs.app (X := [.blk g 33 #[.int .i64 ((c : Int) + 1), .int .i64 ((tot : Int) + (n : Int)), vF, vW, vK, vN, .bool false]]) (hB1.alloc _) hA2 HS.out; have hb2 : Blk w2 g 33 #[.int .i64 ((c : Int) + 1), .int .i64 ((tot : Int) + (n : Int)), vF, vW, vK, vN, .bool false] := Sp.head hB2.sp; obtain ⟨q0, q1, q2, q3, q4, q5, q6⟩ := hb2.c7; have f2 := hb2.free 2)
  have hB3 := Bs.set (X := []) hB2 2 (.slice A2 (nF + 1) c2) HS.out
  clear hA2 hrowF hB1 hb1 hB2 hb2 q0 q1 q2 q3 q4 q5 q6 f2 p0 p1 p2 p3 p4 p5 p6
  generalize w2.setCell ⟨g, 2, none⟩ (.slice A2 (nF + 1) c2) = W3 at hB3 ⊢
  generalize hv2 : Value.slice A2 (nF + 1) c2 = v2 at hB3 ⊢
  clear hv2
  have hb3 : Blk W3 g 33 #[.int .i64 ((c : Int) + 1), .int .i64 ((tot : Int) + (n : Int)), v2, vW, vK, vN, .bool false] := Sp.head hB3.sp
  have hrowW : W3.ownsRow 0 22 1 vW nF (F.map BF.u) := hB3.sp.all (.row 22 1 vW nF (F.map BF.u)) (by simp)
  have hrd : Rd W3 1 A n (bv l) := Rd.of_own (hB3.sp.all (.row 5 1 (.slice A n cp) n (bv l)) (by simp) : W3.ownsRow 0 5 1 (.slice A n cp) n (bv l))
  have p3 := hb3.c7.2.2.2.1
  go_cut [] from 32 to 42 (fun W => ∃ v4 B d, Bs w W T ([.blk g 33 #[.int .i64 ((c : Int) + 1), .int .i64 ((tot : Int) + (n : Int)), v2, v4, vK, vN, .bool false], .row 22 1 v2 (nF + 1) (F.map BF.v ++ [.slice A n cp])] ++ .row 22 1 v4 (nF + 1) (F.map BF.u ++ [.slice B n d]) :: .row 22 1 vK nK (K.map BK.v) :: .row 3 1 vN nK (K.map BK.num) :: (F.map BF.row ++ (.row 5 1 (.slice A n cp) n (bv l) :: .rd 1 B n (bv l) :: Z))))
  case first =>
    go_region_law (first | (go_simp; go_at_call 36; with_reducible refine (CopyBytes_any A n cp l _ (hrd.ext (Ext.refl _).drew) (by omega)).mono ?_; rintro e' w5 ⟨B5, d5, rfl, own5, hX5⟩; have hY5 := hX5.of_drew; have p35 := hY5.cell p3; have p36 := (Ext.new w5 (.cells #[.slice B5 n d5] 22)).cell p35) | (refine step_app2 (by rfl) (.tmp 36) (.tmp 39) 30 (by rfl) 22 i0 _ 1 24 Try.underlying30 hi0 hz0 hz1 hz2 (by rfl) (by omega) vW nF (F.map BF.u) (by rfl) ((hY5.alloc _).own hrowW) ⟨w5.heap.size, 0, none⟩ 1 1 [.slice B5 n d5] (by rfl) (Rd.cell1 _ _ _) (one_sl B5 n d5) (by omega) (by omega) ?_; intro v6 w6 hA6; obtain ⟨A6, c6, rfl, -⟩ := own_form hA6.own; have hB6 := was_in hB3 hY5 own5 hA6 HS.out; have hb6 : Blk w6 g 33 #[.int .i64 ((c : Int) + 1), .int .i64 ((tot : Int) + (n : Int)), v2, vW, vK, vN, .bool false] := Sp.head hB6.sp; obtain ⟨r0, r1, r2, r3, r4, r5, r6⟩ := hb6.c7; have f3 := hb6.free 3))
    all_goals go_wp2
    all_goals go_meet
    all_goals case rel => exact ⟨_, B5, d5, Bs.set (X := []) hB6 3 (.slice A6 (nF + 1) c6) HS.out⟩
  case rest =>
  obtain ⟨v4, B, d, hB4⟩ := hcut
  clear hB3 hb3 hrowW hrd p3
  obtain ⟨r, hr⟩ : ∃ r : BF, r = ⟨A, cp, l, B, d⟩ := ⟨_, rfl⟩
  have hrl : r.l.length = n := by rw [hr]; exact HL.out
  have hrv : r.v = .slice A n cp := by rw [hr, ← HL.out]; rfl
  have hru : r.u = .slice B n d := by rw [hr, ← HL.out]; rfl
  have hrr : r.row = .row 5 1 (.slice A n cp) n (bv l) := by rw [hr, ← HL.out]; rfl
  have hrw : r.was = .rd 1 B n (bv l) := by rw [hr, ← HL.out]; rfl
  have hB5 : Bst w wc T g ((c + 1 : Nat) : Int) ((tot + n : Nat) : Int) v2 v4 vK vN (F ++ [r]) K ((F ++ [r]).map BF.row ++ (r.was :: Z)) := by
    rw [← hrr, ← hrw, ← hrv, ← hru] at hB4
    have e1 : (F ++ [r]).length = nF + 1 := by rw [List.length_append, HNF.out]; rfl
    have e2 : (F ++ [r]).map BF.v = F.map BF.v ++ [r.v] := by simp
    have e3 : (F ++ [r]).map BF.u = F.map BF.u ++ [r.u] := by simp
    have e4 : (F ++ [r]).map BF.row = F.map BF.row ++ [r.row] := by simp
    show Bs _ _ _ _
    unfold Hdr
    rw [e1, e2, e3, e4, HNK.out, Int.natCast_add, Int.natCast_add, List.append_assoc]
    exact hB4
  have hZ' : ∀ z ∈ r.was :: Z, ¬ z.turns := by
    intro z hz
    rcases List.mem_cons.mp hz with rfl | hz
    · exact fun h => h
    · exact H3.out z hz
  have hW' : ∀ x ∈ F ++ [r], x.was ∈ r.was :: Z := by
    intro x hx
    rcases List.mem_append.mp hx with hx | hx
    · exact List.mem_cons_of_mem _ (H4.out x hx)
    · obtain rfl := List.mem_singleton.mp hx
      simp
  have hK' : ∀ k ∈ K, k.rd ∈ r.was :: Z := fun k hk => List.mem_cons_of_mem _ (H5.out k hk)
  have hl' : ∀ x ∈ F ++ [r], x.l.length ≤ 1000000000 := by
    intro x hx
    rcases List.mem_append.mp hx with hx | hx
    · exact H7.out x hx
    · obtain rfl := List.mem_singleton.mp hx
      omega
  have hlF : (F ++ [r]).length = nF + 1 := by rw [List.length_append, HNF.out]; rfl
  clear hrl hrv hru hrr hrw hr hB4
  obtain ⟨F', hF'⟩ : ∃ F', F ++ [r] = F' := ⟨_, rfl⟩
  rw [hF'] at hB5 hW' hl' hlF
  generalize r.was :: Z = Z2 at hB5 hZ' hW' hK'
  have HZ2 := hd hZ'
  have HW2 := hd hW'
  have HK2 := hd hK'
  have HL2 := hd hl'
  have HLF := hd hlF
  clear hZ' hW' hK' hl' hF' hlF H3 H4 H5 H7 HNF
  have hKp : ∀ w', Kp T w w' → Kp (fun b => S b ∨ (Value.slice A n cp).ownBlock = some b) w w' := fun w' k => k.mono fun i hi e => by
    rw [HT.out] at e
    rcases e with e | e | e
    · exact .inl e
    · exact .inr e
    · omega
  have HKp := hd hKp
  have fin : ∀ (w1 w2 : World) (F2 : List BF) (K2 : List BK) (vF vW vK vN : Value) (Z2 : List Res), Bst w w1 T g ((c + 1 : Nat) : Int) ((tot + n : Nat) : Int) vF vW vK vN F2 K2 (F2.map BF.row ++ Z2) → (∀ z ∈ Z2, ¬ z.turns) → (∀ x ∈ F2, x.was ∈ Z2) → (∀ k ∈ K2, k.rd ∈ Z2) → F2.length ≤ 2 → (∀ x ∈ F2, x.l.length ≤ 1000000000) →
      (∀ k ∈ K2, k.n ≤ 1000004070 ∧ k.q ≤ 200000) → K2.length + 2 * F2.length ≤ 2 * (c + 1) → Kp (fun b => b = g) w1 w2 → Blk w2 g 33 #[.int .i64 ((c + 1 : Nat) : Int), .int .i64 ((tot + n : Nat) : Int), vF, vW, vK, vN, .bool false] →
      OwnPost w S (.slice A n cp) g c (.returned (.bool true)) w2 := by
    intro w1 w2 F2 K2 vF vW vK vN Z2 hB a1 a2 a3 a4 a5 a6 a7 hk hb
    have hB2 : Bst w w2 T g ((c + 1 : Nat) : Int) ((tot + n : Nat) : Int) vF vW vK vN F2 K2 (F2.map BF.row ++ Z2) :=
      Bs.mid (X := []) (r := .blk g 33 #[.int .i64 ((c + 1 : Nat) : Int), .int .i64 ((tot + n : Nat) : Int), vF, vW, vK, vN, .bool false]) hB trivial hk hb (fun b hb => .inl hb) HS.out
    refine ⟨rfl, _, BookOk.low (S := T) ⟨tot + n, F2, K2, vF, vW, vK, vN, Z2, hB2.sp, hB2.in_, a1, a2, a3, a4, a5, a6, a7, by omega⟩, fun b hb => ⟨?_, hb.2⟩, HKp.out _ hB2.kp⟩
    have := hb.1
    rw [HT.out] at this
    exact this
  have FIN := hd fin
  clear fin hKp
  obtain ⟨aF, cF, rfl, -⟩ := row_some (rowF_of hB5.sp)
  rw [HLF.out] at hB5 ⊢
  have p2 := (blk_of hB5.sp).c7.2.2.1
  by_cases h3 : nF = 2
  · subst h3
    go_upto_region 7 with (go_at_call 78; (with_reducible refine (write_any wc g ((c + 1 : Nat) : Int) (tot + n) F' K _ _ _ _ Z2 T hB5.rebase HZ2.out HW2.out HK2.out (fun b hb => HS.out b (Nat.le_trans hB5.kp.size hb)) (by rw [HLF.out]; omega) (by rw [HNK.out]; omega) HL2.out (by omega)).mono ?_); rintro e w6 ⟨rfl, Z6, hZ6, K6, vK6, vN6, hB6, hK6, hk6, hb6⟩)
    have hb7 : ∀ k ∈ K6, k.n ≤ 1000004070 ∧ k.q ≤ 200000 := by
      intro k hk
      rcases hb6 k hk with e | e
      · exact H8.out k e
      · have := HNK.out; have := HLF.out; omega
    have hl6 : K6.length ≤ 2 * (c + 1) := by have := HNK.out; have := HLF.out; omega
    have hB7 := hB5.over hB6
    have HB7 := hd hb7
    have HK6 := hd hk6
    have HZ6 := hd hZ6
    clear hb6 hb7 hk6 hZ6 hK6 p2 hB6
    go_wp2_with (go_at_call 79; (with_reducible refine (Holds_any w6 g _ _ [] K6 _ _ _ _ Z6 hB7.sp (by simp) HK6.out (by simp) (by omega) HB7.out).mono ?_); rintro e w7 ⟨rfl, hk7, hb7⟩)
    go_ret
    exact FIN.out w6 w7 [] K6 _ _ _ _ Z6 hB7 HZ6.out (by simp) HK6.out (by simp) (by simp) HB7.out (by simpa using hl6) hk7 hb7
  · have e3 : ¬ (3 : Int) ≤ ((nF + 1 : Nat) : Int) := by omega
    have e3' : ¬ (3 : Int) ≤ (nF : Int) + 1 := by omega
    have e3'' : ¬ 3 ≤ nF + 1 := by omega
    go_wp2_with (go_at_call 79; (with_reducible refine (Holds_any wc g _ _ F' K _ _ _ _ Z2 hB5.sp HW2.out HK2.out (by rw [HLF.out]; omega) (by rw [HNK.out]; omega) H8.out).mono ?_); rintro e w7 ⟨rfl, hk7, hb7⟩)
    go_ret
    exact FIN.out wc w7 F' K _ _ _ _ Z2 hB5 HZ2.out HW2.out HK2.out (by rw [HLF.out]; omega) HL2.out H8.out (by rw [HLF.out, HNK.out]; omega) hk7 hb7

set_option maxHeartbeats 2000000 in
theorem Done_any (w : World) (S : Nat → Prop) (g c : Nat) (h : BookOk w S g c) (hc : c ≤ 10000) :
    Calls Try.prog 35 #[.pointer (some ⟨g, 0, none⟩)] w fun e w' => e = .returned (.bool true) ∧ Kp S w w' := by
  obtain ⟨tot, F, K, vF, vW, vK, vN, Z, h1, h2, h3, h4, h5, h6, h7, h8, h9, h10⟩ := h
  obtain ⟨T, hT⟩ : ∃ T : Nat → Prop, T = fun b => S b ∨ w.heap.size ≤ b := ⟨_, rfl⟩
  have hB : Bst w w T g (c : Int) (tot : Int) vF vW vK vN F K (F.map BF.row ++ Z) := ⟨h1, h2.mono (by rw [hT]; exact fun b hb => .inl hb), Kp.refl w⟩
  have HS := hd (show ∀ b, w.heap.size ≤ b → T b by rw [hT]; exact fun b hb => .inr hb)
  have HKp := hd (show ∀ w', Kp T w w' → Kp S w w' from fun w' k => k.mono fun i hi e => by
    rw [hT] at e
    rcases e with e | e
    · exact e
    · omega)
  have H3 := hd h3
  have H4 := hd h4
  have H5 := hd h5
  have H7 := hd h7
  have H8 := hd h8
  clear h1 h2 h3 h4 h5 h7 h8 hT
  go_enter Try.func35, Try.ntmps35
  go_upto_region 2 with (go_at_call 78; (with_reducible refine (write_any w g (c : Int) tot F K _ _ _ _ Z T hB H3.out H4.out H5.out HS.out (by omega) (by omega) H7.out (by omega)).mono ?_); rintro e w6 ⟨rfl, Z6, hZ6, K6, vK6, vN6, hB6, hK6, hk6, hb6⟩)
  have hb7 : ∀ k ∈ K6, k.n ≤ 1000004070 ∧ k.q ≤ 200000 := by
    intro k hk
    rcases hb6 k hk with e | e
    · exact H8.out k e
    · omega
  have hl6 : K6.length ≤ 100000 := by omega
  have HB7 := hd hb7
  have HK6 := hd hk6
  clear hb6 hb7 hk6 hZ6 hK6
  go_wp2_with (go_at_call 79; (with_reducible refine (Holds_any w6 g _ _ [] K6 _ _ _ _ Z6 hB6.sp (by simp) HK6.out (by simp) hl6 HB7.out).mono ?_); rintro e w7 ⟨rfl, hk7, hb7⟩)
  go_ret
  refine ⟨rfl, HKp.out _ ?_⟩
  have hB7 := Bs.mid (X := []) (r := .blk g 33 #[.int .i64 (c : Int), .int .i64 (tot : Int), .slice none 0 0, .slice none 0 0, vK6, vN6, .bool false]) (r' := .blk g 33 #[.int .i64 (c : Int), .int .i64 (tot : Int), .slice none 0 0, .slice none 0 0, vK6, vN6, .bool false]) hB6 trivial hk7 hb7 (fun b hb => .inl hb) HS.out
  exact hB7.kp

end Go.Proofs.Ytfcbedkidjclhaa
