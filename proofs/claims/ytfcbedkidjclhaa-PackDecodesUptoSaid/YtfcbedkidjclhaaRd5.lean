/-
  The contract of the document's Decode of a container.
  Conditions: the bytes can be read.
-/
import Derived.Test.YtfcbedkidjclhaaRd4
import Derived.Test.YtfcbedkidjclhaaSp
import Derived.Deep.RegionLaw
namespace Go.Proofs.Ytfcbedkidjclhaa
open Go.RowKit
set_option maxRecDepth 100000
set_option linter.unusedSimpArgs false
set_option linter.unusedVariables false

theorem own_up {w : World} {base : Nat} {e : TypeId} {sz n : Nat} {v : Value} {xs : List Value} (h : w.ownsRow 0 e sz v n xs) (hb : ∀ b, v.ownBlock = some b → base ≤ b) : w.ownsRow base e sz v n xs := by
  refine ⟨h.1, ?_⟩
  rcases h.2 with h2 | ⟨g, cap, cur, rfl, hg, r⟩
  · exact .inl h2
  · exact .inr ⟨g, cap, cur, rfl, hb g rfl, r⟩
/-- the container that is being read, in memory -/
def Rk (gK : Nat) (lo hi : Int) (vD vT vC : Value) (C : Pk.C) : List Res :=
  [.blk gK 25 #[.int .i64 lo, .int .i64 hi, vD, vT, vC], .row 5 1 vD C.data.length (bv C.data), .row 54 2 vT C.ts.length (tv C.ts), .row 5 1 vC C.code.length (bv C.code)]
def RS5 (W wr : World) (gK : Nat) (C : Pk.C) : Prop := ∃ vD vT vC, Bs W wr (fun b => b = gK ∨ W.heap.size ≤ b) (Rk gK C.lo C.hi vD vT vC C)
def Rt (gK : Nat) (C : Pk.C) (vD vT vC : Value) (ps : List (Int × Int)) : List Res :=
  [.blk gK 25 #[.int .i64 C.lo, .int .i64 C.hi, vD, vT, vC], .row 5 1 vD C.data.length (bv C.data), .row 54 2 vT (C.ts ++ ps).length (tv (C.ts ++ ps)), .row 5 1 vC C.code.length (bv C.code)]
def RT5 (W wr : World) (gK : Nat) (C : Pk.C) (ps : List (Int × Int)) : Prop := ∃ vD vT vC, Bs W wr (fun b => b = gK ∨ W.heap.size ≤ b) (Rt gK C vD vT vC ps)
structure Fn (bs : List UInt8) (N n pos kind f : Nat) (C : Pk.C) (X : Except (Nat × Int) Pk.R) : Prop where
  k4 : kind ≤ 4
  d0 : kind < 3 → C.data = []
  c0 : kind < 4 → C.code = []
  t8 : C.ts.length ≤ 8 * kind
  dl : C.data.length ≤ 4096
  cl : C.code.length ≤ 131072
  fu : N < pos + f
  kz : kind = 0 → pos = 4
  run : Pk.sects (bs.take N) f ⟨pos, kind, C⟩ = X

theorem pairs_snoc : ∀ (l : List UInt8) (a b : UInt8), l.length % 2 = 0 → Pk.pairs (l ++ [a, b]) = Pk.pairs l ++ [((a.toNat : Int), (b.toNat : Int))]
  | [], _, _, _ => rfl
  | [x], _, _, h => by simp at h
  | x :: y :: l, a, b, h => by
    rw [List.cons_append, List.cons_append, Pk.pairs, Pk.pairs, pairs_snoc l a b (by simp at h; omega), List.cons_append]
theorem pairs_two (cs : List UInt8) (j : Nat) (h : 2 * j + 1 < cs.length) : Pk.pairs (cs.take (2 * (j + 1))) = Pk.pairs (cs.take (2 * j)) ++ [((cs[2 * j].toNat : Int), (cs[2 * j + 1].toNat : Int))] := by
  have e : cs.take (2 * (j + 1)) = cs.take (2 * j) ++ [cs[2 * j], cs[2 * j + 1]] := by
    rw [show 2 * (j + 1) = 2 * j + 1 + 1 by omega, List.take_succ_eq_append_getElem h, List.take_succ_eq_append_getElem (by omega), List.append_assoc]
    rfl
  rw [e, pairs_snoc _ _ _ (by rw [List.length_take]; omega)]
theorem pairs_len : ∀ l : List UInt8, (Pk.pairs l).length = l.length / 2
  | [] => rfl
  | [x] => by simp [Pk.pairs]
  | a :: b :: l => by
    rw [Pk.pairs, List.length_cons, pairs_len l, List.length_cons, List.length_cons]
    omega
theorem Fn.next {bs cs : List UInt8} {N n pos kind f k fto : Nat} {C : Pk.C} {X : Except (Nat × Int) Pk.R} (h : Fn bs N n pos kind (f + 1) C X) (h1 : kind < k) (h2 : k ≤ 4) (h3 : pos + 4 < fto) (hcs : cs.length = fto - (pos + 4)) (hN : cs.length ≤ 131072)
    (hk2 : k = 2 → cs.length ≤ 16) (hk3 : k = 3 → cs.length ≤ 4096) (hr : Pk.sects (bs.take N) f ⟨fto, k, Pk.grow k cs C⟩ = X) : Fn bs N n fto k f (Pk.grow k cs C) X := by
  have g1 := h.d0
  have g2 := h.c0
  have g3 := h.t8
  have g4 := h.dl
  have g5 := h.cl
  have g6 := h.fu
  refine ⟨h2, ?_, ?_, ?_, ?_, ?_, by omega, fun e => by omega, hr⟩
  all_goals unfold Pk.grow
  · intro hk
    split
    · exact g1 (by omega)
    · split
      · exact g1 (by omega)
      · omega
  · intro hk
    split
    · exact g2 (by omega)
    · split
      · exact g2 (by omega)
      · split
        · exact g2 (by omega)
        · omega
  · split
    · simp only; omega
    · split
      · rename_i e
        have := hk2 e
        simp only [List.length_append, pairs_len]
        omega
      · split <;> (simp only; omega)
  · split
    · exact g4
    · split
      · exact g4
      · split
        · rename_i e
          have := hk3 e
          simp only [List.length_append]
          rw [g1 (by omega)]
          simpa using this
        · exact g4
  · split
    · exact g5
    · split
      · exact g5
      · split
        · exact g5
        · simp only [List.length_append]
          rw [g2 (by omega)]
          simpa using hN

set_option maxHeartbeats 8000000 in
theorem RDec_main (A : Option Addr) (n c : Nat) (bs : List UInt8) (w : World) (h : Rd w 1 A n (bv bs)) (hn : n ≤ 131072) (hnc : n ≤ c) (hf1 : 8 ≤ n) (hf2 : bs.take 4 = Pk.magic) (hf3 : Pk.sum (bs.take (n - 4)) = Pk.val (bs.drop (n - 4)))
    (X : Except (Nat × Int) Pk.R) (hX : Pk.sects (bs.take (n - 4)) n ⟨4, 0, Pk.C0⟩ = X) :
    Calls Try.prog 80 #[.slice A n c] w (DecPost (decMain (n - 4) X) w) := by
  have hl : bs.length = n := by have := h.1; rw [bv_length] at this; omega
  have HXX := hd hX
  have HL := hd hl
  clear hX hl
  go_enter Try.func80, Try.ntmps80
  go_upto_region 2 with (fail)
  refine wp_world (fun W => Ext w W ∧ Blk W w.heap.size 25 #[.int .i64 0, .int .i64 0, .slice none 0 0, .slice none 0 0, .slice none 0 0] ∧ Blk W (w.heap.size + 1) 25 #[.int .i64 0, .int .i64 0, .slice none 0 0, .slice none 0 0, .slice none 0 0]) ⟨(Ext.new _ _).alloc _, (Blk.new _ _ _).alloc _, by simpa using Blk.new (w.alloc _) 25 _⟩ ?_
  obtain ⟨gR, hgR⟩ : ∃ gR, w.heap.size = gR := ⟨_, rfl⟩
  obtain ⟨gK, hgK⟩ : ∃ gK, gR + 1 = gK := ⟨_, rfl⟩
  rw [hgR, hgK]
  rintro W ⟨hX, hP, hK⟩
  obtain ⟨b, o, rfl, hcell0⟩ := h.form (by omega) (by omega)
  have hbw : b < w.heap.size := World.block_lt_of_cell? w _ (hcell0 0 _ (List.getElem?_eq_getElem (by rw [bv_length, HL.out]; omega)))
  clear hcell0
  have hrW := h.ext hX
  have e1 : ¬ (131072 : Int) < (n : Int) := by omega
  have e2 : ¬ (n : Int) < 8 := by omega
  have h4 : Rd W 1 (some ⟨b, o, none⟩) 4 (bv (bs.take 4)) := by have := hrW.take (k := 4) (by omega); rwa [Nat.mul_one, bv_take] at this
  have hV : Pk.val (bs.take 4) = 827019351 := (magic_val (by rw [List.length_take, HL.out]; omega)).mp hf2
  have hsl := slice_toK b o n c 4 (by omega) W 4 rfl
  have HV := hd hV
  clear hV hf2
  obtain ⟨N, hN⟩ : ∃ N, n = N + 4 := ⟨n - 4, by omega⟩
  have hs1 : Rd W 1 (some ⟨b, o, none⟩) N (bv (bs.take N)) := by have := hrW.take (k := N) (by omega); rwa [Nat.mul_one, bv_take] at this
  have hs2 : Rd W 1 (some ⟨b, o + N, none⟩) 4 (bv (bs.drop N)) := by
    have := hrW.midK (i := N) (k := 4) (by omega)
    rwa [List.take_of_length_le (by rw [List.length_drop, HL.out]; omega)] at this
  rw [show n - 4 = N by omega] at hf3 HXX ⊢
  have i0 : (n : Int) - 4 = (N : Int) := by omega
  have hsA := fun v => slice_fromK b o n c N (by omega) (by omega) (by omega) v (N : Int) rfl
  rw [show n - N = 4 by omega] at hsA
  have hsB := fun v => slice_toK b o n c N (by omega) v (N : Int) rfl
  have hw5 : IntKind.i64.wrap ((n : Int) - 4) = (N : Int) := by rw [IntKind.wrap_i64]; omega
  obtain ⟨oN, hoN⟩ : ∃ oN, o + N = oN := ⟨_, rfl⟩
  rw [hoN] at hs2 hsA
  obtain ⟨S, hS⟩ : ∃ S, Pk.sum (bs.take N) = S := ⟨_, rfl⟩
  have hV : Pk.val (bs.drop N) = S := by rw [← hf3, hS]
  have hNl : N ≤ 9000000000000000000 := by omega
  have hNl2 : N ≤ 131072 := by omega
  have hN4 : 4 ≤ N := by omega
  have hNn : N + 4 = n := by omega
  have HN := hd hN
  have HNn := hd hNn
  clear hN hf3 hNn
  have CS : Hid (∀ m, Calls Try.prog 76 #[.slice (some ⟨b, o, none⟩) N c] (W.drewN m) fun e w' => e = Ending.returned (.int .i64 (S : Int)) ∧ ∃ k, w' = (W.drewN m).drewN k) := hd fun m =>
    (RSum_quiet _ N c _ (W.drewN m) (hs1.drewN m) hNl).mono fun e w' ⟨he, hw⟩ => ⟨by rw [he, hS], hw⟩
  have CG : Hid (∀ m, Calls Try.prog 115 #[.slice (some ⟨b, oN, none⟩) 4 (c - N)] (W.drewN m) fun e w' => e = Ending.returned (.int .i64 (S : Int)) ∧ w' = W.drewN m) := hd fun m =>
    (RVal_any _ 4 (c - N) _ (W.drewN m) (hs2.drewN m) (by omega)).mono fun e w' ⟨he, hw⟩ => ⟨by rw [he, hV], hw.symm⟩
  clear hS hV hs2 hoN hrW
  go_upto_region 8 with (go_at_call 115; (with_reducible refine (RVal_any _ 4 _ _ _ h4 (by omega)).mono ?_); rw [HV.out]; rintro e v1 ⟨rfl, rfl⟩)
  clear hsl h4
  go_upto_region 9 with (fail)
  go_quiet (first | (go_at_call 76; exact Calls.quiet_of (CS.out _)) | (go_at_call 115; exact Calls.quiet_of_same (CG.out _)))
  clear CS CG hsA
  have hgRW : gR < W.heap.size := hP.lt
  have hgKW : gK < W.heap.size := hK.lt
  have hBs0 : RS5 W (W.drewN nq) gK Pk.C0 := by
    refine ⟨.slice none 0 0, .slice none 0 0, .slice none 0 0, ⟨⟨?_, ?_⟩, ?_, (Kp.refl W).drewN nq⟩⟩
    · intro r hr
      simp only [Rk, List.mem_cons, List.not_mem_nil, or_false] at hr
      rcases hr with rfl | rfl | rfl | rfl
      · exact hK
      all_goals exact World.ownsRow_nil _ 0 _ _
    · simp only [Rk, List.pairwise_cons, List.mem_cons, List.not_mem_nil, or_false]
      refine ⟨?_, ?_, ?_, by simp, by simp⟩
      · rintro s (rfl | rfl | rfl) _ x hx hc <;> cases hc
      · rintro s (rfl | rfl) _ x hx hc <;> cases hc
      · rintro s rfl _ x hx hc; cases hc
    · intro r hr x hx
      simp only [Rk, List.mem_cons, List.not_mem_nil, or_false] at hr
      rcases hr with rfl | rfl | rfl | rfl
      · exact .inl hx
      all_goals cases hx
  obtain ⟨q0, q1, q2, q3, q4⟩ := hP.f5
  have hbl : (bs.take N).length = N := by rw [List.length_take, HL.out]; omega
  have HBL := hd hbl
  clear hbl
  by_cases hN0 : N = 4
  · have e3 : ((N : Int) == 4) = true := by simp; omega
    have hEX : decMain N X = (Pk.C0, N, 120) := by
      rw [← HXX.out, Pk.sects_end n (by rw [HBL.out]; simp only; omega)]
      rfl
    have HEX := hd hEX
    clear hEX hN0
    obtain ⟨p0, p1, p2, p3, p4⟩ := hK.c5
    obtain ⟨r0, r1, r2, r3, r4⟩ := hP.c5
    go_wp2
    obtain ⟨x0, x1, x2, x3, x4⟩ := (Blk.s5 (w := W.drewN nq) hP (.int .i64 0) (.int .i64 0) (.slice none 0 0) (.slice none 0 0) (.slice none 0 0)).c5
    refine bodyPost_ret (v := .tuple #[.agg #[.int .i64 0, .int .i64 0, .slice none 0 0, .slice none 0 0, .slice none 0 0], .int .i64 N, .int .i64 120]) (by simp [results, Try.results80, go_sem, x0, x1, x2, x3, x4]) rfl (DecPost.err (p := N) (by rw [show n - 4 = N by have := HN.out; omega, HEX.out]) rfl (Ext.s5 (hX.drewN nq) (by omega) _ _ _ _ _))
  · have e3 : ((N : Int) == 4) = false := by simp; omega
    go_wp2
    go_loopw [7, 8] (fun a k wr => ∃ (pos kind f : Nat) (C : Pk.C), a = .int .i64 (pos : Int) ∧ k = .int .i64 (kind : Int) ∧ pos ≤ N ∧ RS5 W wr gK C ∧ Hid (Fn bs N n pos kind f C X)) (fun a _ _ => N - (intOf a).toNat)
    case atStart => exact ⟨4, 0, n, Pk.C0, rfl, rfl, by omega, hBs0, hd ⟨by omega, fun _ => rfl, fun _ => rfl, by simp [Pk.C0], by simp [Pk.C0], by simp [Pk.C0], by omega, fun _ => rfl, HXX.out⟩⟩
    case round =>
      obtain ⟨pos, kind, f, C, rfl, rfl, hpos, ⟨vD, vT, vC, hB⟩, HF⟩ := hrel
      clear hBs0
      have hk4 := HF.out.k4
      have hXw : Ext w wr := hB.kp.ext hX (fun x hx => by rcases hx with rfl | hx <;> omega)
      have hPr : Blk wr gR 25 #[.int .i64 0, .int .i64 0, .slice none 0 0, .slice none 0 0, .slice none 0 0] := hB.kp.blk hP (by rintro (h1 | h1) <;> omega)
      have hKr : Blk wr gK 25 #[.int .i64 C.lo, .int .i64 C.hi, vD, vT, vC] := Sp.head hB.sp
      have hsr : Rd wr 1 (some ⟨b, o, none⟩) N (bv (bs.take N)) := hB.kp.rd hs1 (by rintro ad e; injection e with e; subst e; rintro (h1 | h1) <;> simp only at h1 <;> omega)
      have hrr : Rd wr 1 (some ⟨b, o, none⟩) n (bv bs) := h.ext hXw
      obtain ⟨q0, q1, q2, q3, q4⟩ := hPr.f5
      by_cases hlt : pos < N
      · have f1 : (pos : Int) < (N : Int) := by omega
        obtain ⟨fq, fe, fto, hfa⟩ : ∃ fq fe fto, Pk.fault (bs.take N) pos kind = (fq, fe, fto) := ⟨_, _, _, rfl⟩
        obtain ⟨f', hf'⟩ : ∃ f', f = f' + 1 := ⟨f - 1, by have := HF.out.fu; omega⟩
        have HFA := hd hfa
        have K116 : Hid (Calls Try.prog 116 #[.slice (some ⟨b, o, none⟩) N c, .int .i64 (pos : Int), .int .i64 (kind : Int)] wr (FaultPost (fq, fe, fto) wr)) := hd (by
          have := RFault_any (some ⟨b, o, none⟩) N c (bs.take N) pos kind wr hsr (by omega) hNl2 hlt hk4
          rw [hfa] at this
          exact this)
        clear hfa
        by_cases hfe : fe = 0
        · subst hfe
          obtain ⟨o1, o2, o3, o4, o5, o6, o7, o8, o9⟩ := Pk.fault_ok (p := C) HFA.out HF.out.d0 HF.out.c0
          rw [HBL.out] at o3
          obtain ⟨k, hk⟩ : ∃ k, ((bs.take N).getD pos 0).toNat = k := ⟨_, rfl⟩
          rw [hk] at o4 o5 o6 o7 o8 o9
          obtain ⟨cs, hcs⟩ : ∃ cs, ((bs.take N).drop (pos + 4)).take (fto - (pos + 4)) = cs := ⟨_, rfl⟩
          rw [hcs] at o9
          have hpl : pos < bs.length := by rw [HL.out]; omega
          have hkb : bs[pos].toNat = k := by
            rw [← hk, List.getD_eq_getElem?_getD, List.getElem?_take_of_lt hlt, List.getElem?_eq_getElem hpl]
            rfl
          have hcl : cs.length = fto - (pos + 4) := by rw [← hcs, List.length_take, List.length_drop, HBL.out]; omega
          have hcs2 : (bs.drop (pos + 4)).take (fto - (pos + 4)) = cs := by
            rw [← hcs, List.drop_take, List.take_take, Nat.min_eq_left (by omega)]
          have hFN := HF.out
          subst hf'
          have hrun : Pk.sects (bs.take N) f' ⟨fto, k, Pk.grow k cs C⟩ = X := by
            have hs := hFN.run
            rw [Pk.sects, if_pos (by rw [HBL.out]; exact hlt), o9] at hs
            exact hs
          have HNX := hd (hFN.next o4 o5 o2 hcl (by omega) (fun e => by have := o7 e; omega) (fun e => by have := o8 e; omega) hrun)
          obtain ⟨m, hm⟩ : ∃ m, fto - (pos + 4) = m := ⟨_, rfl⟩
          have hm0 : 0 < m := by omega
          have hftm : fto = pos + 4 + m := by omega
          rw [hm] at hcl hcs2
          subst hftm
          clear hm
          have o6' : k = 1 → m = 4 := fun e => by have := o6 e; omega
          have o7' : k = 2 → m % 2 = 0 ∧ m ≤ 16 := fun e => by have := o7 e; omega
          clear hrun hFN o9 HFA hk
          have hdat := HF.out.dl
          have hcod := HF.out.cl
          have htab := HF.out.t8
          go_upto_region 17 with (go_at_call 116; (with_reducible refine K116.out.mono ?_); rintro e v3 ⟨rfl, hX3⟩)
          have hB3 := hB.ext hX3
          have hP3 := hPr.ext hX3
          have hX3w := hXw.trans hX3
          have hr3 := h.ext hX3w
          obtain ⟨b', o', hbo, hcell⟩ := hr3.form (by omega) (by omega)
          injection hbo with hbo
          injection hbo with hb1 hb2
          subst hb1
          subst hb2
          have cpos := hcell _ _ (bv_get bs pos hpl)
          rw [hkb] at cpos
          have hsC := slice_midK b o n c (pos + 4) (pos + 4 + m) (by omega) (by omega) (by omega) v3 ((pos : Int) + 4) ((pos : Int) + 4 + (m : Int)) (by omega) (by omega)
          rw [show pos + 4 + m - (pos + 4) = m by omega] at hsC
          have hrc : Rd v3 1 (some ⟨b, o + (pos + 4), none⟩) m (bv cs) := by
            have := hr3.midK (i := pos + 4) (k := m) (by omega)
            rwa [hcs2] at this
          have hrc0 : Rd w 1 (some ⟨b, o + (pos + 4), none⟩) m (bv cs) := by
            have := h.midK (i := pos + 4) (k := m) (by omega)
            rwa [hcs2] at this
          have f3 : (pos : Int) < (n : Int) := by omega
          clear hcell hB hPr hKr hsr hrr hXw hX3 K116 q0 q1 q2 q3 q4 hkb hcs hcs2
          have hS3 : ∀ x, W.heap.size ≤ x → (x = gK ∨ W.heap.size ≤ x) := fun x hx => .inr hx
          have HS3 := hd hS3
          clear hS3
          have hK3 : Blk v3 gK 25 #[.int .i64 C.lo, .int .i64 C.hi, vD, vT, vC] := Sp.head hB3.sp
          obtain ⟨p0, p1, p2, p3, p4⟩ := hK3.c5
          obtain ⟨q0, q1, q2, q3, q4⟩ := hK3.f5
          obtain ⟨i0, hi0, hz0, hz1, hz2⟩ := info_parts info5
          obtain rfl | rfl | rfl | rfl : k = 1 ∨ k = 2 ∨ k = 3 ∨ k = 4 := by omega
          · -- the lengths
            obtain rfl : m = 4 := o6' rfl
            have ha : Rd v3 1 (some ⟨b, o + (pos + 4), none⟩) 2 (bv (cs.take 2)) := by have := hrc.take (k := 2) (by omega); rwa [Nat.mul_one, bv_take] at this
            have hb2 : Rd v3 1 (some ⟨b, o + (pos + 4) + 2, none⟩) 2 (bv (cs.drop 2)) := by
              have := hrc.midK (i := 2) (k := 2) (by omega)
              rwa [List.take_of_length_le (by rw [List.length_drop]; omega)] at this
            have ht1 := fun v => slice_toK b (o + (pos + 4)) 4 (c - (pos + 4)) 2 (by omega) v 2 rfl
            have ht2 := fun v => slice_fromK b (o + (pos + 4)) 4 (c - (pos + 4)) 2 (by omega) (by omega) (by omega) v 2 rfl
            rw [show 4 - 2 = 2 from rfl] at ht2
            obtain ⟨V1, hV1⟩ : ∃ V, Pk.val (cs.take 2) = V := ⟨_, rfl⟩
            obtain ⟨V2, hV2⟩ : ∃ V, Pk.val (cs.drop 2) = V := ⟨_, rfl⟩
            have HV1 := hd hV1
            have HV2 := hd hV2
            clear hV1 hV2
            go_upto_region 25 with (go_at_call 115; (with_reducible refine (RVal_any _ 2 _ _ _ ha (by omega)).mono ?_); rw [HV1.out]; rintro e v4 ⟨rfl, rfl⟩)
            have hB4 := Bs.set (X := []) hB3 0 (.int .i64 (V1 : Int)) HS3.out
            have hb4' := hb2.set (p := ⟨gK, 0, none⟩) (by rintro ad e; injection e with e; subst e; simp only; omega) (.int .i64 (V1 : Int))
            clear hB3 hK3 p0 p1 p2 p3 p4 q0 q1 q2 q3 q4 ha hb2 ht1 hrc hP3 cpos
            generalize v3.setCell ⟨gK, 0, none⟩ (.int .i64 (V1 : Int)) = W4 at hB4 hb4' ⊢
            have hb4 : Blk W4 gK 25 #[.int .i64 (V1 : Int), .int .i64 C.hi, vD, vT, vC] := Sp.head hB4.sp
            obtain ⟨p0, p1, p2, p3, p4⟩ := hb4.c5
            obtain ⟨q0, q1, q2, q3, q4⟩ := hb4.f5
            go_wp2_with (go_at_call 115; (with_reducible refine (RVal_any _ 2 _ _ _ hb4' (by omega)).mono ?_); rw [HV2.out]; rintro e v5 ⟨rfl, rfl⟩)
            have hB5 := Bs.set (X := []) hB4 1 (.int .i64 (V2 : Int)) HS3.out
            have hR5 : RS5 W (W4.setCell ⟨gK, 1, none⟩ (.int .i64 (V2 : Int))) gK (Pk.grow 1 cs C) := by
              refine ⟨vD, vT, vC, ?_⟩
              have e1 : (Pk.grow 1 cs C).lo = (Pk.val (cs.take 2) : Int) := rfl
              have e2 : (Pk.grow 1 cs C).hi = (Pk.val (cs.drop 2) : Int) := rfl
              unfold Rk
              rw [e1, e2, HV1.out, HV2.out]
              exact hB5
            clear hB5 hB4 hb4 hb4'
            go_roundw
            case rel => exact ⟨pos + 4 + 4, 1, f', Pk.grow 1 cs C, by go_num, rfl, o3, hR5, HNX⟩
            case measure => simp [intOf]; omega
          · -- the tables
            obtain ⟨hev, hm16⟩ := o7' rfl
            obtain ⟨mq, rfl⟩ : ∃ mq, m = 2 * mq := ⟨m / 2, by omega⟩
            obtain ⟨i54, hi54, hz54, hs54, hb54⟩ := info_parts info54
            clear p0 p1 p2 p3 p4 q0 q1 q2 q3 q4 hK3
            have HCL := hd hcl
            have hHB : RT5 W v3 gK C (Pk.pairs (cs.take (2 * 0))) := ⟨vD, vT, vC, by simpa [Pk.pairs, Rk, Rt] using hB3⟩
            clear hB3 hcl
            go_wp2
            obtain ⟨wo, rfl⟩ : ∃ wo : World, wo = wr := ⟨_, rfl⟩
            go_loopw [13] (fun i wr => ∃ j : Nat, i = .int .i64 ((2 * j : Nat) : Int) ∧ j ≤ mq ∧ Ext w wr ∧ Rd wr 1 (some ⟨b, o + (pos + 4), none⟩) (2 * mq) (bv cs) ∧ RT5 W wr gK C (Pk.pairs (cs.take (2 * j)))) (fun i _ => 2 * mq - (intOf i).toNat)
            case atStart => exact ⟨0, rfl, by omega, hX3w, hrc, hHB⟩
            case round =>
              obtain ⟨j, rfl, hj, hXj, hrj, uD, uT, uC, hBj⟩ := hrel
              have hbj : Blk wr gK 25 #[.int .i64 C.lo, .int .i64 C.hi, uD, uT, uC] := Sp.head hBj.sp
              obtain ⟨p0, p1, p2, p3, p4⟩ := hbj.c5
              by_cases hjl : j < mq
              · have g1 : 2 * (j : Int) + 1 < 2 * (mq : Int) := by omega
                obtain ⟨b', o', hbo, hcell⟩ := hrj.form (by omega) (by omega)
                injection hbo with hbo
                injection hbo with hb1 hb2
                subst hb1
                subst hb2
                have hxl : 2 * j < cs.length := by rw [HCL.out]; omega
                have hyl : 2 * j + 1 < cs.length := by rw [HCL.out]; omega
                have cx := hcell _ _ (bv_get cs (2 * j) hxl)
                have cy := hcell _ _ (bv_get cs (2 * j + 1) hyl)
                rw [← Nat.add_assoc] at cy
                have HPN := hd (pairs_two cs j (by rw [HCL.out]; omega))
                obtain ⟨PP, hPP⟩ : ∃ PP, Pk.pairs (cs.take (2 * j)) = PP := ⟨_, rfl⟩
                have hPPl : PP.length ≤ 8 := by rw [← hPP, pairs_len, List.length_take]; omega
                have hBj2 : Bs W wr (fun b => b = gK ∨ W.heap.size ≤ b) (Rt gK C uD uT uC PP) := by rw [← hPP]; exact hBj
                rw [hPP] at HPN
                clear hBj hPP
                obtain ⟨L, hL⟩ : ∃ L, (C.ts ++ PP).length = L := ⟨_, rfl⟩
                have hL9 : L ≤ 1000 := by rw [← hL, List.length_append]; omega
                have hBj : Bs W wr (fun b => b = gK ∨ W.heap.size ≤ b) [.blk gK 25 #[.int .i64 C.lo, .int .i64 C.hi, uD, uT, uC], .row 5 1 uD C.data.length (bv C.data), .row 54 2 uT L (tv (C.ts ++ PP)), .row 5 1 uC C.code.length (bv C.code)] := by rw [← hL]; exact hBj2
                have HLL := hd hL
                clear hBj2 hL
                have hx8 := cs[2 * j].toNat_lt
                have hy8 := cs[2 * j + 1].toNat_lt
                generalize cs[2 * j].toNat = x at cx hx8 HPN
                generalize cs[2 * j + 1].toNat = y at cy hy8 HPN
                obtain ⟨J, hJ⟩ : ∃ J, 2 * j = J := ⟨_, rfl⟩
                obtain ⟨M, hM⟩ : ∃ M, 2 * mq = M := ⟨_, rfl⟩
                have g1 : (J : Int) + 1 < (M : Int) := by omega
                have hjm : J + 2 ≤ M := by omega
                have hM9 : M ≤ 16 := by omega
                rw [hJ] at cx cy ⊢
                rw [hM]
                have cy2 : wr.cell? ⟨b, o + (pos + 4) + (J + 1), none⟩ = some (.int .u8 (y : Int)) := by rw [← Nat.add_assoc]; exact cy
                have HJ := hd hJ
                have HM := hd hM
                clear hJ hM hxl hyl
                have hw1 : IntKind.i64.wrap ((J : Int) + 1) = (J : Int) + 1 := by rw [IntKind.wrap_i64]; omega
                have hj3 : (0 : Int) ≤ (J : Int) + 1 := by omega
                have hj5 : ((J : Int) + 1).toNat = J + 1 := by omega
                have hj6 : (J : Int) < (M : Int) := by omega
                have hwx : IntKind.i64.wrap (x : Int) = (x : Int) := by rw [IntKind.wrap_i64]; omega
                have hwy : IntKind.i64.wrap (y : Int) = (y : Int) := by rw [IntKind.wrap_i64]; omega
                have oT : wr.ownsRow 0 54 2 uT L (tv (C.ts ++ PP)) := hBj.sp.all (.row 54 2 uT L (tv (C.ts ++ PP))) (by simp)
                have k3 : (wr.alloc (.cells #[.int .i64 (x : Int), .int .i64 (y : Int)] 54)).cell? ⟨gK, 3, none⟩ = some uT := (hbj.alloc _).c5.2.2.2.1
                go_upto_region 30 with (fail)
                go_region_law ((refine step_app2 (by rfl) (.tmp 101) (.tmp 114) 23 (by rfl) 54 i54 _ 2 16 Try.underlying23 hi54 hz54 hs54 hb54 (by rfl) (by omega) uT L (tv (C.ts ++ PP)) (by rfl) (((Ext.refl _).alloc _).drew.own oT) ⟨wr.heap.size, 0, none⟩ 1 1 [.int .i64 (x : Int), .int .i64 (y : Int)] (by rfl) (Rd.pair _ _ _ _).drew (oneCell_two _ _ _ _) (by omega) (by omega) ?_; intro v6 w6 hA6; obtain ⟨T6, c6, rfl, -⟩ := own_form hA6.own; have hB6 := Bs.app (X := [.blk gK 25 #[.int .i64 C.lo, .int .i64 C.hi, uD, uT, uC], .row 5 1 uD C.data.length (bv C.data)]) (hBj.alloc _).drew hA6 HS3.out; have hb6 : Blk w6 gK 25 #[.int .i64 C.lo, .int .i64 C.hi, uD, uT, uC] := Sp.head hB6.sp; obtain ⟨r0, r1, r2, r3, r4⟩ := hb6.c5; obtain ⟨s0, s1, s2, s3, s4⟩ := hb6.f5))
                all_goals (
                  have hB7 := Bs.set (X := []) hB6 3 (.slice T6 (L + 1) c6) HS3.out
                  have hR7 : RT5 W (w6.setCell ⟨gK, 3, none⟩ (.slice T6 (L + 1) c6)) gK C (Pk.pairs (cs.take (2 * (j + 1)))) := by
                    refine ⟨uD, .slice T6 (L + 1) c6, uC, ?_⟩
                    have e1 : (C.ts ++ (PP ++ [((x : Int), (y : Int))])).length = L + 1 := by have := HLL.out; simp only [List.length_append, List.length_cons, List.length_nil] at this ⊢; omega
                    rw [HPN.out]
                    unfold Rt
                    rw [e1, ← tv_snoc]
                    exact hB7
                  have hX7 : Ext w (w6.setCell ⟨gK, 3, none⟩ (.slice T6 (L + 1) c6)) := hB7.kp.ext hX (fun x hx => by rcases hx with rfl | hx <;> omega)
                  have hr7 : Rd (w6.setCell ⟨gK, 3, none⟩ (.slice T6 (L + 1) c6)) 1 (some ⟨b, o + (pos + 4), none⟩) M (bv cs) := by rw [← HM.out]; exact hrc0.ext hX7
                  clear hBj oT k3 cx cy cy2 hbj p0 p1 p2 p3 p4 hB7 hB6 hA6 hb6 r0 r1 r2 r3 r4 s0 s1 s2 s3 s4
                  go_wp2
                  go_roundw
                  case rel => exact ⟨j + 1, by rw [show 2 * (j + 1) = J + 2 by have := HJ.out; omega]; go_num, by omega, hX7, hr7, hR7⟩
                  case measure => simp [intOf]; have := HJ.out; have := HM.out; omega)
              · obtain rfl : j = mq := by omega
                have g1 : ¬ 2 * (j : Int) + 1 < 2 * (j : Int) := by omega
                have hR5 : RS5 W wr gK (Pk.grow 2 cs C) := by
                  refine ⟨uD, uT, uC, ?_⟩
                  have e1 : (Pk.grow 2 cs C).ts = C.ts ++ Pk.pairs cs := rfl
                  have e2 : cs.take (2 * j) = cs := List.take_of_length_le (by rw [HCL.out]; exact Nat.le_refl _)
                  rw [e2] at hBj
                  unfold Rk
                  rw [e1]
                  exact hBj
                clear hBj hbj
                go_wp2
                go_roundw
                case rel => exact ⟨pos + 4 + 2 * j, 2, f', Pk.grow 2 cs C, by go_num, rfl, o3, hR5, HNX⟩
                case measure => simp [intOf]; omega
          · -- the data
            have oD : v3.ownsRow 0 5 1 vD C.data.length (bv C.data) := hB3.sp.all (.row 5 1 vD C.data.length (bv C.data)) (by simp [Rk])
            go_wp2_with ((with_reducible refine wl_app2 (.tmp 120) (.tmp 121) 22 5 i0 _ 1 1 Try.underlying22 hi0 hz0 hz1 hz2 ?_ (by omega) vD C.data.length _ ?_ oD ⟨b, o + (pos + 4), none⟩ m (c - (pos + 4)) (bv cs) ?_ hrc (bv_one _) (by omega) (by omega) ?_); exact rfl; exact rfl; exact rfl; intro v4 w4 hA4; obtain ⟨A4, c4, rfl, -⟩ := own_form hA4.own; have hB4 := Bs.app (X := [.blk gK 25 #[.int .i64 C.lo, .int .i64 C.hi, vD, vT, vC]]) hB3 hA4 HS3.out; have hb4 : Blk w4 gK 25 #[.int .i64 C.lo, .int .i64 C.hi, vD, vT, vC] := Sp.head hB4.sp; obtain ⟨r0, r1, r2, r3, r4⟩ := hb4.c5; obtain ⟨s0, s1, s2, s3, s4⟩ := hb4.f5)
            have hB5 := Bs.set (X := []) hB4 2 (.slice A4 (C.data.length + m) c4) HS3.out
            have hR5 : RS5 W (w4.setCell ⟨gK, 2, none⟩ (.slice A4 (C.data.length + m) c4)) gK (Pk.grow 3 cs C) := by
              refine ⟨.slice A4 (C.data.length + m) c4, vT, vC, ?_⟩
              have e1 : (Pk.grow 3 cs C).data = C.data ++ cs := rfl
              unfold Rk
              rw [e1, bv_append, List.length_append, hcl]
              exact hB5
            clear hB5 hB4 hA4 hb4 r0 r1 r2 r3 r4 s0 s1 s2 s3 s4
            go_roundw
            case rel => exact ⟨pos + 4 + m, 3, f', Pk.grow 3 cs C, by go_num, rfl, o3, hR5, HNX⟩
            case measure => simp [intOf]; omega
          · -- the code
            have oC : v3.ownsRow 0 5 1 vC C.code.length (bv C.code) := hB3.sp.all (.row 5 1 vC C.code.length (bv C.code)) (by simp [Rk])
            go_wp2_with ((with_reducible refine wl_app2 (.tmp 77) (.tmp 78) 22 5 i0 _ 1 1 Try.underlying22 hi0 hz0 hz1 hz2 ?_ (by omega) vC C.code.length _ ?_ oC ⟨b, o + (pos + 4), none⟩ m (c - (pos + 4)) (bv cs) ?_ hrc (bv_one _) (by omega) (by omega) ?_); exact rfl; exact rfl; exact rfl; intro v4 w4 hA4; obtain ⟨A4, c4, rfl, -⟩ := own_form hA4.own; have hB4 := Bs.app (X := [.blk gK 25 #[.int .i64 C.lo, .int .i64 C.hi, vD, vT, vC], .row 5 1 vD C.data.length (bv C.data), .row 54 2 vT C.ts.length (tv C.ts)]) hB3 hA4 HS3.out; have hb4 : Blk w4 gK 25 #[.int .i64 C.lo, .int .i64 C.hi, vD, vT, vC] := Sp.head hB4.sp; obtain ⟨r0, r1, r2, r3, r4⟩ := hb4.c5; obtain ⟨s0, s1, s2, s3, s4⟩ := hb4.f5)
            have hB5 := Bs.set (X := []) hB4 4 (.slice A4 (C.code.length + m) c4) HS3.out
            have hR5 : RS5 W (w4.setCell ⟨gK, 4, none⟩ (.slice A4 (C.code.length + m) c4)) gK (Pk.grow 4 cs C) := by
              refine ⟨vD, vT, .slice A4 (C.code.length + m) c4, ?_⟩
              have e1 : (Pk.grow 4 cs C).code = C.code ++ cs := rfl
              unfold Rk
              rw [e1, bv_append, List.length_append, hcl]
              exact hB5
            clear hB5 hB4 hA4 hb4 r0 r1 r2 r3 r4 s0 s1 s2 s3 s4
            go_roundw
            case rel => exact ⟨pos + 4 + m, 4, f', Pk.grow 4 cs C, by go_num, rfl, o3, hR5, HNX⟩
            case measure => simp [intOf]; omega
        · have f2 : (fe != 0) = true := by simpa using hfe
          have hEX : decMain N X = (Pk.C0, fq, fe) := by
            have hs := HF.out.run
            rw [hf', Pk.sects, if_pos (by rw [HBL.out]; exact hlt), Pk.fault_bad HFA.out hfe] at hs
            rw [← hs]
            rfl
          have HEX := hd hEX
          clear hEX hf'
          go_upto_region 17 with (go_at_call 116; (with_reducible refine K116.out.mono ?_); rintro e v3 ⟨rfl, hX3⟩; obtain ⟨q0, q1, q2, q3, q4⟩ := (hPr.ext hX3).f5; obtain ⟨g0, g1, g2, g3, g4⟩ := (hPr.ext hX3).c5)
          have hP3 := hPr.ext hX3
          have hX3w := hXw.trans hX3
          go_wp2
          obtain ⟨x0, x1, x2, x3, x4⟩ := (hP3.s5 (.int .i64 0) (.int .i64 0) (.slice none 0 0) (.slice none 0 0) (.slice none 0 0)).c5
          refine bodyPost_ret (v := .tuple #[.agg #[.int .i64 0, .int .i64 0, .slice none 0 0, .slice none 0 0, .slice none 0 0], .int .i64 fq, .int .i64 fe]) (by simp [results, Try.results80, go_sem, x0, x1, x2, x3, x4]) rfl (DecPost.err (by rw [show n - 4 = N by have := HN.out; omega, HEX.out]) rfl (Ext.s5 hX3w (by omega) _ _ _ _ _))
      · obtain rfl : pos = N := by omega
        have f1 : ¬ (pos : Int) < (pos : Int) := by omega
        have hEX : X = .ok ⟨pos, kind, C⟩ := by
          have hs := HF.out.run
          rw [Pk.sects_end f (by rw [HBL.out]; exact Nat.le_refl _)] at hs
          exact hs.symm
        have hk0 : kind ≠ 0 := fun e => hN0 (HF.out.kz e)
        obtain ⟨r0, r1, r2, r3, r4⟩ := hPr.c5
        obtain ⟨p0, p1, p2, p3, p4⟩ := hKr.c5
        have oD : wr.ownsRow 0 5 1 vD C.data.length (bv C.data) := hB.sp.all (.row 5 1 vD C.data.length (bv C.data)) (by simp [Rk])
        have oT : wr.ownsRow 0 54 2 vT C.ts.length (tv C.ts) := hB.sp.all (.row 54 2 vT C.ts.length (tv C.ts)) (by simp [Rk])
        have oC : wr.ownsRow 0 5 1 vC C.code.length (bv C.code) := hB.sp.all (.row 5 1 vC C.code.length (bv C.code)) (by simp [Rk])
        have hin : ∀ (r : Res), r ∈ Rk gK C.lo C.hi vD vT vC C → ∀ x, r.foot x → w.heap.size ≤ x := fun r hr x hx => by
          rcases hB.in_ r hr x hx with e | e <;> omega
        have uD := own_up (base := w.heap.size) oD (fun x hx => hin (.row 5 1 vD C.data.length (bv C.data)) (by simp [Rk]) x hx)
        have uT := own_up (base := w.heap.size) oT (fun x hx => hin (.row 54 2 vT C.ts.length (tv C.ts)) (by simp [Rk]) x hx)
        have uC := own_up (base := w.heap.size) oC (fun x hx => hin (.row 5 1 vC C.code.length (bv C.code)) (by simp [Rk]) x hx)
        have hDC : vD.ownBlock = none ∨ vD.ownBlock ≠ vC.ownBlock := by
          cases hvd : vD.ownBlock with
          | none => exact .inl rfl
          | some x =>
            refine .inr fun e => ?_
            have ha := Sp.away (Sp.tail hB.sp) (.row 5 1 vC C.code.length (bv C.code)) (by simp) (.inl trivial) x hvd
            exact ha e.symm
        have HEX := hd hEX
        have HDC := hd hDC
        obtain ⟨DA, d1, rfl, -⟩ := own_form oD
        obtain ⟨TA, t1, rfl, -⟩ := own_form oT
        obtain ⟨CA, k1, rfl, -⟩ := own_form oC
        clear hEX hDC hin oD oT oC
        go_wp2
        obtain ⟨x0, x1, x2, x3, x4⟩ := (hPr.s5 (.int .i64 C.lo) (.int .i64 C.hi) (.slice DA C.data.length d1) (.slice TA C.ts.length t1) (.slice CA C.code.length k1)).c5
        refine bodyPost_ret (v := .tuple #[.agg #[.int .i64 C.lo, .int .i64 C.hi, .slice DA C.data.length d1, .slice TA C.ts.length t1, .slice CA C.code.length k1], .int .i64 0, .int .i64 0]) (by simp [results, Try.results80, go_sem, x0, x1, x2, x3, x4]) rfl ?_
        rw [HEX.out, show decMain (n - 4) (.ok ⟨pos, kind, C⟩) = (C, 0, 0) by simp [decMain, hk0]]
        exact ⟨DA, C.data.length, d1, TA, C.ts.length, t1, CA, C.code.length, k1, rfl, Ext.s5 hXw (by omega) _ _ _ _ _, own_s5 uD (own_blk_ne uD hPr (by decide)) _ _ _ _ _, own_s5 uT (own_blk_ne uT hPr (by decide)) _ _ _ _ _, own_s5 uC (own_blk_ne uC hPr (by decide)) _ _ _ _ _, HDC.out⟩

/-- the document's Decode: the container, or where and which error, as Pk says -/
theorem RDec_any (A : Option Addr) (n c : Nat) (bs : List UInt8) (w : World) (h : Rd w 1 A n (bv bs)) (hn : n ≤ 140737488355328) (hnc : n ≤ c) :
    Calls Try.prog 80 #[.slice A n c] w (DecPost (Pk.decode bs) w) := by
  have hl : bs.length = n := by have := h.1; rw [bv_length] at this; omega
  unfold Pk.decode
  rw [hl]
  by_cases h1 : 131072 < n
  · rw [if_pos h1]
    exact RDec_early A n c bs w h hn hnc 0 2 (by omega)
  rw [if_neg h1]
  by_cases h2 : n < 8
  · rw [if_pos h2]
    exact RDec_early A n c bs w h hn hnc n 120 (by omega)
  rw [if_neg h2]
  by_cases h3 : bs.take 4 = Pk.magic
  · rw [if_neg (by simp [h3])]
    by_cases h4 : Pk.sum (bs.take (n - 4)) = Pk.val (bs.drop (n - 4))
    · rw [if_neg (by simp [h4])]
      exact RDec_main A n c bs w h (by omega) hnc (by omega) h3 h4 _ rfl
    · rw [if_pos h4]
      exact RDec_early A n c bs w h hn hnc (n - 4) 124 (.inr ⟨by omega, .inr ⟨by omega, .inr ⟨h3, h4, rfl, rfl⟩⟩⟩)
  · rw [if_pos h3]
    exact RDec_early A n c bs w h hn hnc 0 120 (.inr ⟨by omega, .inr ⟨by omega, .inl ⟨h3, rfl, rfl⟩⟩⟩)

end Go.Proofs.Ytfcbedkidjclhaa
