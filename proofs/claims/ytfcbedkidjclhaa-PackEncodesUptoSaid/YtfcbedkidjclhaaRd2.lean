/-
  The contract of the document's Encode of a container.
  Conditions: each slice reads as a list and takes no more than 2^47 bytes.
-/
import Derived.Test.YtfcbedkidjclhaaRd1
import Derived.Test.YtfcbedkidjclhaaPackEnc
import Derived.Test.YtfcbedkidjclhaaPsize
import Derived.Test.YtfcbedkidjclhaaSp
import Derived.Deep.RegionLaw
import Derived.Deep.CutBlock
namespace Go.Proofs.Ytfcbedkidjclhaa
open Go.RowKit
set_option maxRecDepth 100000
set_option linter.unusedSimpArgs false
set_option linter.unusedVariables false

def head8 : List UInt8 := [87, 80, 75, 49, 1, 4, 0, 0]
theorem head_lens (lo hi : Int) : head8 ++ Pk.low 2 lo ++ Pk.low 2 hi = Pk.magic ++ Pk.one 1 (Pk.lens lo hi) := by
  unfold Pk.one
  rw [Pk.lens_length, if_neg (by decide)]
  have h1 : Pk.byte 1 :: (Pk.low 3 ((4 : Nat) : Int) ++ Pk.lens lo hi) = [1, 4, 0, 0] ++ Pk.lens lo hi := by
    have : Pk.low 3 ((4 : Nat) : Int) = [4, 0, 0] := by decide
    rw [this]
    have : Pk.byte 1 = 1 := by decide
    rw [this]
    rfl
  rw [h1]
  simp [head8, Pk.magic, Pk.lens]
theorem head_own (w : World) : (w.alloc (.cells #[.int .u8 87, .int .u8 80, .int .u8 75, .int .u8 49, .int .u8 1, .int .u8 4, .int .u8 0, .int .u8 0] 5)).ownsRow w.heap.size 5 1 (.slice (some ⟨w.heap.size, 0, none⟩) 8 8) 8 (bv head8) :=
  ⟨rfl, .inr ⟨w.heap.size, 8, #[.int .u8 87, .int .u8 80, .int .u8 75, .int .u8 49, .int .u8 1, .int .u8 4, .int .u8 0, .int .u8 0], rfl, Nat.le_refl _, Blk.new _ _ _, Nat.le_refl _, by unfold maxLen; omega, rfl, rfl⟩⟩
/-- a part: where its bytes lie -/
structure Pt where
  A : Option Addr
  n : Nat
  c : Nat
  l : List UInt8
def Pt.v (p : Pt) : Value := .slice p.A p.n p.c
/-- what is written of the first of these -/
def ones (ps : List Pt) : Nat → List UInt8
  | 0 => []
  | k + 1 => ones ps k ++ Pk.one (2 + (k : Int)) (ps[k]?.elim [] Pt.l)

theorem Rd.cells2 (w : World) (x y : Value) (t : TypeId) : Rd (w.alloc (.cells #[x, y] t)) 1 (some ⟨w.heap.size, 0, none⟩) 2 [x, y] :=
  ⟨rfl, fun _ => ⟨_, rfl, fun j u hu => by
    have e : (⟨w.heap.size, 0, none⟩ : Addr).add j = ⟨w.heap.size, j, none⟩ := by unfold Addr.add; split <;> simp_all
    rw [e, (Blk.new w t #[x, y]).cell j]
    simpa using hu⟩⟩

theorem nb1 {N j : Nat} (h : N ≤ 12 + j * 131080) : N ≤ 12 + (j + 1) * 131080 := Nat.le_trans h (Nat.add_le_add_left (Nat.mul_le_mul_right _ (Nat.le_succ j)) 12)
theorem nb2 {N j m : Nat} (h : N ≤ 12 + j * 131080) (hm : m ≤ 131072) : N + 1 + 3 + m ≤ 12 + (j + 1) * 131080 := by rw [Nat.succ_mul]; omega
theorem nb3 {N j : Nat} (h : N ≤ 12 + j * 131080) (hj : j ≤ 3) : N ≤ 400000 := by omega
theorem two_mod {j : Nat} (h : (j : Int) < 3) : (2 + (j : Int)) % 256 = 2 + j := by omega

set_option maxHeartbeats 8000000 in
theorem REnc_head (lo hi : Int) (A1 A2 A3 : Option Addr) (n1 n2 n3 c1 c2 c3 : Nat) (data code : List UInt8) (ts : List (Int × Int)) (w : World)
    (h1 : Rd w 1 A1 n1 (bv data)) (h2 : Rd w 2 A2 n2 (tv ts)) (h3 : Rd w 1 A3 n3 (bv code)) (hn1 : n1 ≤ 140737488355328) (hn2 : n2 * 16 ≤ 140737488355328) (hn3 : n3 ≤ 140737488355328) :
    Calls Try.prog 28 #[.agg #[.int .i64 lo, .int .i64 hi, .slice A1 n1 c1, .slice A2 n2 c2, .slice A3 n3 c3]] w (EncPost (Pk.encode lo hi data ts code) w) := by
  have hd1 : data.length = n1 := by have := h1.1; rw [bv_length] at this; omega
  have ht1 : ts.length = n2 := by have := h2.1; rw [tv_length] at this; omega
  have hc1 : code.length = n3 := by have := h3.1; rw [bv_length] at this; omega
  obtain ⟨X, hX⟩ : ∃ X, Pk.encode lo hi data ts code = X := ⟨_, rfl⟩
  rw [hX]
  unfold Pk.encode at hX
  rw [hd1, hc1] at hX
  have HD1 := hd hd1
  have HT1 := hd ht1
  have HC1 := hd hc1
  obtain ⟨s, hs⟩ : ∃ s, Pk.sizes lo hi n1 ts = s := ⟨_, rfl⟩
  rw [hs] at hX
  have HS := hd hs
  have K74 : Hid (∀ W : World, Rd W 2 A2 n2 (tv ts) → Calls Try.prog 74 #[.int .i64 lo, .int .i64 hi, .slice A1 n1 c1, .slice A2 n2 c2] W fun e w' => e = .returned (.int .i64 s) ∧ Ext W w') := hd fun W h => by
    have := RSizes_any lo hi A1 A2 n1 n2 c1 c2 ts W h (by omega) hn2
    rw [hs] at this
    exact this
  clear hd1 ht1 hc1 hs
  go_enter Try.func28, Try.ntmps28
  go_upto_region 1 with (fail)
  refine wp_world (fun W => Ext w W ∧ Blk W w.heap.size 25 #[.int .i64 lo, .int .i64 hi, .slice A1 n1 c1, .slice A2 n2 c2, .slice A3 n3 c3]) ⟨Ext.new _ _, Blk.new _ _ _⟩ ?_
  obtain ⟨g, hg⟩ : ∃ g, w.heap.size = g := ⟨_, rfl⟩
  rw [hg]
  rintro W ⟨hXW, hP⟩
  obtain ⟨p0, p1, p2, p3, p4⟩ := hP.c5
  by_cases h0 : s = 0
  · subst h0
    rw [if_neg (by decide)] at hX
    by_cases hl : 131072 < n3
    · rw [if_pos hl] at hX
      subst hX
      have e1 : (131072 : Int) < (n3 : Int) := by omega
      go_wp2_with (go_at_call 74; (with_reducible refine (K74.out _ (h2.ext hXW)).mono ?_); rintro e v1 ⟨rfl, hX1⟩; obtain ⟨q0, q1, q2, q3, q4⟩ := (hP.ext hX1).c5)
      go_ret2
      exact ⟨none, 0, rfl, World.ownsRow_nil _ _ _ _, hXW.trans hX1⟩
    · rw [if_neg hl] at hX
      have HX := hd hX
      clear hX
      have e1 : ¬ (131072 : Int) < (n3 : Int) := by omega
      obtain ⟨b1, b2, ⟨b3, b4, b5⟩, -⟩ := sizes_ts HS.out
      have b1' : n2 ≤ 8 := by have := HT1.out; omega
      obtain ⟨i0, hi0, hz0, hz1, hz2⟩ := info_parts info5
      clear b1
      go_wp2_with (go_at_call 74; (with_reducible refine (K74.out _ (h2.ext hXW)).mono ?_); rintro e v1 ⟨rfl, hX1⟩; obtain ⟨q0, q1, q2, q3, q4⟩ := (hP.ext hX1).c5)
      have hP1 := hP.ext hX1
      have hXv := hXW.trans hX1
      clear q0 q1 q2 q3 q4 p0 p1 p2 p3 p4 hP hX1 hXW K74
      go_loopw [5, 6] (fun t i wr => ∃ (k : Nat) (A' : Option Addr) (c' : Nat), k ≤ n2 ∧ i = .int .i64 k ∧ t = .slice A' (2 * k) c' ∧ wr.ownsRow v1.heap.size 5 1 (.slice A' (2 * k) c') (2 * k) (bv (Pk.tabBytes (ts.take k))) ∧ Ext v1 wr) (fun _ i _ => n2 - (intOf i).toNat)
      case atStart => exact ⟨0, none, 0, by omega, rfl, rfl, World.ownsRow_nil _ _ _ _, Ext.refl _⟩
      case round =>
        obtain ⟨k, A', c', hk, rfl, rfl, hown, hXr⟩ := hrel
        have hszr := hXr.size
        have hPr := hP1.ext hXr
        obtain ⟨p0, p1, p2, p3, p4⟩ := hPr.c5
        by_cases hlt : k < n2
        · have e2 : (k : Int) < (n2 : Int) := by omega
          obtain ⟨b, o, rfl, hc⟩ := ((h2.ext hXv).ext hXr).form (by omega) (by omega)
          have hkx : k < ts.length := by have := HT1.out; omega
          have q0 := hc _ _ (tv_get0 ts k hkx)
          have q1 : wr.cell? ⟨b, o + k * 2 + 1, none⟩ = some (.int .i64 ts[k].2) := hc _ _ (tv_get1 ts k hkx)
          clear hc
          have HTS := hd (Pk.tab_snoc ts k hkx)
          generalize ts[k].1 = x at q0 HTS
          generalize ts[k].2 = y at q1 HTS
          go_upto_region 10 with (fail)
          go_region_law ((refine step_app _ (by rfl) (.tmp 33) (.tmp 48) 22 (by rfl) v1.heap.size 5 i0 _ 1 1 Try.underlying22 hi0 hz0 hz1 hz2 (by rfl) (by omega) (.slice A' (2 * k) c') (2 * k) _ (by rfl) (((Ext.refl _).alloc _).drew.own hown) (some ⟨wr.heap.size, 0, none⟩) 2 2 [.int .u8 (x % 256), .int .u8 (y % 256)] (by rfl) (Rd.cells2 _ _ _ _).drew (oneCell_two _ _ _ _) (by omega) (by omega) (by simp; omega) ?_; intro v6 w6 hown6 hg6 hat6; have hX6 := ((hXr.alloc _).drew).grown_own (((Ext.refl _).alloc _).drew.own hown) hg6 (Nat.le_refl _); obtain ⟨A6, c6, rfl, -⟩ := own_form hown6; rw [bv_snoc2] at hown6))
          all_goals go_wp2
          all_goals
            go_roundw
            case rel => exact ⟨k + 1, A6, c6, by omega, by go_num, rfl, by rw [HTS.out]; exact hown6, hX6⟩
            case measure => simp [intOf]; omega
        · obtain rfl : k = n2 := by omega
          have e2 : ¬ (k : Int) < (k : Int) := by omega
          have hT := Rd.of_own hown
          rw [List.take_of_length_le (by rw [HT1.out]; omega)] at hT
          have hXw := hXv.trans hXr
          obtain ⟨W0, rfl⟩ : ∃ W0 : World, W0 = wr := ⟨_, rfl⟩
          obtain ⟨gD, hgD⟩ : ∃ gD, W0.heap.size = gD := ⟨_, rfl⟩
          have hown0 := head_own W0
          rw [hgD] at hown0
          have HGD := hd hgD
          clear hown hszr hXr hXv hgD
          obtain ⟨pa0, pa1, pa2, pa3, pa4⟩ := (hPr.alloc (.cells #[.int .u8 87, .int .u8 80, .int .u8 75, .int .u8 49, .int .u8 1, .int .u8 4, .int .u8 0, .int .u8 0] 5)).c5
          go_upto_region 13 with (first | (go_at_call 75; (with_reducible refine (RLow_any lo 2 2 _ (by omega) rfl b3 (by omega)).mono ?_); rintro e v2 ⟨L1, d1, rfl, ownL1, hXL1⟩; have own1 := hXL1.own hown0; have hE1 : Ext W0 v2 := (Ext.new W0 _).trans hXL1) | (refine wl_appendK (.tmp 51) (.tmp 54) 22 gD 5 i0 _ 1 1 Try.underlying22 hi0 hz0 hz1 hz2 rfl (by omega) _ 8 (bv head8) (by rw [← HGD.out]; rfl) own1 L1 2 d1 (bv (Pk.low 2 lo)) rfl (Rd.of_own ownL1) (bv_one _) (by omega) (by omega) (by have := hE1.size; rw [← HGD.out]; omega) ?_; intro v3 w3 own3 hg3; have hE3 := hE1.grown_own own1 hg3 (by rw [HGD.out]; exact Nat.le_refl _); obtain ⟨r0, r1, r2, r3, r4⟩ := (hPr.ext hE3).c5; obtain ⟨B3, d3, rfl, -⟩ := own_form own3; rw [← bv_append] at own3))
          clear pa0 pa1 pa2 pa3 pa4 p0 p1 p2 p3 p4 own1 ownL1 hg3 hXL1 hE1 hown0
          go_upto_region 14 with (first | (go_at_call 75; (with_reducible refine (RLow_any hi 2 2 _ (by omega) rfl (by omega) (by omega)).mono ?_); rintro e v4 ⟨L4, d4, rfl, ownL4, hXL4⟩; have own4 := hXL4.own own3; have hE4 := hE3.trans hXL4) | (refine wl_appendK (.tmp 56) (.tmp 59) 22 gD 5 i0 _ 1 1 Try.underlying22 hi0 hz0 hz1 hz2 rfl (by omega) _ 10 _ rfl own4 L4 2 d4 (bv (Pk.low 2 hi)) rfl (Rd.of_own ownL4) (bv_one _) (by omega) (by omega) (by have := hE4.size; rw [← HGD.out]; omega) ?_; intro v5 w5 own5 hg5; have hE5 := hE4.grown_own own4 hg5 (by rw [HGD.out]; exact Nat.le_refl _); obtain ⟨B5, d5, rfl, -⟩ := own_form own5; rw [← bv_append] at own5; obtain ⟨t0, t1, t2, t3, t4⟩ := (hPr.ext hE5).c5))
          clear own4 ownL4 hg5 hXL4 hE4 r0 r1 r2 r3 r4 own3 hE3
          go_upto_region 15 with (fail)
          refine wp_world (fun W => Ext w5 W ∧ Blk W w5.heap.size 22 #[.slice A' (2 * k) c', .slice A1 n1 c1, .slice A3 n3 c3]) ⟨Ext.new _ _, Blk.new _ _ _⟩ ?_
          obtain ⟨gp, hgp⟩ : ∃ gp, w5.heap.size = gp := ⟨_, rfl⟩
          rw [hgp]
          rintro W6 ⟨hX56, hG⟩
          have own6 := hX56.own own5
          have hE6 := hE5.trans hX56
          have hgp2 : gD ≤ gp := by have := hE5.size; rw [HGD.out] at this; omega
          clear hE5 hX56 own5 hgp t0 t1 t2 t3 t4
          rw [head_lens] at own6
          obtain ⟨ps, hps⟩ : ∃ ps : List Pt, ps = [⟨A', 2 * k, c', Pk.tabBytes ts⟩, ⟨A1, n1, c1, data⟩, ⟨A3, n3, c3, code⟩] := ⟨_, rfl⟩
          have hpart : ∀ j, j < 3 → ∃ p : Pt, ps[j]? = some p ∧ Rd W0 1 p.A p.n (bv p.l) ∧ p.l.length = p.n ∧ p.n ≤ 131072 ∧ (#[Value.slice A' (2 * k) c', .slice A1 n1 c1, .slice A3 n3 c3])[j]? = some p.v := by
            intro j hj
            obtain rfl | rfl | rfl : j = 0 ∨ j = 1 ∨ j = 2 := by omega
            · exact ⟨_, by rw [hps]; rfl, hT, by rw [Pk.tab_length, HT1.out], by show 2 * k ≤ _; omega, rfl⟩
            · exact ⟨_, by rw [hps]; rfl, h1.ext hXw, HD1.out, by show n1 ≤ _; omega, rfl⟩
            · exact ⟨_, by rw [hps]; rfl, h3.ext hXw, HC1.out, by show n3 ≤ _; omega, rfl⟩
          have HPS := hd hps
          have HPART := hd hpart
          obtain ⟨hdl, hhdl⟩ : ∃ hdl, Pk.magic ++ Pk.one 1 (Pk.lens lo hi) = hdl := ⟨_, rfl⟩
          rw [hhdl] at own6
          have HHD := hd hhdl
          clear hhdl hpart hps
          go_wp2
          go_loopw [7, 9] (fun t i wr => ∃ (j N : Nat) (B : Option Addr) (d : Nat), j ≤ 3 ∧ N ≤ 12 + j * 131080 ∧ i = .int .i64 (j : Int) ∧ t = .slice B N d ∧ wr.ownsRow gD 5 1 (.slice B N d) N (bv (hdl ++ ones ps j)) ∧ Ext W0 wr ∧ Blk wr gp 22 #[.slice A' (2 * k) c', .slice A1 n1 c1, .slice A3 n3 c3]) (fun _ i _ => 3 - (intOf i).toNat)
          case atStart => exact ⟨0, 12, B5, d5, by omega, by omega, rfl, rfl, by simpa [ones] using own6, hE6, hG⟩
          case round =>
            obtain ⟨j, N, B, d, hj, hN, rfl, rfl, own7, hE7, hG7⟩ := hrel
            clear own6 hE6 hG
            by_cases hjl : j < 3
            · have e3 : (j : Int) < 3 := by omega
              obtain ⟨p, pj, hpr, hpl, hpn, hpc⟩ := HPART.out j hjl
              have hcell : wr.cell? ⟨gp, j, none⟩ = some p.v := (hG7.cell j).trans hpc
              have HON := hd (show ones ps (j + 1) = ones ps j ++ Pk.one (2 + (j : Int)) p.l by rw [ones, pj]; rfl)
              have HPC := hd hpc
              clear hpc pj
              obtain ⟨A, m, cp, l⟩ := p
              simp only at hpl hpn hpr HON
              simp only [Pt.v] at hcell HPC
              have HPL := hd hpl
              clear hpl
              by_cases hm0 : m = 0
              · subst hm0
                have h1n : Pk.one (2 + (j : Int)) l = [] := by unfold Pk.one; rw [if_pos HPL.out]
                rw [h1n, List.append_nil] at HON
                have HN' := hd (nb1 hN)
                go_wp2
                go_roundw
                case rel => exact ⟨j + 1, N, B, d, hjl, HN'.out, by go_num, rfl, by rw [HON.out]; exact own7, hE7, hG7⟩
                case measure => simp [intOf]; omega
              · have e4 : (0 : Int) < (m : Int) := by omega
                have e5 : ¬ (m : Int) = 0 := by omega
                have H1 := hd (show Pk.one (2 + (j : Int)) l = Pk.byte (2 + (j : Int)) :: (Pk.low 3 (m : Int) ++ l) by
                  unfold Pk.one
                  rw [HPL.out, if_neg hm0])
                have hgs : gD ≤ wr.heap.size := by have := hE7.size; have := HGD.out; omega
                have HN' := hd (nb2 hN hpn)
                have hNs : N ≤ 400000 := nb3 hN hj
                clear hN
                have HB := hd (show ∀ xs : List UInt8, bv xs ++ [Value.int .u8 (2 + (j : Int))] = bv (xs ++ [Pk.byte (2 + (j : Int))]) from fun xs => by
                  rw [← bv_snoc, show (2 + (j : Int)) % 256 = 2 + (j : Int) from two_mod e3])
                go_upto_region 20 with (refine wl_appendK (.tmp 77) (.tmp 81) 22 gD 5 i0 _ 1 1 Try.underlying22 hi0 hz0 hz1 hz2 rfl (by omega) (.slice B N d) N _ rfl ((Ext.new wr _).own own7) (some ⟨wr.heap.size, 0, none⟩) 1 1 [.int .u8 (2 + (j : Int))] rfl (Rd.one _ _ _) (oneCell_one _ _) (by omega) (by omega) (by simp; omega) ?_; intro v8 w8 own8 hg8; have hE8 : Ext W0 w8 := (hE7.alloc (.cells #[.int .u8 (2 + (j : Int))] 5)).grown_own ((Ext.new wr (.cells #[.int .u8 (2 + (j : Int))] 5)).own own7) hg8 (by have := HGD.out; omega); have hG8 := (hG7.alloc _).grown hg8 (own_blk_ne own7 hG7 (by decide)).symm; obtain ⟨B8, d8, rfl, -⟩ := own_form own8; rw [HB.out] at own8)
                clear own7 hE7 hG7 hg8 hcell
                have hcell : w8.cell? ⟨gp, j, none⟩ = some (.slice A m cp) := (hG8.cell j).trans HPC.out
                have hgs8 : gD ≤ w8.heap.size := by have := hE8.size; have := HGD.out; omega
                go_upto_region 21 with (first | (go_at_call 75; (with_reducible refine (RLow_any (m : Int) 3 3 _ (by omega) rfl (by omega) (by omega)).mono ?_); rintro e v9 ⟨L9, d9, rfl, ownL9, hXL9⟩; have own9 := hXL9.own own8; have hE9 := hE8.trans hXL9) | (refine wl_appendK (.tmp 83) (.tmp 89) 22 gD 5 i0 _ 1 1 Try.underlying22 hi0 hz0 hz1 hz2 rfl (by omega) (.slice B8 (N + 1) d8) (N + 1) _ rfl own9 L9 3 d9 (bv (Pk.low 3 (m : Int))) rfl (Rd.of_own ownL9) (bv_one _) (by omega) (by omega) (by have := hXL9.size; omega) ?_; intro v10 w10 own10 hg10; have hE10 := hE9.grown_own own9 hg10 (by have := HGD.out; omega); have hG10 := (hG8.ext hXL9).grown hg10 (own_blk_ne own9 (hG8.ext hXL9) (by decide)).symm; obtain ⟨B10, d10, rfl, -⟩ := own_form own10; rw [← bv_append] at own10))
                clear own8 own9 ownL9 hXL9 hE8 hE9 hg10 hcell hG8
                have hcell : w10.cell? ⟨gp, j, none⟩ = some (.slice A m cp) := (hG10.cell j).trans HPC.out
                have hpw := hpr.ext hE10
                go_wp2_with (refine wl_appendK (.tmp 91) (.tmp 95) 22 gD 5 i0 _ 1 1 Try.underlying22 hi0 hz0 hz1 hz2 rfl (by omega) (.slice B10 (N + 1 + 3) d10) (N + 1 + 3) _ rfl own10 A m cp (bv l) rfl hpw (bv_one _) (by omega) (by omega) (by have := hE10.size; have := HGD.out; omega) ?_; intro v11 w11 own11 hg11; have hE11 := hE10.grown_own own10 hg11 (by have := HGD.out; omega); have hG11 := hG10.grown hg11 (own_blk_ne own10 hG10 (by decide)).symm; obtain ⟨B11, d11, rfl, -⟩ := own_form own11; rw [← bv_append] at own11)
                go_roundw
                case rel =>
                  refine ⟨j + 1, N + 1 + 3 + m, B11, d11, hjl, HN'.out, by go_num, rfl, ?_, hE11, hG11⟩
                  rw [HON.out, H1.out]
                  simpa [List.append_assoc] using own11
                case measure => simp [intOf]; omega
            · obtain rfl : j = 3 := by omega
              have e3 : ¬ ((3 : Nat) : Int) < 3 := by omega
              have hNs : N ≤ 400000 := nb3 hN hj
              have hones : ones ps 3 = Pk.one 2 (Pk.tabBytes ts) ++ Pk.one 3 data ++ Pk.one 4 code := by
                rw [HPS.out]
                simp [ones]
              have hbody : hdl ++ ones ps 3 = Pk.body lo hi data ts code := by
                rw [hones, ← HHD.out, Pk.body]
                simp [List.append_assoc]
              rw [hbody] at own7
              have hsl := Pk.sum_lt (Pk.body lo hi data ts code)
              have HXX := HX.out
              rw [Pk.bytes] at HXX
              have hbl : (Pk.body lo hi data ts code).length = N := by have := own7.1; rw [bv_length] at this; omega
              have HBL := hd (show (Pk.body lo hi data ts code ++ Pk.low 4 (Pk.sum (Pk.body lo hi data ts code) : Int)).length = N + 4 by rw [List.length_append, hbl, Pk.low_length])
              have HX2 := hd HXX
              clear HXX hbl hones hbody hN HPART HPS HHD hG7 hT h1 h2 h3
              obtain ⟨bd, hbd⟩ : ∃ bd, Pk.body lo hi data ts code = bd := ⟨_, rfl⟩
              rw [hbd] at own7 hsl HX2 HBL
              clear hbd
              go_upto_region 23 with (first | (go_at_call 76; (with_reducible refine (RSum_any B N d bd _ (Rd.of_own own7) (by omega)).mono ?_); rintro e v8 ⟨rfl, hX8⟩; have own8 := hX8.own own7; have hE8 := hE7.trans hX8) | (go_at_call 75; (with_reducible refine (RLow_any (Pk.sum bd : Int) 4 4 _ (by omega) rfl (by omega) (by omega)).mono ?_); rintro e v9 ⟨L9, d9, rfl, ownL9, hXL9⟩; have own9 := hXL9.own own8; have hE9 := hE8.trans hXL9) | (refine wl_appendK (.tmp 97) (.tmp 100) 22 gD 5 i0 _ 1 1 Try.underlying22 hi0 hz0 hz1 hz2 rfl (by omega) (.slice B N d) N _ rfl own9 L9 4 d9 (bv (Pk.low 4 (Pk.sum bd : Int))) rfl (Rd.of_own ownL9) (bv_one _) (by omega) (by omega) (by have := hE9.size; have := HGD.out; omega) ?_; intro v10 w10 own10 hg10; have hE10 := hE9.grown_own own9 hg10 (by have := HGD.out; omega); obtain ⟨B10, d10, rfl, -⟩ := own_form own10; rw [← bv_append] at own10))
              have hXF := hXw.trans hE10
              have own11 := own_base own10 (show w.heap.size ≤ gD by rw [← HGD.out]; exact hXw.size)
              clear own7 own8 own9 own10 ownL9 hXL9 hX8 hE7 hE8 hE9 hE10 hg10
              clear HX
              by_cases hbig : 131072 < N + 4
              · have e4 : (131072 : Int) < (N : Int) + 4 := by omega
                go_wp2
                go_ret2
                exact (HX2.out ▸ EncPost.long (by rw [HBL.out]; exact hbig) hXF : EncPost X w _ _)
              · have e4 : ¬ (131072 : Int) < (N : Int) + 4 := by omega
                go_wp2
                go_ret2
                exact (HX2.out ▸ EncPost.short (by rw [HBL.out]; exact hbig) HBL.out own11 hXF : EncPost X w _ _)
  · rw [if_pos h0] at hX
    have e1 : (s != 0) = true := by simpa using h0
    subst hX
    go_wp2_with (go_at_call 74; (with_reducible refine (K74.out _ (h2.ext hXW)).mono ?_); rintro e v1 ⟨rfl, hX1⟩)
    go_ret2
    exact ⟨none, 0, rfl, World.ownsRow_nil _ _ _ _, hXW.trans hX1⟩

end Go.Proofs.Ytfcbedkidjclhaa
