/-
  The walk of PackAgain: it answers true.
  Conditions: the program's lists can be read, no more than may be handed in.
-/
import Derived.Test.YtfcbedkidjclhaaProg3
import Derived.Test.YtfcbedkidjclhaaAwake
namespace Go.Proofs.Ytfcbedkidjclhaa
open Go.RowKit
set_option maxRecDepth 100000
set_option linter.unusedSimpArgs false
set_option linter.unusedVariables false

theorem DecPost.atc {lo hi : Int} {data code : List UInt8} {ts : List (Int × Int)} {p m1 m2 m3 : Nat} {p' n : Int} {w w' : World} {e : Ending} (h : DecPost (⟨lo, hi, data, ts, code⟩, p, n) w e w') (h1 : data.length = m1) (h2 : ts.length = m2) (h3 : code.length = m3) (hp : (p : Int) = p') :
    ∃ D c1 T c2 C c3, e = .returned (.tuple #[.agg #[.int .i64 lo, .int .i64 hi, .slice D m1 c1, .slice T m2 c2, .slice C m3 c3], .int .i64 p', .int .i64 n]) ∧
      Rd w' 1 D m1 (bv data) ∧ Rd w' 2 T m2 (tv ts) ∧ Rd w' 1 C m3 (bv code) ∧ m3 ≤ c3 ∧ Ext w w' := by
  obtain ⟨D, n1, c1, T, n2, c2, C, n3, c3, he, hX, o1, o2, o3, _⟩ := h
  have r1 := Rd.of_own o1
  have r2 := Rd.of_own o2
  have r3 := Rd.of_own o3
  have e1 := r1.1
  have e2 := r2.1
  have e3 := r3.1
  simp only [bv_length, tv_length] at e1 e2 e3
  obtain rfl : n1 = m1 := by omega
  obtain rfl : n2 = m2 := by omega
  obtain rfl : n3 = m3 := by omega
  subst hp
  exact ⟨D, c1, T, c2, C, c3, he, r1, r2, r3, own_le o3, hX⟩
theorem PProgPost.at_ {lo hi : Int} {data : List UInt8} {code : List Cd.Ins} {ts : List (Int × Int)} {p m1 m2 m3 : Nat} {p' n : Int} {w w' : World} {e : Ending} (h : PProgPost (⟨lo, hi, data, ts, code⟩, p, n) w e w') (h1 : data.length = m1) (h2 : ts.length = m2) (h3 : code.length = m3) (hp : (p : Int) = p') :
    ∃ D c1 T c2 C c3, e = .returned (.tuple #[.agg #[.int .i64 lo, .int .i64 hi, .slice D m1 c1, .slice T m2 c2, .slice C m3 c3], .int .i64 p', .int .i64 n]) ∧
      Rd w' 1 D m1 (bv data) ∧ Rd w' 2 T m2 (tv ts) ∧ Rd w' 8 C m3 (cv code) ∧ Ext w w' := by
  obtain ⟨D, n1, c1, T, n2, c2, C, n3, c3, he, hX, o1, o2, o3⟩ := h
  have r1 := Rd.of_own o1
  have r2 := Rd.of_own o2
  have r3 := Rd.of_own o3
  have e1 := r1.1
  have e2 := r2.1
  have e3 := r3.1
  simp only [bv_length, tv_length, cv_length] at e1 e2 e3
  obtain rfl : n1 = m1 := by omega
  obtain rfl : n2 = m2 := by omega
  obtain rfl : n3 = m3 := by omega
  subst hp
  exact ⟨D, c1, T, c2, C, c3, he, r1, r2, r3, hX⟩
theorem Rd.nil8 (w : World) (sz : Nat) : Rd w sz none 0 [] := ⟨by simp, fun h => absurd h (by omega)⟩

set_option maxHeartbeats 4000000 in
theorem PackAgain_any (lo hi : Int) (A1 A2 A3 : Option Addr) (n1 n2 n3 c1 c2 c3 : Nat) (data : List UInt8) (code : List Cd.Ins) (ts : List (Int × Int)) (w : World)
    (h1 : Rd w 1 A1 n1 (bv data)) (h2 : Rd w 2 A2 n2 (tv ts)) (h3 : Rd w 8 A3 n3 (cv code))
    (hn1 : n1 ≤ 140737488355328) (hn2 : n2 * 16 ≤ 140737488355328) (hn3 : n3 * 56 ≤ 140737488355328) (hin : Cd.AllIn code) :
    Calls Try.prog 22 #[.agg #[.int .i64 lo, .int .i64 hi, .slice A1 n1 c1, .slice A2 n2 c2, .slice A3 n3 c3]] w fun e w' => e = .returned (.bool true) ∧ Ext w w' := by
  have L1 := hd (show data.length = n1 by have := h1.1; rw [bv_length] at this; omega)
  have L2 := hd (show ts.length = n2 by have := h2.1; rw [tv_length] at this; omega)
  have L3 := hd (show code.length = n3 by have := h3.1; rw [cv_length] at this; omega)
  obtain ⟨i, e, hc⟩ : ∃ i e, Pk.pcheck ⟨lo, hi, data, ts, code⟩ = (i, e) := ⟨_, _, rfl⟩
  by_cases h0 : e = 0
  · subst h0
    have hch : (Pk.pcheck ⟨lo, hi, data, ts, code⟩).2 = 0 := by rw [hc]
    have hok := Pk.of_ok hch hin
    have hfine := Pk.check_fine hch
    have hi0 : i = 0 := by have := hfine.1; rw [hc] at this; exact congrArg Prod.fst this
    subst hi0
    have HC := hd hc
    obtain ⟨F, hF⟩ : ∃ F, Cd.flat code = F := ⟨_, rfl⟩
    rw [hF] at hok
    obtain ⟨o1, o2, o3, o4, o5⟩ := hok
    obtain ⟨B, hB⟩ : ∃ B, Pk.bytes lo hi data ts F = B := ⟨_, rfl⟩
    simp only [hB] at o3 o4
    have hBl : B.length ≤ 131072 := by
      have := o3
      unfold Pk.encode Pk.short at this
      rw [if_neg (by have := hfine.2.1; simpa using this), hB] at this
      split at this
      · cases this
      · split at this
        · cases this
        · omega
    have HO := hd o1
    have HE := hd o3
    have HD := hd o4
    have HP := hd o5
    clear hc hch hfine o1 o3 o4 o5 hB hF
    obtain ⟨N3, hN3⟩ : ∃ N, F.length = N := ⟨_, rfl⟩
    obtain ⟨NB, hNB⟩ : ∃ N, B.length = N := ⟨_, rfl⟩
    have LF := hd hN3
    have LB := hd hNB
    rw [hN3] at o2
    rw [hNB] at hBl
    clear hN3 hNB
    go_enter Try.func22, Try.ntmps22
    go_upto_region 1 with (fail)
    refine wp_world (fun W => Ext w W ∧ Blk W w.heap.size 90 #[.int .i64 lo, .int .i64 hi, .slice A1 n1 c1, .slice A2 n2 c2, .slice A3 n3 c3]) ⟨Ext.new _ _, Blk.new _ _ _⟩ ?_
    generalize w.heap.size = g
    rintro W ⟨hX, hP⟩
    go_upto_region 4 with (first | (go_at_call 24; (with_reducible refine (awake_any _).mono ?_); rintro e w1 ⟨rfl, hX1⟩; obtain ⟨p0, p1, p2, p3, p4⟩ := (hP.ext hX1).c5; have X1 := hX.trans hX1) | (go_at_call 64; (with_reducible refine (CopyProgram_any lo hi A1 A2 A3 n1 n2 n3 c1 c2 c3 data code ts _ (h1.ext X1) (h2.ext X1) (h3.ext X1) hn1 hn2 hn3).mono ?_); rintro e w2 ⟨B1, B2, B3, d1, d2, d3, rfl, o1, o2, o3, hX2⟩) | (go_at_call 62; (with_reducible refine (PCheck_any lo hi B1 B2 B3 n1 n2 n3 d1 d2 d3 data code ts _ (Rd.of_own o1) (Rd.of_own o2) (Rd.of_own o3) hn1 hn2 hn3).mono ?_); rw [HC.out]; rintro e w3 ⟨rfl, hX3⟩))
    have Y3 := (hX1.trans hX2).trans hX3
    have hP3 := hP.ext Y3
    have X3 := hX.trans Y3
    clear hP hX hX1 hX2 hX3 X1 Y3 p0 p1 p2 p3 p4 o1 o2 o3
    obtain ⟨p0, p1, p2, p3, p4⟩ := hP3.c5
    go_upto_region 5 with (first | (go_at_call 64; (with_reducible refine (CopyProgram_any lo hi A1 A2 A3 n1 n2 n3 c1 c2 c3 data code ts _ (h1.ext X3) (h2.ext X3) (h3.ext X3) hn1 hn2 hn3).mono ?_); rintro e w4 ⟨B1, B2, B3, d1, d2, d3, rfl, o1, o2, o3, hX4⟩) | (go_at_call 60; (with_reducible refine (POf_any lo hi B1 B2 B3 n1 n2 n3 d1 d2 d3 data code ts _ (Rd.of_own o1) (Rd.of_own o2) (Rd.of_own o3) hn1 hn2 hn3).mono ?_); rw [HO.out]; intro e w5 hPo; obtain ⟨D, e1, T, e2, C, e3, rfl, s1, s2, s3, -, hX5⟩ := hPo.atc (p' := 0) L1.out L2.out LF.out rfl; clear hPo))
    refine wp_world (fun W8 => Ext w5 W8 ∧ Blk W8 w5.heap.size 25 #[.int .i64 lo, .int .i64 hi, .slice D n1 e1, .slice T n2 e2, .slice C N3 e3]) ⟨Ext.new _ _, Blk.new _ _ _⟩ ?_
    generalize w5.heap.size = gq
    rintro W6 ⟨hX6, hQ6⟩
    have Y6 := (hX4.trans hX5).trans hX6
    have hP6 := hP3.ext Y6
    have X6 := X3.trans Y6
    have s1 := s1.ext hX6
    have s2 := s2.ext hX6
    have s3 := s3.ext hX6
    clear hP3 hX4 hX5 hX6 X3 Y6 p0 p1 p2 p3 p4 o1 o2 o3
    obtain ⟨q0, q1, q2, q3, q4⟩ := hQ6.c5
    go_upto_region 11 with (first | (go_at_call 29; (with_reducible refine (CopyPack_any lo hi D T C n1 n2 N3 e1 e2 e3 data F ts _ s1 s2 s3 hn1 hn2 (by omega)).mono ?_); rintro e w7 ⟨B1, B2, B3, d1, d2, d3, rfl, o1, o2, o3, hX7⟩) | (go_at_call 27; (with_reducible refine (Encode_any lo hi B1 B2 B3 n1 n2 N3 d1 d2 d3 data F ts _ (Rd.of_own o1) (Rd.of_own o2) (Rd.of_own o3) hn1 hn2 (by omega)).mono ?_); rw [HE.out]; intro e w8 hPe; obtain ⟨A, c, rfl, own8, hc8, rd8, hX8⟩ := hPe.at_ LB.out; clear hPe) | (go_at_call 39; (with_reducible refine (Decode_any A NB c B _ rd8 (by omega) hc8).mono ?_); rw [HD.out]; intro e w9 hPd; obtain ⟨D', e1', T', e2', C', e3', rfl, t1, t2, t3, tc, hX9⟩ := hPd.atc (p' := 0) L1.out L2.out LF.out rfl; clear hPd))
    refine wp_world (fun W8 => Ext w9 W8 ∧ Blk W8 w9.heap.size 25 #[.int .i64 lo, .int .i64 hi, .slice D' n1 e1', .slice T' n2 e2', .slice C' N3 e3']) ⟨Ext.new _ _, Blk.new _ _ _⟩ ?_
    generalize w9.heap.size = gr
    rintro W10 ⟨hX10, hR⟩
    have Y10 := ((hX7.trans hX8).trans hX9).trans hX10
    have hP10 := hP6.ext Y10
    have X10 := X6.trans Y10
    have t1 := t1.ext hX10
    have t2 := t2.ext hX10
    have t3 := t3.ext hX10
    clear hP6 hQ6 hX7 hX8 hX9 hX10 X6 Y10 q0 q1 q2 q3 q4 o1 o2 o3 own8 rd8 s1 s2 s3
    obtain ⟨q0, q1, q2, q3, q4⟩ := hR.c5
    go_upto_region 12 with (go_at_call 66; (with_reducible refine (PProg_any lo hi D' T' C' n1 n2 N3 e1' e2' e3' data F ts _ t1 t2 t3 hn1 hn2 (by omega) tc).mono ?_); rw [HP.out]; intro e w11 hPp; obtain ⟨E1, f1, E2, f2, E3, f3, rfl, u1, u2, u3, hX11⟩ := hPp.at_ (p' := 0) L1.out L2.out L3.out rfl; clear hPp)
    refine wp_world (fun W8 => Ext w11 W8 ∧ Blk W8 w11.heap.size 90 #[.int .i64 lo, .int .i64 hi, .slice E1 n1 f1, .slice E2 n2 f2, .slice E3 n3 f3]) ⟨Ext.new _ _, Blk.new _ _ _⟩ ?_
    generalize w11.heap.size = gs
    rintro W12 ⟨hX12, hS⟩
    have Y12 := hX11.trans hX12
    have hP12 := hP10.ext Y12
    have X12 := X10.trans Y12
    have u1 := u1.ext hX12
    have u2 := u2.ext hX12
    have u3 := u3.ext hX12
    clear hP10 hR hX11 hX12 X10 Y12 q0 q1 q2 q3 q4 t1 t2 t3
    obtain ⟨p0, p1, p2, p3, p4⟩ := hP12.c5
    obtain ⟨q0, q1, q2, q3, q4⟩ := hS.c5
    go_wp2_with (go_at_call 61; (with_reducible refine (SameProgram_any lo hi lo hi E1 E2 E3 A1 A2 A3 n1 n2 n3 f1 f2 f3 n1 n2 n3 c1 c2 c3 data data code code ts ts _ u1 u2 u3 (h1.ext X12) (h2.ext X12) (h3.ext X12) hn2 hn2 hn3 hn3).mono ?_); rintro e w13 ⟨r, hr, rfl, hX13⟩; obtain rfl : r = true := hr.mpr ⟨rfl, rfl, rfl, rfl, rfl⟩)
    go_ret
    exact ⟨ret_bool (by simp), X12.trans hX13⟩
  · have e0 : (e != 0) = true := by simpa using h0
    have hXe : Pk.pof ⟨lo, hi, data, ts, code⟩ = (Pk.C0, i, e) := by
      unfold Pk.pof
      rw [hc, if_pos h0]
    have HC := hd hc
    have HO := hd hXe
    clear hc hXe h0
    go_enter Try.func22, Try.ntmps22
    go_upto_region 1 with (fail)
    refine wp_world (fun W => Ext w W ∧ Blk W w.heap.size 90 #[.int .i64 lo, .int .i64 hi, .slice A1 n1 c1, .slice A2 n2 c2, .slice A3 n3 c3]) ⟨Ext.new _ _, Blk.new _ _ _⟩ ?_
    generalize w.heap.size = g
    rintro W ⟨hX, hP⟩
    go_upto_region 4 with (first | (go_at_call 24; (with_reducible refine (awake_any _).mono ?_); rintro e w1 ⟨rfl, hX1⟩; obtain ⟨p0, p1, p2, p3, p4⟩ := (hP.ext hX1).c5; have X1 := hX.trans hX1) | (go_at_call 64; (with_reducible refine (CopyProgram_any lo hi A1 A2 A3 n1 n2 n3 c1 c2 c3 data code ts _ (h1.ext X1) (h2.ext X1) (h3.ext X1) hn1 hn2 hn3).mono ?_); rintro e w2 ⟨B1, B2, B3, d1, d2, d3, rfl, o1, o2, o3, hX2⟩) | (go_at_call 62; (with_reducible refine (PCheck_any lo hi B1 B2 B3 n1 n2 n3 d1 d2 d3 data code ts _ (Rd.of_own o1) (Rd.of_own o2) (Rd.of_own o3) hn1 hn2 hn3).mono ?_); rw [HC.out]; rintro e w3 ⟨rfl, hX3⟩))
    have Y3 := (hX1.trans hX2).trans hX3
    have hP3 := hP.ext Y3
    have X3 := hX.trans Y3
    clear hP hX hX1 hX2 hX3 X1 Y3 p0 p1 p2 p3 p4 o1 o2 o3
    obtain ⟨p0, p1, p2, p3, p4⟩ := hP3.c5
    go_upto_region 5 with (first | (go_at_call 64; (with_reducible refine (CopyProgram_any lo hi A1 A2 A3 n1 n2 n3 c1 c2 c3 data code ts _ (h1.ext X3) (h2.ext X3) (h3.ext X3) hn1 hn2 hn3).mono ?_); rintro e w4 ⟨B1, B2, B3, d1, d2, d3, rfl, o1, o2, o3, hX4⟩) | (go_at_call 60; (with_reducible refine (POf_any lo hi B1 B2 B3 n1 n2 n3 d1 d2 d3 data code ts _ (Rd.of_own o1) (Rd.of_own o2) (Rd.of_own o3) hn1 hn2 hn3).mono ?_); rw [HO.out]; intro e' w5 hPo; obtain ⟨D, e1, T, e2, C, e3, rfl, s1, s2, s3, -, hX5⟩ := hPo.atc (p' := i) rfl rfl rfl rfl; clear hPo))
    refine wp_world (fun W8 => Ext w5 W8 ∧ Blk W8 w5.heap.size 25 #[.int .i64 0, .int .i64 0, .slice D 0 e1, .slice T 0 e2, .slice C 0 e3]) ⟨Ext.new _ _, Blk.new _ _ _⟩ ?_
    generalize w5.heap.size = gq
    rintro W6 ⟨hX6, hQ6⟩
    have X6 := X3.trans ((hX4.trans hX5).trans hX6)
    obtain ⟨q0, q1, q2, q3, q4⟩ := hQ6.c5
    clear p0 p1 p2 p3 p4
    go_wp2_with (go_at_call 30; (with_reducible refine (SamePack_any 0 0 0 0 D T C none none none 0 0 0 e1 e2 e3 0 0 0 0 0 0 [] [] [] [] [] [] _ (s1.ext hX6) (s2.ext hX6) (s3.ext hX6) (Rd.nil8 _ _) (Rd.nil8 _ _) (Rd.nil8 _ _) (by omega) (by omega)).mono ?_); rintro e' w7 ⟨rfl, hX7⟩)
    go_ret
    exact ⟨ret_bool (by simp [samePackB]), X6.trans hX7⟩

end Go.Proofs.Ytfcbedkidjclhaa
