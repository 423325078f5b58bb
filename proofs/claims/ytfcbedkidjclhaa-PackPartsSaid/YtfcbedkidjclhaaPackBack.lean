/-
  The walk of PackBack: it answers true.
  Conditions: the containers' lists can be read, their bytes within what may be handed in.
-/
import Derived.Test.YtfcbedkidjclhaaAwake
namespace Go.Proofs.Ytfcbedkidjclhaa
open Go.RowKit
set_option maxRecDepth 100000
set_option linter.unusedSimpArgs false
set_option linter.unusedVariables false

/-- what Encode answers: an error and nothing, or bytes that are read back -/
theorem enc_cases (lo hi : Int) (data : List UInt8) (ts : List (Int × Int)) (code : List UInt8) :
    (∃ n, n ≠ 0 ∧ Pk.encode lo hi data ts code = ([], n)) ∨
    ∃ L N, Pk.encode lo hi data ts code = (L, 0) ∧ L.length = N ∧ 16 ≤ N ∧ N ≤ 131072 ∧ L = Pk.bytes lo hi data ts code ∧ Pk.sizes lo hi data.length ts = 0 ∧ Pk.decode L = (⟨lo, hi, data, ts, code⟩, 0, 0) := by
  unfold Pk.encode
  by_cases h1 : Pk.sizes lo hi data.length ts = 0
  · rw [if_neg (by simp [h1])]
    by_cases h2 : 131072 < code.length
    · exact .inl ⟨2, by omega, by rw [if_pos h2]⟩
    · rw [if_neg h2]
      unfold Pk.short
      by_cases h3 : 131072 < (Pk.bytes lo hi data ts code).length
      · exact .inl ⟨2, by omega, by rw [if_pos h3]⟩
      · refine .inr ⟨_, _, by rw [if_neg h3], rfl, ?_, by omega, rfl, h1, Pk.decode_bytes lo hi data ts code h1 (by omega)⟩
        obtain ⟨r, hr, hr8⟩ := Pk.body_take lo hi data ts code
        unfold Pk.bytes
        rw [hr]
        simp [Pk.magic, Pk.low_length]
        omega
  · exact .inl ⟨_, h1, by rw [if_pos h1]⟩

theorem same_self (lo hi : Int) (data : List UInt8) (ts : List (Int × Int)) (code : List UInt8) : samePackB lo hi data ts code lo hi data ts code = true := by simp [samePackB]

set_option maxHeartbeats 2000000 in
theorem PackBack_gg (lo hi lo' hi' : Int) (A1 A2 A3 A1' A2' A3' : Option Addr) (n1 n2 n3 c1 c2 c3 n1' n2' n3' c1' c2' c3' : Nat) (data code data' code' : List UInt8) (ts ts' : List (Int × Int)) (w : World)
    (h1 : Rd w 1 A1 n1 (bv data)) (h2 : Rd w 2 A2 n2 (tv ts)) (h3 : Rd w 1 A3 n3 (bv code)) (k1 : Rd w 1 A1' n1' (bv data')) (k2 : Rd w 2 A2' n2' (tv ts')) (k3 : Rd w 1 A3' n3' (bv code'))
    (hn1 : n1 ≤ 140737488355328) (hn2 : n2 * 16 ≤ 140737488355328) (hn3 : n3 ≤ 140737488355328) (kn1 : n1' ≤ 140737488355328) (kn2 : n2' * 16 ≤ 140737488355328) (kn3 : n3' ≤ 140737488355328)
    (L : List UInt8) (N : Nat) (hE : Pk.encode lo hi data ts code = (L, 0)) (hL : L.length = N) (hN : N ≤ 131072) (hD : Pk.decode L = (⟨lo, hi, data, ts, code⟩, 0, 0))
    (L' : List UInt8) (N' : Nat) (hF : Pk.encode lo' hi' data' ts' code' = (L', 0)) (hL2 : L'.length = N') (hN2 : N' ≤ 131072) (hsame : (L == L') = samePackB lo hi data ts code lo' hi' data' ts' code') :
    Calls Try.prog 5 #[.agg #[.int .i64 lo, .int .i64 hi, .slice A1 n1 c1, .slice A2 n2 c2, .slice A3 n3 c3], .agg #[.int .i64 lo', .int .i64 hi', .slice A1' n1' c1', .slice A2' n2' c2', .slice A3' n3' c3']] w fun e w' => e = .returned (.bool true) ∧ Ext w w' := by
  have HE := hd hE
  have HF := hd hF
  have HL := hd hL
  have HD := hd hD
  have L1 := hd (show data.length = n1 by have := h1.1; rw [bv_length] at this; omega)
  have L2 := hd (show ts.length = n2 by have := h2.1; rw [tv_length] at this; omega)
  have L3 := hd (show code.length = n3 by have := h3.1; rw [bv_length] at this; omega)
  clear hE hL hD
  have HL2 := hd hL2
  clear hF hL2
  have HS := hd hsame
  clear hsame
  go_enter Try.func5, Try.ntmps5
  go_upto_region 1 with (fail)
  refine wp_world (fun W => Ext w W ∧ Blk W w.heap.size 25 #[.int .i64 lo, .int .i64 hi, .slice A1 n1 c1, .slice A2 n2 c2, .slice A3 n3 c3] ∧ Blk W (w.heap.size + 1) 25 #[.int .i64 lo', .int .i64 hi', .slice A1' n1' c1', .slice A2' n2' c2', .slice A3' n3' c3'])
    ⟨((Ext.refl _).alloc _).alloc _, (Blk.new _ _ _).alloc _, by simpa using Blk.new (w.alloc _) 25 _⟩ ?_
  rintro W ⟨hX, hP, hR⟩
  go_upto_region 7 with (first | (go_at_call 24; (with_reducible refine (awake_any _).mono ?_); rintro e w1 ⟨rfl, hX1⟩; have X1 := hX.trans hX1; obtain ⟨p0, p1, p2, p3, p4⟩ := (hP.ext hX1).c5) | (go_at_call 29; (with_reducible refine (CopyPack_any lo hi A1 A2 A3 n1 n2 n3 c1 c2 c3 data code ts _ (h1.ext X1) (h2.ext X1) (h3.ext X1) hn1 hn2 hn3).mono ?_); rintro e w2 ⟨B1, B2, B3, d1, d2, d3, rfl, o1, o2, o3, hX2⟩; clear p0 p1 p2 p3 p4) | (go_at_call 27; (with_reducible refine (Encode_any lo hi B1 B2 B3 n1 n2 n3 d1 d2 d3 data code ts _ (Rd.of_own o1) (Rd.of_own o2) (Rd.of_own o3) hn1 hn2 hn3).mono ?_); rw [HE.out]; intro e w3 hP3; obtain ⟨A, c, rfl, own1, hc1, rd1, hX3⟩ := hP3.at_ HL.out; have X3 := (X1.trans hX2).trans hX3; have Y3 := (hX1.trans hX2).trans hX3; clear hP3 o1 o2 o3; obtain ⟨r0, r1, r2, r3, r4⟩ := (hR.ext Y3).c5) | (go_at_call 29; (with_reducible refine (CopyPack_any lo' hi' A1' A2' A3' n1' n2' n3' c1' c2' c3' data' code' ts' _ (k1.ext X3) (k2.ext X3) (k3.ext X3) kn1 kn2 kn3).mono ?_); rintro e w4 ⟨B4, B5, B6, d4, d5, d6, rfl, o4, o5, o6, hX4⟩; clear r0 r1 r2 r3 r4) | (go_at_call 27; (with_reducible refine (Encode_any lo' hi' B4 B5 B6 n1' n2' n3' d4 d5 d6 data' code' ts' _ (Rd.of_own o4) (Rd.of_own o5) (Rd.of_own o6) kn1 kn2 kn3).mono ?_); rw [HF.out]; intro e w5 hP5; obtain ⟨A', c', rfl, own2, hc2, rd2, hX5⟩ := hP5.at_ HL2.out; have X5 := (X3.trans hX4).trans hX5; have Y5 := (Y3.trans hX4).trans hX5; have Z5 := hX4.trans hX5; clear hP5 o4 o5 o6) | (go_at_call 36; (with_reducible refine (CopyBytes_any A N c L _ (rd1.ext Z5) (by omega)).mono ?_); rintro e w6 ⟨A6, c6, rfl, own6, hX6⟩) | (go_at_call 39; (with_reducible refine (Decode_any A6 N c6 L _ (Rd.of_own own6) (by omega) (own_le own6)).mono ?_); rw [HD.out]; intro e w7 hP7; obtain ⟨D, e1, T, e2, C, e3, rfl, s1, s2, s3, hX7⟩ := hP7.at_ (p' := 0) L1.out L2.out L3.out rfl; have X7 := (X5.trans hX6).trans hX7; have Y7 := (Y5.trans hX6).trans hX7; have Z7 := (Z5.trans hX6).trans hX7; clear hP7 own6))
  refine wp_world (fun W8 => Ext w7 W8 ∧ Blk W8 w7.heap.size 25 #[.int .i64 lo, .int .i64 hi, .slice D n1 e1, .slice T n2 e2, .slice C n3 e3]) ⟨Ext.new _ _, Blk.new _ _ _⟩ ?_
  rintro W8 ⟨hX8, hM⟩
  have X8 := X7.trans hX8
  have Y8 := Y7.trans hX8
  have Z8 := Z7.trans hX8
  have V8 := ((hX6.trans hX7).trans hX8)
  obtain ⟨p0, p1, p2, p3, p4⟩ := (hP.ext Y8).c5
  obtain ⟨m0, m1, m2, m3, m4⟩ := hM.c5
  go_upto_region 11 with (go_at_call 30; (with_reducible refine (SamePack_any lo hi lo hi D T C A1 A2 A3 n1 n2 n3 e1 e2 e3 n1 n2 n3 c1 c2 c3 data code data code ts ts _ (s1.ext hX8) (s2.ext hX8) (s3.ext hX8) (h1.ext X8) (h2.ext X8) (h3.ext X8) hn2 hn2).mono ?_); rw [same_self]; rintro e w9 ⟨rfl, hX9⟩)
  clear p0 p1 p2 p3 p4 m0 m1 m2 m3 m4
  have X9 := X8.trans hX9
  have Y9 := Y8.trans hX9
  have Z9 := Z8.trans hX9
  have V9 := V8.trans hX9
  obtain ⟨p0, p1, p2, p3, p4⟩ := (hP.ext Y9).c5
  obtain ⟨r0, r1, r2, r3, r4⟩ := (hR.ext Y9).c5
  have f1 := h1.ext X9
  have f2 := h2.ext X9
  have f3 := h3.ext X9
  have g1 := k1.ext X9
  have g2 := k2.ext X9
  have g3 := k3.ext X9
  have b1 := rd1.ext Z9
  have b2 := rd2.ext V9
  go_region_held3 (fun w' => w'.cell? ⟨w.heap.size, 0, none⟩ = some (.int .i64 lo) ∧ w'.cell? ⟨w.heap.size, 1, none⟩ = some (.int .i64 hi) ∧ w'.cell? ⟨w.heap.size, 2, none⟩ = some (.slice A1 n1 c1) ∧ w'.cell? ⟨w.heap.size, 3, none⟩ = some (.slice A2 n2 c2) ∧ w'.cell? ⟨w.heap.size, 4, none⟩ = some (.slice A3 n3 c3) ∧ w'.cell? ⟨w.heap.size + 1, 0, none⟩ = some (.int .i64 lo') ∧ w'.cell? ⟨w.heap.size + 1, 1, none⟩ = some (.int .i64 hi') ∧ w'.cell? ⟨w.heap.size + 1, 2, none⟩ = some (.slice A1' n1' c1') ∧ w'.cell? ⟨w.heap.size + 1, 3, none⟩ = some (.slice A2' n2' c2') ∧ w'.cell? ⟨w.heap.size + 1, 4, none⟩ = some (.slice A3' n3' c3')) (first | exact ⟨p0, p1, p2, p3, p4, r0, r1, r2, r3, r4⟩ | go_keep | exact ⟨hX10.cell p0, hX10.cell p1, hX10.cell p2, hX10.cell p3, hX10.cell p4, hX10.cell r0, hX10.cell r1, hX10.cell r2, hX10.cell r3, hX10.cell r4⟩) (first | (go_at_call 33; (with_reducible refine (SameBytes_any A A' N N' c c' L L' _ (by first | exact b1.drew | exact b1.drew.ext hX10) (by first | exact b2.drew | exact b2.drew.ext hX10)).mono ?_); rintro e v1 ⟨rfl, rfl⟩) | (go_at_call 30; (with_reducible refine (SamePack_any lo hi lo' hi' A1 A2 A3 A1' A2' A3' n1 n2 n3 c1 c2 c3 n1' n2' n3' c1' c2' c3' data code data' code' ts ts' _ f1.drew f2.drew f3.drew g1.drew g2.drew g3.drew hn2 kn2).mono ?_); rintro e w10 ⟨rfl, hX10⟩))
  go_wp2
  go_ret
  exact ⟨ret_bool (by rw [HS.out]; simp), X9.drew.trans hX10⟩

set_option maxHeartbeats 2000000 in
theorem PackBack_gb (lo hi lo' hi' : Int) (A1 A2 A3 A1' A2' A3' : Option Addr) (n1 n2 n3 c1 c2 c3 n1' n2' n3' c1' c2' c3' : Nat) (data code data' code' : List UInt8) (ts ts' : List (Int × Int)) (w : World)
    (h1 : Rd w 1 A1 n1 (bv data)) (h2 : Rd w 2 A2 n2 (tv ts)) (h3 : Rd w 1 A3 n3 (bv code)) (k1 : Rd w 1 A1' n1' (bv data')) (k2 : Rd w 2 A2' n2' (tv ts')) (k3 : Rd w 1 A3' n3' (bv code'))
    (hn1 : n1 ≤ 140737488355328) (hn2 : n2 * 16 ≤ 140737488355328) (hn3 : n3 ≤ 140737488355328) (kn1 : n1' ≤ 140737488355328) (kn2 : n2' * 16 ≤ 140737488355328) (kn3 : n3' ≤ 140737488355328)
    (L : List UInt8) (N : Nat) (hE : Pk.encode lo hi data ts code = (L, 0)) (hL : L.length = N) (hN : N ≤ 131072) (hD : Pk.decode L = (⟨lo, hi, data, ts, code⟩, 0, 0))
    (n' : Int) (hn' : n' ≠ 0) (hF : Pk.encode lo' hi' data' ts' code' = ([], n')) :
    Calls Try.prog 5 #[.agg #[.int .i64 lo, .int .i64 hi, .slice A1 n1 c1, .slice A2 n2 c2, .slice A3 n3 c3], .agg #[.int .i64 lo', .int .i64 hi', .slice A1' n1' c1', .slice A2' n2' c2', .slice A3' n3' c3']] w fun e w' => e = .returned (.bool true) ∧ Ext w w' := by
  have HE := hd hE
  have HF := hd hF
  have HL := hd hL
  have HD := hd hD
  have L1 := hd (show data.length = n1 by have := h1.1; rw [bv_length] at this; omega)
  have L2 := hd (show ts.length = n2 by have := h2.1; rw [tv_length] at this; omega)
  have L3 := hd (show code.length = n3 by have := h3.1; rw [bv_length] at this; omega)
  clear hE hL hD
  have hmb : (n' != 0) = true := by simpa using hn'
  have hmc : (n' == 0) = false := by simpa using hn'
  clear hF hn'
  go_enter Try.func5, Try.ntmps5
  go_upto_region 1 with (fail)
  refine wp_world (fun W => Ext w W ∧ Blk W w.heap.size 25 #[.int .i64 lo, .int .i64 hi, .slice A1 n1 c1, .slice A2 n2 c2, .slice A3 n3 c3] ∧ Blk W (w.heap.size + 1) 25 #[.int .i64 lo', .int .i64 hi', .slice A1' n1' c1', .slice A2' n2' c2', .slice A3' n3' c3'])
    ⟨((Ext.refl _).alloc _).alloc _, (Blk.new _ _ _).alloc _, by simpa using Blk.new (w.alloc _) 25 _⟩ ?_
  rintro W ⟨hX, hP, hR⟩
  go_upto_region 7 with (first | (go_at_call 24; (with_reducible refine (awake_any _).mono ?_); rintro e w1 ⟨rfl, hX1⟩; have X1 := hX.trans hX1; obtain ⟨p0, p1, p2, p3, p4⟩ := (hP.ext hX1).c5) | (go_at_call 29; (with_reducible refine (CopyPack_any lo hi A1 A2 A3 n1 n2 n3 c1 c2 c3 data code ts _ (h1.ext X1) (h2.ext X1) (h3.ext X1) hn1 hn2 hn3).mono ?_); rintro e w2 ⟨B1, B2, B3, d1, d2, d3, rfl, o1, o2, o3, hX2⟩; clear p0 p1 p2 p3 p4) | (go_at_call 27; (with_reducible refine (Encode_any lo hi B1 B2 B3 n1 n2 n3 d1 d2 d3 data code ts _ (Rd.of_own o1) (Rd.of_own o2) (Rd.of_own o3) hn1 hn2 hn3).mono ?_); rw [HE.out]; intro e w3 hP3; obtain ⟨A, c, rfl, own1, hc1, rd1, hX3⟩ := hP3.at_ HL.out; have X3 := (X1.trans hX2).trans hX3; have Y3 := (hX1.trans hX2).trans hX3; clear hP3 o1 o2 o3; obtain ⟨r0, r1, r2, r3, r4⟩ := (hR.ext Y3).c5) | (go_at_call 29; (with_reducible refine (CopyPack_any lo' hi' A1' A2' A3' n1' n2' n3' c1' c2' c3' data' code' ts' _ (k1.ext X3) (k2.ext X3) (k3.ext X3) kn1 kn2 kn3).mono ?_); rintro e w4 ⟨B4, B5, B6, d4, d5, d6, rfl, o4, o5, o6, hX4⟩; clear r0 r1 r2 r3 r4) | (go_at_call 27; (with_reducible refine (Encode_any lo' hi' B4 B5 B6 n1' n2' n3' d4 d5 d6 data' code' ts' _ (Rd.of_own o4) (Rd.of_own o5) (Rd.of_own o6) kn1 kn2 kn3).mono ?_); rw [HF.out]; intro e w5 hP5; obtain ⟨A', c', rfl, own2, hc2, rd2, hX5⟩ := hP5.at_ (m := 0) rfl; have X5 := (X3.trans hX4).trans hX5; have Y5 := (Y3.trans hX4).trans hX5; have Z5 := hX4.trans hX5; clear hP5 o4 o5 o6) | (go_at_call 36; (with_reducible refine (CopyBytes_any A N c L _ (rd1.ext Z5) (by omega)).mono ?_); rintro e w6 ⟨A6, c6, rfl, own6, hX6⟩) | (go_at_call 39; (with_reducible refine (Decode_any A6 N c6 L _ (Rd.of_own own6) (by omega) (own_le own6)).mono ?_); rw [HD.out]; intro e w7 hP7; obtain ⟨D, e1, T, e2, C, e3, rfl, s1, s2, s3, hX7⟩ := hP7.at_ (p' := 0) L1.out L2.out L3.out rfl; have X7 := (X5.trans hX6).trans hX7; have Y7 := (Y5.trans hX6).trans hX7; have Z7 := (Z5.trans hX6).trans hX7; clear hP7 own6))
  refine wp_world (fun W8 => Ext w7 W8 ∧ Blk W8 w7.heap.size 25 #[.int .i64 lo, .int .i64 hi, .slice D n1 e1, .slice T n2 e2, .slice C n3 e3]) ⟨Ext.new _ _, Blk.new _ _ _⟩ ?_
  rintro W8 ⟨hX8, hM⟩
  have X8 := X7.trans hX8
  have Y8 := Y7.trans hX8
  have Z8 := Z7.trans hX8
  have V8 := ((hX6.trans hX7).trans hX8)
  obtain ⟨p0, p1, p2, p3, p4⟩ := (hP.ext Y8).c5
  obtain ⟨m0, m1, m2, m3, m4⟩ := hM.c5
  go_upto_region 11 with (go_at_call 30; (with_reducible refine (SamePack_any lo hi lo hi D T C A1 A2 A3 n1 n2 n3 e1 e2 e3 n1 n2 n3 c1 c2 c3 data code data code ts ts _ (s1.ext hX8) (s2.ext hX8) (s3.ext hX8) (h1.ext X8) (h2.ext X8) (h3.ext X8) hn2 hn2).mono ?_); rw [same_self]; rintro e w9 ⟨rfl, hX9⟩)
  clear p0 p1 p2 p3 p4 m0 m1 m2 m3 m4
  have X9 := X8.trans hX9
  go_quiet (fail)
  go_wp2
  go_ret
  exact ⟨rfl, X9.drewN _⟩

set_option maxHeartbeats 2000000 in
theorem PackBack_bg (lo hi lo' hi' : Int) (A1 A2 A3 A1' A2' A3' : Option Addr) (n1 n2 n3 c1 c2 c3 n1' n2' n3' c1' c2' c3' : Nat) (data code data' code' : List UInt8) (ts ts' : List (Int × Int)) (w : World)
    (h1 : Rd w 1 A1 n1 (bv data)) (h2 : Rd w 2 A2 n2 (tv ts)) (h3 : Rd w 1 A3 n3 (bv code)) (k1 : Rd w 1 A1' n1' (bv data')) (k2 : Rd w 2 A2' n2' (tv ts')) (k3 : Rd w 1 A3' n3' (bv code'))
    (hn1 : n1 ≤ 140737488355328) (hn2 : n2 * 16 ≤ 140737488355328) (hn3 : n3 ≤ 140737488355328) (kn1 : n1' ≤ 140737488355328) (kn2 : n2' * 16 ≤ 140737488355328) (kn3 : n3' ≤ 140737488355328)
    (n : Int) (hn : n ≠ 0) (hE : Pk.encode lo hi data ts code = ([], n))
    (L' : List UInt8) (N' : Nat) (hF : Pk.encode lo' hi' data' ts' code' = (L', 0)) (hL2 : L'.length = N') (hN2 : N' ≤ 131072) :
    Calls Try.prog 5 #[.agg #[.int .i64 lo, .int .i64 hi, .slice A1 n1 c1, .slice A2 n2 c2, .slice A3 n3 c3], .agg #[.int .i64 lo', .int .i64 hi', .slice A1' n1' c1', .slice A2' n2' c2', .slice A3' n3' c3']] w fun e w' => e = .returned (.bool true) ∧ Ext w w' := by
  have HE := hd hE
  have HF := hd hF
  have hnb : (n != 0) = true := by simpa using hn
  have hnc : (n == 0) = false := by simpa using hn
  clear hE hn
  have HL2 := hd hL2
  clear hF hL2
  go_enter Try.func5, Try.ntmps5
  go_upto_region 1 with (fail)
  refine wp_world (fun W => Ext w W ∧ Blk W w.heap.size 25 #[.int .i64 lo, .int .i64 hi, .slice A1 n1 c1, .slice A2 n2 c2, .slice A3 n3 c3] ∧ Blk W (w.heap.size + 1) 25 #[.int .i64 lo', .int .i64 hi', .slice A1' n1' c1', .slice A2' n2' c2', .slice A3' n3' c3'])
    ⟨((Ext.refl _).alloc _).alloc _, (Blk.new _ _ _).alloc _, by simpa using Blk.new (w.alloc _) 25 _⟩ ?_
  rintro W ⟨hX, hP, hR⟩
  go_upto_region 11 with (first | (go_at_call 24; (with_reducible refine (awake_any _).mono ?_); rintro e w1 ⟨rfl, hX1⟩; have X1 := hX.trans hX1; obtain ⟨p0, p1, p2, p3, p4⟩ := (hP.ext hX1).c5) | (go_at_call 29; (with_reducible refine (CopyPack_any lo hi A1 A2 A3 n1 n2 n3 c1 c2 c3 data code ts _ (h1.ext X1) (h2.ext X1) (h3.ext X1) hn1 hn2 hn3).mono ?_); rintro e w2 ⟨B1, B2, B3, d1, d2, d3, rfl, o1, o2, o3, hX2⟩; clear p0 p1 p2 p3 p4) | (go_at_call 27; (with_reducible refine (Encode_any lo hi B1 B2 B3 n1 n2 n3 d1 d2 d3 data code ts _ (Rd.of_own o1) (Rd.of_own o2) (Rd.of_own o3) hn1 hn2 hn3).mono ?_); rw [HE.out]; intro e w3 hP3; obtain ⟨A, c, rfl, own1, hc1, rd1, hX3⟩ := hP3.at_ (m := 0) rfl; have X3 := (X1.trans hX2).trans hX3; have Y3 := (hX1.trans hX2).trans hX3; clear hP3 o1 o2 o3; obtain ⟨r0, r1, r2, r3, r4⟩ := (hR.ext Y3).c5) | (go_at_call 29; (with_reducible refine (CopyPack_any lo' hi' A1' A2' A3' n1' n2' n3' c1' c2' c3' data' code' ts' _ (k1.ext X3) (k2.ext X3) (k3.ext X3) kn1 kn2 kn3).mono ?_); rintro e w4 ⟨B4, B5, B6, d4, d5, d6, rfl, o4, o5, o6, hX4⟩; clear r0 r1 r2 r3 r4) | (go_at_call 27; (with_reducible refine (Encode_any lo' hi' B4 B5 B6 n1' n2' n3' d4 d5 d6 data' code' ts' _ (Rd.of_own o4) (Rd.of_own o5) (Rd.of_own o6) kn1 kn2 kn3).mono ?_); rw [HF.out]; intro e w5 hP5; obtain ⟨A', c', rfl, own2, hc2, rd2, hX5⟩ := hP5.at_ HL2.out; have X5 := (X3.trans hX4).trans hX5; have Y5 := (Y3.trans hX4).trans hX5; have Z5 := hX4.trans hX5; clear hP5 o4 o5 o6))
  go_quiet (fail)
  go_wp2
  go_ret
  exact ⟨rfl, X5.drewN _⟩

set_option maxHeartbeats 2000000 in
theorem PackBack_bb (lo hi lo' hi' : Int) (A1 A2 A3 A1' A2' A3' : Option Addr) (n1 n2 n3 c1 c2 c3 n1' n2' n3' c1' c2' c3' : Nat) (data code data' code' : List UInt8) (ts ts' : List (Int × Int)) (w : World)
    (h1 : Rd w 1 A1 n1 (bv data)) (h2 : Rd w 2 A2 n2 (tv ts)) (h3 : Rd w 1 A3 n3 (bv code)) (k1 : Rd w 1 A1' n1' (bv data')) (k2 : Rd w 2 A2' n2' (tv ts')) (k3 : Rd w 1 A3' n3' (bv code'))
    (hn1 : n1 ≤ 140737488355328) (hn2 : n2 * 16 ≤ 140737488355328) (hn3 : n3 ≤ 140737488355328) (kn1 : n1' ≤ 140737488355328) (kn2 : n2' * 16 ≤ 140737488355328) (kn3 : n3' ≤ 140737488355328)
    (n : Int) (hn : n ≠ 0) (hE : Pk.encode lo hi data ts code = ([], n))
    (n' : Int) (hn' : n' ≠ 0) (hF : Pk.encode lo' hi' data' ts' code' = ([], n')) :
    Calls Try.prog 5 #[.agg #[.int .i64 lo, .int .i64 hi, .slice A1 n1 c1, .slice A2 n2 c2, .slice A3 n3 c3], .agg #[.int .i64 lo', .int .i64 hi', .slice A1' n1' c1', .slice A2' n2' c2', .slice A3' n3' c3']] w fun e w' => e = .returned (.bool true) ∧ Ext w w' := by
  have HE := hd hE
  have HF := hd hF
  have hnb : (n != 0) = true := by simpa using hn
  have hnc : (n == 0) = false := by simpa using hn
  clear hE hn
  have hmb : (n' != 0) = true := by simpa using hn'
  have hmc : (n' == 0) = false := by simpa using hn'
  clear hF hn'
  go_enter Try.func5, Try.ntmps5
  go_upto_region 1 with (fail)
  refine wp_world (fun W => Ext w W ∧ Blk W w.heap.size 25 #[.int .i64 lo, .int .i64 hi, .slice A1 n1 c1, .slice A2 n2 c2, .slice A3 n3 c3] ∧ Blk W (w.heap.size + 1) 25 #[.int .i64 lo', .int .i64 hi', .slice A1' n1' c1', .slice A2' n2' c2', .slice A3' n3' c3'])
    ⟨((Ext.refl _).alloc _).alloc _, (Blk.new _ _ _).alloc _, by simpa using Blk.new (w.alloc _) 25 _⟩ ?_
  rintro W ⟨hX, hP, hR⟩
  go_upto_region 11 with (first | (go_at_call 24; (with_reducible refine (awake_any _).mono ?_); rintro e w1 ⟨rfl, hX1⟩; have X1 := hX.trans hX1; obtain ⟨p0, p1, p2, p3, p4⟩ := (hP.ext hX1).c5) | (go_at_call 29; (with_reducible refine (CopyPack_any lo hi A1 A2 A3 n1 n2 n3 c1 c2 c3 data code ts _ (h1.ext X1) (h2.ext X1) (h3.ext X1) hn1 hn2 hn3).mono ?_); rintro e w2 ⟨B1, B2, B3, d1, d2, d3, rfl, o1, o2, o3, hX2⟩; clear p0 p1 p2 p3 p4) | (go_at_call 27; (with_reducible refine (Encode_any lo hi B1 B2 B3 n1 n2 n3 d1 d2 d3 data code ts _ (Rd.of_own o1) (Rd.of_own o2) (Rd.of_own o3) hn1 hn2 hn3).mono ?_); rw [HE.out]; intro e w3 hP3; obtain ⟨A, c, rfl, own1, hc1, rd1, hX3⟩ := hP3.at_ (m := 0) rfl; have X3 := (X1.trans hX2).trans hX3; have Y3 := (hX1.trans hX2).trans hX3; clear hP3 o1 o2 o3; obtain ⟨r0, r1, r2, r3, r4⟩ := (hR.ext Y3).c5) | (go_at_call 29; (with_reducible refine (CopyPack_any lo' hi' A1' A2' A3' n1' n2' n3' c1' c2' c3' data' code' ts' _ (k1.ext X3) (k2.ext X3) (k3.ext X3) kn1 kn2 kn3).mono ?_); rintro e w4 ⟨B4, B5, B6, d4, d5, d6, rfl, o4, o5, o6, hX4⟩; clear r0 r1 r2 r3 r4) | (go_at_call 27; (with_reducible refine (Encode_any lo' hi' B4 B5 B6 n1' n2' n3' d4 d5 d6 data' code' ts' _ (Rd.of_own o4) (Rd.of_own o5) (Rd.of_own o6) kn1 kn2 kn3).mono ?_); rw [HF.out]; intro e w5 hP5; obtain ⟨A', c', rfl, own2, hc2, rd2, hX5⟩ := hP5.at_ (m := 0) rfl; have X5 := (X3.trans hX4).trans hX5; have Y5 := (Y3.trans hX4).trans hX5; have Z5 := hX4.trans hX5; clear hP5 o4 o5 o6))
  go_quiet (fail)
  go_wp2
  go_ret
  exact ⟨rfl, X5.drewN _⟩

/-- two containers, one sequence of bytes -/
theorem enc_same {lo hi lo' hi' : Int} {data data' code code' : List UInt8} {ts ts' : List (Int × Int)} {L L' : List UInt8} (h : L = Pk.bytes lo hi data ts code) (h' : L' = Pk.bytes lo' hi' data' ts' code')
    (hD : Pk.decode L = (⟨lo, hi, data, ts, code⟩, 0, 0)) (hD' : Pk.decode L' = (⟨lo', hi', data', ts', code'⟩, 0, 0)) : (L == L') = samePackB lo hi data ts code lo' hi' data' ts' code' := by
  by_cases e : L = L'
  · subst e
    rw [hD] at hD'
    simp only [Prod.mk.injEq, Pk.C.mk.injEq, and_true] at hD'
    obtain ⟨rfl, rfl, rfl, rfl, rfl⟩ := hD'
    rw [same_self]
    simp
  · have hb : (L == L') = false := by simpa using e
    rw [hb]
    cases hs : samePackB lo hi data ts code lo' hi' data' ts' code' with
    | false => rfl
    | true =>
      simp only [samePackB, Bool.and_eq_true, beq_iff_eq] at hs
      obtain ⟨⟨⟨⟨rfl, rfl⟩, rfl⟩, rfl⟩, rfl⟩ := hs
      exact absurd (h.trans h'.symm) e

theorem PackBack_any (lo hi lo' hi' : Int) (A1 A2 A3 A1' A2' A3' : Option Addr) (n1 n2 n3 c1 c2 c3 n1' n2' n3' c1' c2' c3' : Nat) (data code data' code' : List UInt8) (ts ts' : List (Int × Int)) (w : World)
    (h1 : Rd w 1 A1 n1 (bv data)) (h2 : Rd w 2 A2 n2 (tv ts)) (h3 : Rd w 1 A3 n3 (bv code)) (k1 : Rd w 1 A1' n1' (bv data')) (k2 : Rd w 2 A2' n2' (tv ts')) (k3 : Rd w 1 A3' n3' (bv code'))
    (hn1 : n1 ≤ 140737488355328) (hn2 : n2 * 16 ≤ 140737488355328) (hn3 : n3 ≤ 140737488355328) (kn1 : n1' ≤ 140737488355328) (kn2 : n2' * 16 ≤ 140737488355328) (kn3 : n3' ≤ 140737488355328) :
    Calls Try.prog 5 #[.agg #[.int .i64 lo, .int .i64 hi, .slice A1 n1 c1, .slice A2 n2 c2, .slice A3 n3 c3], .agg #[.int .i64 lo', .int .i64 hi', .slice A1' n1' c1', .slice A2' n2' c2', .slice A3' n3' c3']] w fun e w' => e = .returned (.bool true) ∧ Ext w w' := by
  rcases enc_cases lo hi data ts code with ⟨n, hn, hE⟩ | ⟨L, N, hE, hL, _, hN, hB, _, hD⟩ <;> rcases enc_cases lo' hi' data' ts' code' with ⟨n', hn', hF⟩ | ⟨L', N', hF, hL2, _, hN2, hB2, _, hD2⟩
  · exact PackBack_bb lo hi lo' hi' A1 A2 A3 A1' A2' A3' n1 n2 n3 c1 c2 c3 n1' n2' n3' c1' c2' c3' data code data' code' ts ts' w h1 h2 h3 k1 k2 k3 hn1 hn2 hn3 kn1 kn2 kn3 n hn hE n' hn' hF
  · exact PackBack_bg lo hi lo' hi' A1 A2 A3 A1' A2' A3' n1 n2 n3 c1 c2 c3 n1' n2' n3' c1' c2' c3' data code data' code' ts ts' w h1 h2 h3 k1 k2 k3 hn1 hn2 hn3 kn1 kn2 kn3 n hn hE L' N' hF hL2 hN2
  · exact PackBack_gb lo hi lo' hi' A1 A2 A3 A1' A2' A3' n1 n2 n3 c1 c2 c3 n1' n2' n3' c1' c2' c3' data code data' code' ts ts' w h1 h2 h3 k1 k2 k3 hn1 hn2 hn3 kn1 kn2 kn3 L N hE hL hN hD n' hn' hF
  · exact PackBack_gg lo hi lo' hi' A1 A2 A3 A1' A2' A3' n1 n2 n3 c1 c2 c3 n1' n2' n3' c1' c2' c3' data code data' code' ts ts' w h1 h2 h3 k1 k2 k3 hn1 hn2 hn3 kn1 kn2 kn3 L N hE hL hN hD L' N' hF hL2 hN2 (enc_same hB hB2 hD hD2)

end Go.Proofs.Ytfcbedkidjclhaa
