/-
  The walk of PackFaithful: it answers true.
  Conditions: the bytes can be read, no more than may be handed in.
-/
import Derived.Test.YtfcbedkidjclhaaWalkP
namespace Go.Proofs.Ytfcbedkidjclhaa
open Go.RowKit
set_option maxRecDepth 100000
set_option linter.unusedSimpArgs false
set_option linter.unusedVariables false

theorem same_self' (lo hi : Int) (data : List UInt8) (ts : List (Int × Int)) (code : List UInt8) : samePackB lo hi data ts code lo hi data ts code = true := by simp [samePackB]
theorem encode_small {lo hi : Int} {data : List UInt8} {ts : List (Int × Int)} {code L : List UInt8} (h : Pk.encode lo hi data ts code = (L, 0)) : data.length ≤ 4096 ∧ ts.length ≤ 8 ∧ code.length ≤ 131072 ∧ L.length ≤ 131072 := by
  unfold Pk.encode Pk.short at h
  split at h
  · rename_i h1
    exact absurd (congrArg Prod.snd h) h1
  · rename_i h1
    have hs := Pk.sizes_ok (by simpa using h1)
    split at h
    · cases h
    · split at h
      · cases h
      · cases h
        exact ⟨hs.2.2.2.2.2, hs.2.2.2.1, by omega, by omega⟩

set_option maxHeartbeats 4000000 in
theorem PackFaithful_any (A : Option Addr) (N c : Nat) (bs : List UInt8) (w : World) (hb : Rd w 1 A N (bv bs)) (hN : N ≤ 140737488355328) :
    Calls Try.prog 21 #[.slice A N c] w fun e w' => e = .returned (.bool true) ∧ Ext w w' := by
  have LB := hd (show bs.length = N by have := hb.1; rw [bv_length] at this; omega)
  obtain ⟨k, i, e, hD⟩ : ∃ k i e, Pk.decode bs = (k, i, e) := ⟨_, _, _, rfl⟩
  by_cases h0 : e = 0
  · subst h0
    obtain ⟨hi0, hE⟩ := Pk.decode_ok hD
    subst hi0
    obtain ⟨lo, hi, data, ts, code⟩ := k
    dsimp only at hE
    obtain ⟨z1, z2, z3, z4⟩ := encode_small hE
    rw [LB.out] at z4
    obtain ⟨p, a, g, hP⟩ : ∃ p a g, Pk.pprog ⟨lo, hi, data, ts, code⟩ = (p, a, g) := ⟨_, _, _, rfl⟩
    have hbad : g ≠ 0 → p = Pk.P0 ∧ a ≤ code.length / 8 := fun h => Pk.prog_bad hP h
    have hok := fun h : g = 0 => Pk.prog_ok (k := ⟨lo, hi, data, ts, code⟩) (p := p) (a := a) (by rw [hP, h])
    obtain ⟨n1, hn1⟩ : ∃ n, data.length = n := ⟨_, rfl⟩
    obtain ⟨n2, hn2⟩ : ∃ n, ts.length = n := ⟨_, rfl⟩
    obtain ⟨n3, hn3⟩ : ∃ n, code.length = n := ⟨_, rfl⟩
    rw [hn1] at z1
    rw [hn2] at z2
    rw [hn3] at z3 hbad
    have L1 := hd hn1
    have L2 := hd hn2
    have L3 := hd hn3
    have HD := hd hD
    have HE := hd hE
    have HP := hd hP
    clear hD hE hP hn1 hn2 hn3
    go_enter Try.func21, Try.ntmps21
    go_upto_region 4 with (first | (go_at_call 24; (with_reducible refine (awake_any _).mono ?_); rintro e w1 ⟨rfl, hX1⟩) | (go_at_call 36; (with_reducible refine (CopyBytes_any A N c bs _ (hb.ext hX1) hN).mono ?_); rintro e w2 ⟨A2, c2, rfl, own2, hX2⟩) | (go_at_call 39; (with_reducible refine (Decode_any A2 N c2 bs _ (Rd.of_own own2) hN (own_le own2)).mono ?_); rw [HD.out]; intro e w3 hPd; obtain ⟨D, e1, T, e2, C, e3, rfl, s1, s2, s3, sc, hX3⟩ := hPd.atc (p' := 0) L1.out L2.out L3.out rfl; clear hPd))
    refine wp_world (fun W8 => Ext w3 W8 ∧ Blk W8 w3.heap.size 25 #[.int .i64 lo, .int .i64 hi, .slice D n1 e1, .slice T n2 e2, .slice C n3 e3]) ⟨Ext.new _ _, Blk.new _ _ _⟩ ?_
    generalize w3.heap.size = gk
    rintro W4 ⟨hX4, hK⟩
    have X4 := ((hX1.trans hX2).trans hX3).trans hX4
    have s1 := s1.ext hX4
    have s2 := s2.ext hX4
    have s3 := s3.ext hX4
    clear hX1 hX2 hX3 hX4 own2
    obtain ⟨q0, q1, q2, q3, q4⟩ := hK.c5
    go_upto_region 9 with (first | (go_at_call 29; (with_reducible refine (CopyPack_any lo hi D T C n1 n2 n3 e1 e2 e3 data code ts _ s1 s2 s3 (by omega) (by omega) (by omega)).mono ?_); rintro e w5 ⟨B1, B2, B3, d1, d2, d3, rfl, o1, o2, o3, hX5⟩) | (go_at_call 27; (with_reducible refine (Encode_any lo hi B1 B2 B3 n1 n2 n3 d1 d2 d3 data code ts _ (Rd.of_own o1) (Rd.of_own o2) (Rd.of_own o3) (by omega) (by omega) (by omega)).mono ?_); rw [HE.out]; intro e w6 hPe; obtain ⟨A6, c6, rfl, own6, hc6, rd6, hX6⟩ := hPe.at_ LB.out; clear hPe) | (go_at_call 33; (with_reducible refine (SameBytes_any A A6 N N c c6 bs bs _ (hb.ext ((X4.trans hX5).trans hX6)) rd6).mono ?_); rw [beq_self_eq_true]; rintro e w7 ⟨rfl, rfl⟩))
    have Y6 := hX5.trans hX6
    have X6 := X4.trans Y6
    have hK6 := hK.ext Y6
    have s1 := s1.ext Y6
    have s2 := s2.ext Y6
    have s3 := s3.ext Y6
    clear X4 hX5 hX6 Y6 hK q0 q1 q2 q3 q4 o1 o2 o3 own6 rd6
    obtain ⟨q0, q1, q2, q3, q4⟩ := hK6.c5
    by_cases hg : g = 0
    · obtain ⟨a0, r1, r2, r3, r4, r5, r6, r7⟩ := hok hg
      subst hg a0
      obtain ⟨plo, phi, pdata, pts, l⟩ := p
      dsimp only at r3 r4 r5 r6 r7
      have r6 := r6.symm
      cases r6
      have LL := hd (rfl : l.length = l.length)
      have HO := hd r1
      have HC := hd r2
      have HN := hd r3
      have hll : 0 < l.length := by cases l with | nil => exact absurd rfl r4 | cons _ _ => simp
      have hl0 : (0 : Int) < (l.length : Int) := by omega
      clear r1 r2 r3 r4 hbad hok
      go_upto_region 10 with (first | (go_at_call 29; (with_reducible refine (CopyPack_any lo hi D T C n1 n2 n3 e1 e2 e3 data code ts _ s1 s2 s3 (by omega) (by omega) (by omega)).mono ?_); rintro e w5 ⟨B1, B2, B3, d1, d2, d3, rfl, o1, o2, o3, hX7⟩) | (go_at_call 66; (with_reducible refine (PProg_any lo hi B1 B2 B3 n1 n2 n3 d1 d2 d3 data code ts _ (Rd.of_own o1) (Rd.of_own o2) (Rd.of_own o3) (by omega) (by omega) (by omega) (own_le o3)).mono ?_); rw [HP.out]; intro e w8 hPp; obtain ⟨E1, f1, E2, f2, E3, f3, rfl, u1, u2, u3, hX8⟩ := hPp.at_ (m3 := l.length) (p' := 0) L1.out L2.out rfl rfl; clear hPp))
      refine wp_world (fun W8 => Ext w8 W8 ∧ Blk W8 w8.heap.size 90 #[.int .i64 lo, .int .i64 hi, .slice E1 n1 f1, .slice E2 n2 f2, .slice E3 l.length f3]) ⟨Ext.new _ _, Blk.new _ _ _⟩ ?_
      generalize w8.heap.size = gp
      rintro W9 ⟨hX9, hS⟩
      have Y9 := (hX7.trans hX8).trans hX9
      have X9 := X6.trans Y9
      have hK9 := hK6.ext Y9
      have s1 := s1.ext Y9
      have s2 := s2.ext Y9
      have s3 := s3.ext Y9
      have u1 := u1.ext hX9
      have u2 := u2.ext hX9
      have u3 := u3.ext hX9
      clear X6 hX7 hX8 hX9 Y9 hK6 q0 q1 q2 q3 q4 o1 o2 o3
      obtain ⟨p0, p1, p2, p3, p4⟩ := hS.c5
      go_upto_region 13 with (first | (go_at_call 64; (with_reducible refine (CopyProgram_any lo hi E1 E2 E3 n1 n2 l.length f1 f2 f3 data l ts _ u1 u2 u3 (by omega) (by omega) (by omega)).mono ?_); rintro e w10 ⟨B1, B2, B3, d1, d2, d3, rfl, o1, o2, o3, hX10⟩) | (go_at_call 60; (with_reducible refine (POf_any lo hi B1 B2 B3 n1 n2 l.length d1 d2 d3 data l ts _ (Rd.of_own o1) (Rd.of_own o2) (Rd.of_own o3) (by omega) (by omega) (by omega)).mono ?_); rw [HO.out]; intro e w11 hPo; obtain ⟨D', e1', T', e2', C', e3', rfl, t1, t2, t3, -, hX11⟩ := hPo.atc (p' := 0) L1.out L2.out L3.out rfl; clear hPo))
      refine wp_world (fun W8 => Ext w11 W8 ∧ Blk W8 w11.heap.size 25 #[.int .i64 lo, .int .i64 hi, .slice D' n1 e1', .slice T' n2 e2', .slice C' n3 e3']) ⟨Ext.new _ _, Blk.new _ _ _⟩ ?_
      generalize w11.heap.size = go
      rintro W12 ⟨hX12, hO⟩
      have Y12 := (hX10.trans hX11).trans hX12
      have X12 := X9.trans Y12
      have hK12 := hK9.ext Y12
      have hS12 := hS.ext Y12
      have s1 := s1.ext Y12
      have s2 := s2.ext Y12
      have s3 := s3.ext Y12
      have u1 := u1.ext Y12
      have u2 := u2.ext Y12
      have u3 := u3.ext Y12
      have t1 := t1.ext hX12
      have t2 := t2.ext hX12
      have t3 := t3.ext hX12
      clear X9 hX10 hX11 hX12 Y12 hK9 hS p0 p1 p2 p3 p4 o1 o2 o3
      obtain ⟨p0, p1, p2, p3, p4⟩ := hS12.c5
      go_upto_region 14 with (first | (go_at_call 68; (with_reducible refine (CopyCode_any E3 l.length f3 l _ u3 (by omega)).mono ?_); rintro e w13 ⟨A13, c13, rfl, own13, hX13⟩) | (go_at_call 50; (with_reducible refine (CEncode_any A13 l.length c13 l _ (Rd.of_own own13) (by omega)).mono ?_); rw [HN.out]; rintro e w14 ⟨A14, c14, rfl, own14, hX14⟩))
      have Y14 := hX13.trans hX14
      have X14 := X12.trans Y14
      have hK14 := hK12.ext Y14
      have hS14 := hS12.ext Y14
      have hO14 := hO.ext Y14
      have s1 := s1.ext Y14
      have s2 := s2.ext Y14
      have s3 := s3.ext Y14
      have u1 := u1.ext Y14
      have u2 := u2.ext Y14
      have u3 := u3.ext Y14
      have t1 := t1.ext Y14
      have t2 := t2.ext Y14
      have t3 := t3.ext Y14
      have v1 := Rd.of_own own14
      clear X12 hX13 hX14 Y14 hK12 hS12 hO p0 p1 p2 p3 p4 own13 own14
      obtain ⟨p0, p1, p2, p3, p4⟩ := hS14.c5
      go_upto_region 15 with (first | (go_at_call 64; (with_reducible refine (CopyProgram_any lo hi E1 E2 E3 n1 n2 l.length f1 f2 f3 data l ts _ u1 u2 u3 (by omega) (by omega) (by omega)).mono ?_); rintro e w15 ⟨B1, B2, B3, d1, d2, d3, rfl, o1, o2, o3, hX15⟩) | (go_at_call 62; (with_reducible refine (PCheck_any lo hi B1 B2 B3 n1 n2 l.length d1 d2 d3 data l ts _ (Rd.of_own o1) (Rd.of_own o2) (Rd.of_own o3) (by omega) (by omega) (by omega)).mono ?_); rw [HC.out]; rintro e w16 ⟨rfl, hX16⟩))
      have Y16 := hX15.trans hX16
      have X16 := X14.trans Y16
      have hK16 := hK14.ext Y16
      have hS16 := hS14.ext Y16
      have hO16 := hO14.ext Y16
      have s1 := s1.ext Y16
      have s2 := s2.ext Y16
      have s3 := s3.ext Y16
      have t1 := t1.ext Y16
      have t2 := t2.ext Y16
      have t3 := t3.ext Y16
      have v1 := v1.ext Y16
      clear X14 hX15 hX16 Y16 hK14 hS14 hO14 p0 p1 p2 p3 p4 o1 o2 o3
      obtain ⟨p0, p1, p2, p3, p4⟩ := hS16.c5
      obtain ⟨q0, q1, q2, q3, q4⟩ := hK16.c5
      obtain ⟨x0, x1, x2, x3, x4⟩ := hO16.c5
      go_wp2_with (first | (go_at_call 30; (with_reducible refine (SamePack_any lo hi lo hi D' T' C' D T C n1 n2 n3 e1' e2' e3' n1 n2 n3 e1 e2 e3 data code data code ts ts _ t1 t2 t3 s1 s2 s3 (by omega) (by omega)).mono ?_); rw [same_self']; rintro e w17 ⟨rfl, hX17⟩; obtain ⟨y0, y1, y2, y3, y4⟩ := (hS16.ext hX17).c5; obtain ⟨z0, z1, z2, z3, z4⟩ := (hK16.ext hX17).c5) | (go_at_call 33; (with_reducible refine (SameBytes_any A14 C code.length n3 c14 e3 code code _ (v1.ext hX17) (s3.ext hX17)).mono ?_); rw [beq_self_eq_true]; rintro e w18 ⟨rfl, rfl⟩))
      go_ret
      exact ⟨ret_bool (by simp), X16.trans hX17⟩
    · obtain ⟨hp0, ha⟩ := hbad hg
      subst hp0
      have g0 : (g != 0) = true := by simpa using hg
      have ha' : (a : Int) ≤ (n3 : Int) / 8 := by omega
      clear ha
      have ha0 : (0 : Int) ≤ (a : Int) := by omega
      clear hbad hok hg
      go_upto_region 10 with (first | (go_at_call 29; (with_reducible refine (CopyPack_any lo hi D T C n1 n2 n3 e1 e2 e3 data code ts _ s1 s2 s3 (by omega) (by omega) (by omega)).mono ?_); rintro e w5 ⟨B1, B2, B3, d1, d2, d3, rfl, o1, o2, o3, hX7⟩) | (go_at_call 66; (with_reducible refine (PProg_any lo hi B1 B2 B3 n1 n2 n3 d1 d2 d3 data code ts _ (Rd.of_own o1) (Rd.of_own o2) (Rd.of_own o3) (by omega) (by omega) (by omega) (own_le o3)).mono ?_); rw [HP.out]; intro e w8 hPp; obtain ⟨E1, f1, E2, f2, E3, f3, rfl, u1, u2, u3, hX8⟩ := hPp.at_ (m1 := 0) (m2 := 0) (m3 := 0) (p' := (a : Int)) rfl rfl rfl rfl; clear hPp))
      refine wp_world (fun W8 => Ext w8 W8 ∧ Blk W8 w8.heap.size 90 #[.int .i64 0, .int .i64 0, .slice E1 0 f1, .slice E2 0 f2, .slice E3 0 f3]) ⟨Ext.new _ _, Blk.new _ _ _⟩ ?_
      generalize w8.heap.size = gp
      rintro W9 ⟨hX9, hS⟩
      have Y9 := (hX7.trans hX8).trans hX9
      have X9 := X6.trans Y9
      have hK9 := hK6.ext Y9
      clear X6 hX7 hX8 Y9 hK6 q0 q1 q2 q3 q4 o1 o2 o3
      obtain ⟨p0, p1, p2, p3, p4⟩ := hS.c5
      go_wp2_with (go_at_call 61; (with_reducible refine (SameProgram_any 0 0 0 0 E1 E2 E3 none none none 0 0 0 f1 f2 f3 0 0 0 0 0 0 [] [] [] [] [] [] _ (u1.ext hX9) (u2.ext hX9) (u3.ext hX9) (Rd.nil8 _ _) (Rd.nil8 _ _) (Rd.nil8 _ _) (by omega) (by omega) (by omega) (by omega)).mono ?_); rintro e w13 ⟨r, hr, rfl, hX13⟩; obtain rfl : r = true := hr.mpr ⟨rfl, rfl, rfl, rfl, rfl⟩; clear hr; obtain ⟨y0, y1, y2, y3, y4⟩ := (hK9.ext hX13).c5)
      go_ret
      exact ⟨ret_bool (by simp), X9.trans hX13⟩
  · obtain ⟨hk, hi⟩ := Pk.decode_bad hD h0
    subst hk
    have e0 : (e != 0) = true := by simpa using h0
    rw [LB.out] at hi
    have hi' : (i : Int) ≤ (N : Int) := by omega
    have hi0 : (0 : Int) ≤ (i : Int) := by omega
    have HD := hd hD
    clear hD h0
    go_enter Try.func21, Try.ntmps21
    go_upto_region 4 with (first | (go_at_call 24; (with_reducible refine (awake_any _).mono ?_); rintro e w1 ⟨rfl, hX1⟩) | (go_at_call 36; (with_reducible refine (CopyBytes_any A N c bs _ (hb.ext hX1) hN).mono ?_); rintro e w2 ⟨A2, c2, rfl, own2, hX2⟩) | (go_at_call 39; (with_reducible refine (Decode_any A2 N c2 bs _ (Rd.of_own own2) hN (own_le own2)).mono ?_); rw [HD.out]; intro e' w3 hPd; obtain ⟨D, e1, T, e2, C, e3, rfl, s1, s2, s3, sc, hX3⟩ := hPd.atc (m1 := 0) (m2 := 0) (m3 := 0) (p' := (i : Int)) rfl rfl rfl rfl; clear hPd))
    refine wp_world (fun W8 => Ext w3 W8 ∧ Blk W8 w3.heap.size 25 #[.int .i64 0, .int .i64 0, .slice D 0 e1, .slice T 0 e2, .slice C 0 e3]) ⟨Ext.new _ _, Blk.new _ _ _⟩ ?_
    generalize w3.heap.size = gk
    rintro W4 ⟨hX4, hK⟩
    have X4 := ((hX1.trans hX2).trans hX3).trans hX4
    obtain ⟨q0, q1, q2, q3, q4⟩ := hK.c5
    go_wp2_with (go_at_call 30; (with_reducible refine (SamePack_any 0 0 0 0 D T C none none none 0 0 0 e1 e2 e3 0 0 0 0 0 0 [] [] [] [] [] [] _ (s1.ext hX4) (s2.ext hX4) (s3.ext hX4) (Rd.nil8 _ _) (Rd.nil8 _ _) (Rd.nil8 _ _) (by omega) (by omega)).mono ?_); rintro e' w7 ⟨rfl, hX7⟩)
    all_goals go_ret
    all_goals exact ⟨ret_bool (by simp [samePackB]), X4.trans hX7⟩

end Go.Proofs.Ytfcbedkidjclhaa
