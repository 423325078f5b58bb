/-
  The walk of PackSums: one changed byte is refused: it answers true.
  Conditions: the container's lists can be read, their bytes within what may be handed in.
-/
import Derived.Test.YtfcbedkidjclhaaPackBack
namespace Go.Proofs.Ytfcbedkidjclhaa
open Go.RowKit
set_option maxRecDepth 100000
set_option linter.unusedSimpArgs false
set_option linter.unusedVariables false

theorem mask_lt (b : Int) : ∃ m : Nat, m < 4611686018427387904 ∧ bits .and .i64 b 4611686018427387903 = (m : Int) := by
  have h : ((BitVec.ofInt 64 b &&& BitVec.ofInt 64 4611686018427387903).toNat : Int) ≤ 4611686018427387903 := by
    rw [BitVec.toNat_and, show (BitVec.ofInt 64 4611686018427387903).toNat = 4611686018427387903 from rfl]
    have := @Nat.and_le_right (BitVec.ofInt 64 b).toNat 4611686018427387903
    omega
  refine ⟨(BitVec.ofInt 64 b &&& BitVec.ofInt 64 4611686018427387903).toNat, by omega, ?_⟩
  show IntKind.i64.wrap ((BitVec.ofInt 64 b &&& BitVec.ofInt 64 4611686018427387903).toNat : Int) = _
  rw [IntKind.wrap_i64]
  omega

theorem xor_u8 (a b : UInt8) : bits .xor .u8 (a.toNat : Int) (b.toNat : Int) = ((a ^^^ b).toNat : Int) := by
  have ha := a.toNat_lt
  have hb := b.toNat_lt
  have hx : a.toNat ^^^ b.toNat < 2 ^ 8 := Nat.xor_lt_two_pow (by omega) (by omega)
  have e : ∀ c : UInt8, (BitVec.ofInt 8 (c.toNat : Int)).toNat = c.toNat := fun c => by
    have := c.toNat_lt
    rw [BitVec.ofInt_natCast, BitVec.toNat_ofNat]
    exact Nat.mod_eq_of_lt (by omega)
  show IntKind.u8.wrap ((BitVec.ofInt 8 (a.toNat : Int) ^^^ BitVec.ofInt 8 (b.toNat : Int)).toNat : Int) = _
  rw [BitVec.toNat_xor, e, e, UInt8.toNat_xor]
  have : IntKind.u8.wrap ((a.toNat ^^^ b.toNat : Nat) : Int) = ((a.toNat ^^^ b.toNat : Nat) : Int) := by
    rw [IntKind.wrap_u8]
    omega
  exact this

/-- a row that is owned: its block -/
theorem own_block {w : World} {base n c : Nat} {e : TypeId} {A : Option Addr} {xs : List Value} (h : w.ownsRow base e 1 (.slice A n c) n xs) (hn : 0 < n) : ∃ g cs, A = some ⟨g, 0, none⟩ ∧ Blk w g e cs ∧ base ≤ g := by
  rcases h.2 with ⟨h1, h2⟩ | ⟨g, cap, cur, h1, hb, hh, _⟩
  · omega
  · injection h1 with h1
    exact ⟨g, cur, h1, hh, hb⟩

/-- one cell of a list turned -/
theorem Rd.upd {w : World} {b o n i : Nat} {xs : List Value} (h : Rd w 1 (some ⟨b, o, none⟩) n xs) (hi : i < n) (u : Value) : Rd (w.setCell ⟨b, o + i, none⟩ u) 1 (some ⟨b, o, none⟩) n (xs.set i u) := by
  obtain ⟨b', o', he, hc⟩ := h.form (by omega) (by omega)
  injection he with he
  injection he with hb ho _
  subst hb ho
  have hl := h.1
  refine ⟨by simpa using hl, fun _ => ⟨_, rfl, fun j v hj => ?_⟩⟩
  have e : (⟨b, o, none⟩ : Addr).add j = ⟨b, o + j, none⟩ := by unfold Addr.add; split <;> simp_all
  rw [e]
  by_cases hij : j = i
  · subst hij
    rw [List.getElem?_set_self (by omega)] at hj
    have := hc j _ (List.getElem?_eq_getElem (by omega))
    rw [World.cell?_setCell_same _ _ _ this]
    exact hj
  · rw [List.getElem?_set_ne (Ne.symm hij)] at hj
    rw [World.cell?_setCell_other]
    · exact hc j v hj
    · intro hh
      injection hh with _ h2 _
      omega

theorem bv_set (l : List UInt8) (i : Nat) (x : UInt8) : bv (l.set i x) = (bv l).set i (.int .u8 (x.toNat : Int)) := by simp [bv]

theorem xor_ne {a b : UInt8} (h : b ≠ 0) : a ^^^ b ≠ a := by
  intro e
  apply h
  have : a ^^^ (a ^^^ b) = a ^^^ a := by rw [e]
  simpa [← UInt8.xor_assoc] using this

set_option maxHeartbeats 2000000 in
theorem PackSums_bad (lo hi a t : Int) (A1 A2 A3 : Option Addr) (n1 n2 n3 c1 c2 c3 : Nat) (data code : List UInt8) (ts : List (Int × Int)) (w : World)
    (h1 : Rd w 1 A1 n1 (bv data)) (h2 : Rd w 2 A2 n2 (tv ts)) (h3 : Rd w 1 A3 n3 (bv code)) (hn1 : n1 ≤ 140737488355328) (hn2 : n2 * 16 ≤ 140737488355328) (hn3 : n3 ≤ 140737488355328)
    (n : Int) (hn : n ≠ 0) (hE : Pk.encode lo hi data ts code = ([], n)) :
    Calls Try.prog 6 #[.agg #[.int .i64 lo, .int .i64 hi, .slice A1 n1 c1, .slice A2 n2 c2, .slice A3 n3 c3], .int .i64 a, .int .i64 t] w fun e w' => e = .returned (.bool true) ∧ Ext w w' := by
  have HE := hd hE
  have hnb : (n != 0) = true := by simpa using hn
  clear hE hn
  go_enter Try.func6, Try.ntmps6
  go_upto_region 1 with (fail)
  refine wp_world (fun W => Ext w W ∧ Blk W w.heap.size 25 #[.int .i64 lo, .int .i64 hi, .slice A1 n1 c1, .slice A2 n2 c2, .slice A3 n3 c3]) ⟨Ext.new _ _, Blk.new _ _ _⟩ ?_
  rintro W ⟨hX, hP⟩
  go_wp2_with (first | (go_at_call 24; (with_reducible refine (awake_any _).mono ?_); rintro e w1 ⟨rfl, hX1⟩; have X1 := hX.trans hX1; obtain ⟨p0, p1, p2, p3, p4⟩ := (hP.ext hX1).c5) | (go_at_call 29; (with_reducible refine (CopyPack_any lo hi A1 A2 A3 n1 n2 n3 c1 c2 c3 data code ts _ (h1.ext X1) (h2.ext X1) (h3.ext X1) hn1 hn2 hn3).mono ?_); rintro e w2 ⟨B1, B2, B3, d1, d2, d3, rfl, o1, o2, o3, hX2⟩; clear p0 p1 p2 p3 p4) | (go_at_call 27; (with_reducible refine (Encode_any lo hi B1 B2 B3 n1 n2 n3 d1 d2 d3 data code ts _ (Rd.of_own o1) (Rd.of_own o2) (Rd.of_own o3) hn1 hn2 hn3).mono ?_); rw [HE.out]; intro e w3 hP3; obtain ⟨A, c, rfl, own1, hc1, rd1, hX3⟩ := hP3.at_ (m := 0) rfl; have X3 := (X1.trans hX2).trans hX3; clear hP3 o1 o2 o3))
  go_ret
  exact ⟨rfl, X3⟩

set_option maxHeartbeats 2000000 in
theorem PackSums_lo (lo hi a t : Int) (A1 A2 A3 : Option Addr) (n1 n2 n3 c1 c2 c3 : Nat) (data code : List UInt8) (ts : List (Int × Int)) (w : World)
    (h1 : Rd w 1 A1 n1 (bv data)) (h2 : Rd w 2 A2 n2 (tv ts)) (h3 : Rd w 1 A3 n3 (bv code)) (hn1 : n1 ≤ 140737488355328) (hn2 : n2 * 16 ≤ 140737488355328) (hn3 : n3 ≤ 140737488355328)
    (L : List UInt8) (N i m q r : Nat) (x y : UInt8) (hE : Pk.encode lo hi data ts code = (L, 0)) (hL : L.length = N) (hN : N ≤ 131072) (hN0 : 16 ≤ N) (hi0 : i < N) (h4 : i < 4)
    (hm : bits .and .i64 a 4611686018427387903 = (m : Int)) (hm2 : Int.tmod (m : Int) (N : Int) = (i : Int)) (hq : bits .and .i64 t 4611686018427387903 = (q : Int)) (hq2 : Int.tmod (q : Int) 255 = (r : Int)) (hr : r < 255)
    (hx : ∀ h : i < L.length, L[i] = x) (hxy : bits .xor .u8 (x.toNat : Int) ((1 : Int) + r) = (y.toNat : Int)) (hD : Pk.decode (L.set i y) = (Pk.C0, 0, 120)) :
    Calls Try.prog 6 #[.agg #[.int .i64 lo, .int .i64 hi, .slice A1 n1 c1, .slice A2 n2 c2, .slice A3 n3 c3], .int .i64 a, .int .i64 t] w fun e w' => e = .returned (.bool true) ∧ Ext w w' := by
  have HE := hd hE
  have HL := hd hL
  have HX := hd hx
  have HD := hd hD
  have HM := hd hm
  have HM2 := hd hm2
  have HQ := hd hq
  have HQ2 := hd hq2
  have HY := hd hxy
  have hw1 : IntKind.i64.wrap ((1 : Int) + (r : Int)) = 1 + (r : Int) := by rw [IntKind.wrap_i64]; omega
  have hw2 : IntKind.u8.wrap ((1 : Int) + (r : Int)) = 1 + (r : Int) := by rw [IntKind.wrap_u8]; omega
  have hw3 : IntKind.i64.wrap ((N : Int) - 4) = (N : Int) - 4 := by rw [IntKind.wrap_i64]; omega
  have HW1 := hd hw1
  have HW2 := hd hw2
  clear hE hL hx hD hm hm2 hq hq2 hxy hw1 hw2
  go_enter Try.func6, Try.ntmps6
  go_upto_region 1 with (fail)
  refine wp_world (fun W => Ext w W ∧ Blk W w.heap.size 25 #[.int .i64 lo, .int .i64 hi, .slice A1 n1 c1, .slice A2 n2 c2, .slice A3 n3 c3]) ⟨Ext.new _ _, Blk.new _ _ _⟩ ?_
  rintro W ⟨hX, hP⟩
  go_upto_region 6 with (first | (go_at_call 24; (with_reducible refine (awake_any _).mono ?_); rintro e w1 ⟨rfl, hX1⟩; have X1 := hX.trans hX1; obtain ⟨p0, p1, p2, p3, p4⟩ := (hP.ext hX1).c5) | (go_at_call 29; (with_reducible refine (CopyPack_any lo hi A1 A2 A3 n1 n2 n3 c1 c2 c3 data code ts _ (h1.ext X1) (h2.ext X1) (h3.ext X1) hn1 hn2 hn3).mono ?_); rintro e w2 ⟨B1, B2, B3, d1, d2, d3, rfl, o1, o2, o3, hX2⟩; clear p0 p1 p2 p3 p4) | (go_at_call 27; (with_reducible refine (Encode_any lo hi B1 B2 B3 n1 n2 n3 d1 d2 d3 data code ts _ (Rd.of_own o1) (Rd.of_own o2) (Rd.of_own o3) hn1 hn2 hn3).mono ?_); rw [HE.out]; intro e w3 hP3; obtain ⟨A, c, rfl, own1, hc1, rd1, hX3⟩ := hP3.at_ HL.out; have X3 := (X1.trans hX2).trans hX3; clear hP3 o1 o2 o3))
  have hm := HM.out
  have hm2 := HM2.out
  go_upto_region 8 with ((go_at_call 36; (with_reducible refine (CopyBytes_any A N c L _ rd1 (by omega)).mono ?_); rintro e w6 ⟨A6, c6, rfl, own6, hX6⟩))
  clear hm hm2
  obtain ⟨g, cs, rfl, hB, hg⟩ := own_block own6 (by omega)
  have rd6 := Rd.of_own own6
  have hc6 := own_le own6
  have hLi : i < L.length := by have := HL.out; omega
  obtain ⟨b, o, he, hcc⟩ := rd6.form (by omega) (by omega)
  injection he with he
  injection he with hb ho _
  subst hb ho
  have ci := hcc i _ (bv_get L i hLi)
  rw [HX.out hLi] at ci
  clear hcc
  have fi := hB.free (0 + i)
  have rd7 := rd6.upd hi0 (.int .u8 (y.toNat : Int))
  rw [← bv_set] at rd7
  rw [Nat.zero_add] at ci fi rd7
  have hX7 : Ext w (w6.setCell ⟨g, i, none⟩ (.int .u8 (y.toNat : Int))) := (X3.trans hX6).set (p := ⟨g, i, none⟩) (by have := X3.size; simp only; omega) _
  have hq := HQ.out
  have hq2 := HQ2.out
  have hw1 := HW1.out
  have hw2 := HW2.out
  have hxy := HY.out
  clear own6 own1 hB
  go_upto_region 9 with (fail)
  clear hq hq2 hw1 hw2 hxy ci fi
  go_upto_region 10 with ((go_at_call 39; (with_reducible refine (Decode_any (some ⟨g, 0, none⟩) N c6 (L.set i y) _ rd7 (by omega) hc6).mono ?_); rw [HD.out]; intro e w8 hP8; obtain ⟨D, e1, T, e2, C, e3, rfl, s1, s2, s3, hX8⟩ := hP8.at_ (m1 := 0) (m2 := 0) (m3 := 0) (p' := 0) rfl rfl rfl (by omega); clear hP8))
  refine wp_world (fun W9 => Ext w8 W9 ∧ Blk W9 w8.heap.size 25 #[.int .i64 0, .int .i64 0, .slice D 0 e1, .slice T 0 e2, .slice C 0 e3]) ⟨Ext.new _ _, Blk.new _ _ _⟩ ?_
  rintro W9 ⟨hX9, hM⟩
  obtain ⟨m0, m1, m2, m3, m4⟩ := hM.c5
  have X9 := (hX7.trans hX8).trans hX9
  go_wp2_with ((go_at_call 30; (with_reducible refine (SamePack_any 0 0 0 0 D T C none none none 0 0 0 e1 e2 e3 0 0 0 0 0 0 [] [] [] [] [] [] _ (s1.ext hX9) (s2.ext hX9) (s3.ext hX9) Rd.nil_ Rd.nil_ Rd.nil_ (by omega) (by omega)).mono ?_); rw [same_self]; rintro e w10 ⟨rfl, hX10⟩))
  go_ret
  exact ⟨rfl, X9.trans hX10⟩

set_option maxHeartbeats 2000000 in
theorem PackSums_hi (lo hi a t : Int) (A1 A2 A3 : Option Addr) (n1 n2 n3 c1 c2 c3 : Nat) (data code : List UInt8) (ts : List (Int × Int)) (w : World)
    (h1 : Rd w 1 A1 n1 (bv data)) (h2 : Rd w 2 A2 n2 (tv ts)) (h3 : Rd w 1 A3 n3 (bv code)) (hn1 : n1 ≤ 140737488355328) (hn2 : n2 * 16 ≤ 140737488355328) (hn3 : n3 ≤ 140737488355328)
    (L : List UInt8) (N i m q r : Nat) (x y : UInt8) (hE : Pk.encode lo hi data ts code = (L, 0)) (hL : L.length = N) (hN : N ≤ 131072) (hN0 : 16 ≤ N) (hi0 : i < N) (h4 : 4 ≤ i)
    (hm : bits .and .i64 a 4611686018427387903 = (m : Int)) (hm2 : Int.tmod (m : Int) (N : Int) = (i : Int)) (hq : bits .and .i64 t 4611686018427387903 = (q : Int)) (hq2 : Int.tmod (q : Int) 255 = (r : Int)) (hr : r < 255)
    (hx : ∀ h : i < L.length, L[i] = x) (hxy : bits .xor .u8 (x.toNat : Int) ((1 : Int) + r) = (y.toNat : Int)) (hD : Pk.decode (L.set i y) = (Pk.C0, N - 4, 124)) :
    Calls Try.prog 6 #[.agg #[.int .i64 lo, .int .i64 hi, .slice A1 n1 c1, .slice A2 n2 c2, .slice A3 n3 c3], .int .i64 a, .int .i64 t] w fun e w' => e = .returned (.bool true) ∧ Ext w w' := by
  have HE := hd hE
  have HL := hd hL
  have HX := hd hx
  have HD := hd hD
  have HM := hd hm
  have HM2 := hd hm2
  have HQ := hd hq
  have HQ2 := hd hq2
  have HY := hd hxy
  have hw1 : IntKind.i64.wrap ((1 : Int) + (r : Int)) = 1 + (r : Int) := by rw [IntKind.wrap_i64]; omega
  have hw2 : IntKind.u8.wrap ((1 : Int) + (r : Int)) = 1 + (r : Int) := by rw [IntKind.wrap_u8]; omega
  have hw3 : IntKind.i64.wrap ((N : Int) - 4) = (N : Int) - 4 := by rw [IntKind.wrap_i64]; omega
  have HW1 := hd hw1
  have HW2 := hd hw2
  clear hE hL hx hD hm hm2 hq hq2 hxy hw1 hw2
  go_enter Try.func6, Try.ntmps6
  go_upto_region 1 with (fail)
  refine wp_world (fun W => Ext w W ∧ Blk W w.heap.size 25 #[.int .i64 lo, .int .i64 hi, .slice A1 n1 c1, .slice A2 n2 c2, .slice A3 n3 c3]) ⟨Ext.new _ _, Blk.new _ _ _⟩ ?_
  rintro W ⟨hX, hP⟩
  go_upto_region 6 with (first | (go_at_call 24; (with_reducible refine (awake_any _).mono ?_); rintro e w1 ⟨rfl, hX1⟩; have X1 := hX.trans hX1; obtain ⟨p0, p1, p2, p3, p4⟩ := (hP.ext hX1).c5) | (go_at_call 29; (with_reducible refine (CopyPack_any lo hi A1 A2 A3 n1 n2 n3 c1 c2 c3 data code ts _ (h1.ext X1) (h2.ext X1) (h3.ext X1) hn1 hn2 hn3).mono ?_); rintro e w2 ⟨B1, B2, B3, d1, d2, d3, rfl, o1, o2, o3, hX2⟩; clear p0 p1 p2 p3 p4) | (go_at_call 27; (with_reducible refine (Encode_any lo hi B1 B2 B3 n1 n2 n3 d1 d2 d3 data code ts _ (Rd.of_own o1) (Rd.of_own o2) (Rd.of_own o3) hn1 hn2 hn3).mono ?_); rw [HE.out]; intro e w3 hP3; obtain ⟨A, c, rfl, own1, hc1, rd1, hX3⟩ := hP3.at_ HL.out; have X3 := (X1.trans hX2).trans hX3; clear hP3 o1 o2 o3))
  have hm := HM.out
  have hm2 := HM2.out
  go_upto_region 8 with ((go_at_call 36; (with_reducible refine (CopyBytes_any A N c L _ rd1 (by omega)).mono ?_); rintro e w6 ⟨A6, c6, rfl, own6, hX6⟩))
  clear hm hm2
  obtain ⟨g, cs, rfl, hB, hg⟩ := own_block own6 (by omega)
  have rd6 := Rd.of_own own6
  have hc6 := own_le own6
  have hLi : i < L.length := by have := HL.out; omega
  obtain ⟨b, o, he, hcc⟩ := rd6.form (by omega) (by omega)
  injection he with he
  injection he with hb ho _
  subst hb ho
  have ci := hcc i _ (bv_get L i hLi)
  rw [HX.out hLi] at ci
  clear hcc
  have fi := hB.free (0 + i)
  have rd7 := rd6.upd hi0 (.int .u8 (y.toNat : Int))
  rw [← bv_set] at rd7
  rw [Nat.zero_add] at ci fi rd7
  have hX7 : Ext w (w6.setCell ⟨g, i, none⟩ (.int .u8 (y.toNat : Int))) := (X3.trans hX6).set (p := ⟨g, i, none⟩) (by have := X3.size; simp only; omega) _
  have hq := HQ.out
  have hq2 := HQ2.out
  have hw1 := HW1.out
  have hw2 := HW2.out
  have hxy := HY.out
  clear own6 own1 hB
  go_upto_region 9 with (fail)
  clear hq hq2 hw1 hw2 hxy ci fi
  go_upto_region 10 with ((go_at_call 39; (with_reducible refine (Decode_any (some ⟨g, 0, none⟩) N c6 (L.set i y) _ rd7 (by omega) hc6).mono ?_); rw [HD.out]; intro e w8 hP8; obtain ⟨D, e1, T, e2, C, e3, rfl, s1, s2, s3, hX8⟩ := hP8.at_ (m1 := 0) (m2 := 0) (m3 := 0) (p' := (N : Int) - 4) rfl rfl rfl (by omega); clear hP8))
  refine wp_world (fun W9 => Ext w8 W9 ∧ Blk W9 w8.heap.size 25 #[.int .i64 0, .int .i64 0, .slice D 0 e1, .slice T 0 e2, .slice C 0 e3]) ⟨Ext.new _ _, Blk.new _ _ _⟩ ?_
  rintro W9 ⟨hX9, hM⟩
  obtain ⟨m0, m1, m2, m3, m4⟩ := hM.c5
  have X9 := (hX7.trans hX8).trans hX9
  go_wp2_with ((go_at_call 30; (with_reducible refine (SamePack_any 0 0 0 0 D T C none none none 0 0 0 e1 e2 e3 0 0 0 0 0 0 [] [] [] [] [] [] _ (s1.ext hX9) (s2.ext hX9) (s3.ext hX9) Rd.nil_ Rd.nil_ Rd.nil_ (by omega) (by omega)).mono ?_); rw [same_self]; rintro e w10 ⟨rfl, hX10⟩))
  go_ret
  exact ⟨rfl, X9.trans hX10⟩

theorem tmod_nat (m n : Nat) : Int.tmod (m : Int) (n : Int) = ((m % n : Nat) : Int) := rfl

theorem PackSums_any (lo hi a t : Int) (A1 A2 A3 : Option Addr) (n1 n2 n3 c1 c2 c3 : Nat) (data code : List UInt8) (ts : List (Int × Int)) (w : World)
    (h1 : Rd w 1 A1 n1 (bv data)) (h2 : Rd w 2 A2 n2 (tv ts)) (h3 : Rd w 1 A3 n3 (bv code)) (hn1 : n1 ≤ 140737488355328) (hn2 : n2 * 16 ≤ 140737488355328) (hn3 : n3 ≤ 140737488355328) :
    Calls Try.prog 6 #[.agg #[.int .i64 lo, .int .i64 hi, .slice A1 n1 c1, .slice A2 n2 c2, .slice A3 n3 c3], .int .i64 a, .int .i64 t] w fun e w' => e = .returned (.bool true) ∧ Ext w w' := by
  rcases enc_cases lo hi data ts code with ⟨n, hn, hE⟩ | ⟨L, N, hE, hL, hN0, hN, hB, _, hD⟩
  · exact PackSums_bad lo hi a t A1 A2 A3 n1 n2 n3 c1 c2 c3 data code ts w h1 h2 h3 hn1 hn2 hn3 n hn hE
  · obtain ⟨m, hm, em⟩ := mask_lt a
    obtain ⟨q, hq, eq⟩ := mask_lt t
    have hi0 : m % N < L.length := by rw [hL]; exact Nat.mod_lt _ (by omega)
    have hr : q % 255 < 255 := Nat.mod_lt _ (by omega)
    have hz : (UInt8.ofNat (1 + q % 255)).toNat = 1 + q % 255 := UInt8.toNat_ofNat_of_lt' (by simp [UInt8.size]; omega)
    have hy : UInt8.ofNat (1 + q % 255) ≠ 0 := fun e => by rw [e] at hz; simp at hz; omega
    have hxy := xor_u8 L[m % N] (UInt8.ofNat (1 + q % 255))
    rw [hz] at hxy
    have hDc : Pk.decode (L.set (m % N) (L[m % N] ^^^ UInt8.ofNat (1 + q % 255))) = if m % N < 4 then (Pk.C0, 0, 120) else (Pk.C0, N - 4, 124) := by
      subst hB
      refine (Pk.decode_changed lo hi data ts code (by omega) (m % N) hi0 _ (xor_ne hy)).trans ?_
      rw [hL]
    by_cases h4 : m % N < 4
    · rw [if_pos h4] at hDc
      exact PackSums_lo lo hi a t A1 A2 A3 n1 n2 n3 c1 c2 c3 data code ts w h1 h2 h3 hn1 hn2 hn3 L N (m % N) m q (q % 255) L[m % N] _ hE hL hN hN0 (by omega) h4 em (tmod_nat m N) eq (tmod_nat q 255) hr (fun _ => rfl) (by rw [← hxy]; rfl) hDc
    · rw [if_neg h4] at hDc
      exact PackSums_hi lo hi a t A1 A2 A3 n1 n2 n3 c1 c2 c3 data code ts w h1 h2 h3 hn1 hn2 hn3 L N (m % N) m q (q % 255) L[m % N] _ hE hL hN hN0 (by omega) (by omega) em (tmod_nat m N) eq (tmod_nat q 255) hr (fun _ => rfl) (by rw [← hxy]; rfl) hDc

end Go.Proofs.Ytfcbedkidjclhaa
