/-
  The walk of PackRefuses: it answers true.
  Conditions: the program's lists can be read, no more than may be handed in.
-/
import Derived.Test.YtfcbedkidjclhaaWalkF
namespace Go.Proofs.Ytfcbedkidjclhaa
open Go.RowKit
set_option maxRecDepth 100000
set_option linter.unusedSimpArgs false
set_option linter.unusedVariables false

theorem mask_of (b : Int) (k : Nat) (hk : k < 9223372036854775808) : ∃ m : Nat, m ≤ k ∧ bits .and .i64 b (k : Int) = (m : Int) := by
  have h : ((BitVec.ofInt 64 b &&& BitVec.ofInt 64 (k : Int)).toNat : Int) ≤ k := by
    rw [BitVec.toNat_and]
    have := @Nat.and_le_right (BitVec.ofInt 64 b).toNat (BitVec.ofInt 64 (k : Int)).toNat
    have e : (BitVec.ofInt 64 (k : Int)).toNat = k := by rw [BitVec.ofInt_natCast, BitVec.toNat_ofNat]; exact Nat.mod_eq_of_lt (by omega)
    omega
  refine ⟨(BitVec.ofInt 64 b &&& BitVec.ofInt 64 (k : Int)).toNat, by omega, ?_⟩
  show IntKind.i64.wrap ((BitVec.ofInt 64 b &&& BitVec.ofInt 64 (k : Int)).toNat : Int) = _
  rw [IntKind.wrap_i64]
  omega
theorem Rd.blkP {w : World} {g : Nat} {t : TypeId} {cs : Array Value} {l : List Cd.Ins} {n : Nat} (h : Blk w g t cs) (hc : cs.toList = cv l) (hn : l.length = n := by rfl) : Rd w 8 (some ⟨g, 0, none⟩) n (cv l) := by
  refine ⟨by rw [cv_length, hn], fun _ => ⟨_, rfl, fun j u hj => ?_⟩⟩
  rw [show (⟨g, 0, none⟩ : Addr).add j = ⟨g, j, none⟩ by unfold Addr.add; split <;> simp_all, h.cell j]
  rw [← hc] at hj
  simpa using hj
theorem c41 {W : World} {gq gk : Nat} {a b c d e a' b' c' d' e' : Value} (h : Blk W gq 90 #[a, b, c, d, e]) (h' : Blk W gk 25 #[a', b', c', d', e']) : W.cell? ⟨gq, 0, none⟩ = some a ∧ W.cell? ⟨gq, 1, none⟩ = some b ∧ W.cell? ⟨gq, 2, none⟩ = some c ∧ W.cell? ⟨gq, 3, none⟩ = some d ∧ W.cell? ⟨gk, 4, none⟩ = some e' :=
  ⟨h.cell 0, h.cell 1, h.cell 2, h.cell 3, h'.cell 4⟩
theorem made_zero (n : Nat) : (madeCells (Value.int .u8 0).cells (n * 1)).toList = bv (List.replicate n 0) := by
  apply List.ext_getElem
  · simp [madeCells, bv]
  · intro i h1 h2
    simp [madeCells, bv, Value.cells, Nat.mod_one]
theorem own_ty_ne {w : World} {base base' : Nat} {e e' : TypeId} {sz sz' n n' : Nat} {v v' : Value} {xs xs' : List Value} (h : w.ownsRow base e sz v n xs) (h' : w.ownsRow base' e' sz' v' n' xs') (hne : e ≠ e') : v.ownBlock = none ∨ v.ownBlock ≠ v'.ownBlock := by
  rcases h'.2 with ⟨rfl, _⟩ | ⟨g', cap, cur, rfl, _, hh, _⟩
  · cases hv : v.ownBlock with
    | none => exact .inl rfl
    | some k => right; simp [Value.ownBlock]
  · exact .inr (by simpa [Value.ownBlock] using own_blk_ne h hh hne)

/-- a program of the caller's own, in a box: what may be turned of it -/
structure QS (wb W : World) (gq : Nat) (p : Pk.P) (v1 v2 v3 : Value) (n1 n2 n3 : Nat) : Prop where
  ext : Ext wb W
  blk : Blk W gq 90 #[.int .i64 p.lo, .int .i64 p.hi, v1, v2, v3]
  o1 : W.ownsRow wb.heap.size 5 1 v1 n1 (bv p.data)
  o2 : W.ownsRow wb.heap.size 54 2 v2 n2 (tv p.ts)
  o3 : W.ownsRow wb.heap.size 64 8 v3 n3 (cv p.code)
  ge : wb.heap.size ≤ gq
section
variable {wb W : World} {gq : Nat} {p : Pk.P} {v1 v2 v3 : Value} {n1 n2 n3 : Nat}
theorem QS.ne1 (h : QS wb W gq p v1 v2 v3 n1 n2 n3) : v1.ownBlock ≠ some gq := own_blk_ne h.o1 h.blk (by decide)
theorem QS.ne2 (h : QS wb W gq p v1 v2 v3 n1 n2 n3) : v2.ownBlock ≠ some gq := own_blk_ne h.o2 h.blk (by decide)
theorem QS.ne3 (h : QS wb W gq p v1 v2 v3 n1 n2 n3) : v3.ownBlock ≠ some gq := own_blk_ne h.o3 h.blk (by decide)
theorem QS.lo (h : QS wb W gq p v1 v2 v3 n1 n2 n3) (x : Int) : QS wb (W.setCell ⟨gq, 0, none⟩ (.int .i64 x)) gq { p with lo := x } v1 v2 v3 n1 n2 n3 :=
  ⟨h.ext.set (p := ⟨gq, 0, none⟩) h.ge _, h.blk.set_ 0 _, own_set h.o1 (p := ⟨gq, 0, none⟩) h.ne1 _, own_set h.o2 (p := ⟨gq, 0, none⟩) h.ne2 _, own_set h.o3 (p := ⟨gq, 0, none⟩) h.ne3 _, h.ge⟩
theorem QS.hi (h : QS wb W gq p v1 v2 v3 n1 n2 n3) (x : Int) : QS wb (W.setCell ⟨gq, 1, none⟩ (.int .i64 x)) gq { p with hi := x } v1 v2 v3 n1 n2 n3 :=
  ⟨h.ext.set (p := ⟨gq, 1, none⟩) h.ge _, h.blk.set_ 1 _, own_set h.o1 (p := ⟨gq, 1, none⟩) h.ne1 _, own_set h.o2 (p := ⟨gq, 1, none⟩) h.ne2 _, own_set h.o3 (p := ⟨gq, 1, none⟩) h.ne3 _, h.ge⟩
theorem QS.far (h : QS wb W gq p v1 v2 v3 n1 n2 n3) {W' : World} (hX : Ext W W') : QS wb W' gq p v1 v2 v3 n1 n2 n3 :=
  ⟨h.ext.trans hX, h.blk.ext hX, hX.own h.o1, hX.own h.o2, hX.own h.o3, h.ge⟩
theorem QS.ts {W' : World} {v' : Value} {n' : Nat} {ts' : List (Int × Int)} (h : QS wb W gq p v1 v2 v3 n1 n2 n3) (ha : App W W' v2 v') (ho : W'.ownsRow wb.heap.size 54 2 v' n' (tv ts')) :
    QS wb (W'.setCell ⟨gq, 3, none⟩ v') gq { p with ts := ts' } v1 v' v3 n1 n' n3 := by
  have hb := ha.blk h.blk h.ne2
  have k1 := ha.own h.o1 (own_ty_ne h.o1 h.o2 (by decide))
  have k3 := ha.own h.o3 (own_ty_ne h.o3 h.o2 (by decide))
  exact ⟨(ha.ext_own h.ext h.o2 (Nat.le_refl _)).set (p := ⟨gq, 3, none⟩) h.ge _, hb.set_ 3 _, own_set k1 (p := ⟨gq, 3, none⟩) (own_blk_ne k1 hb (by decide)) _, own_set ho (p := ⟨gq, 3, none⟩) (own_blk_ne ho hb (by decide)) _, own_set k3 (p := ⟨gq, 3, none⟩) (own_blk_ne k3 hb (by decide)) _, h.ge⟩
theorem QS.code {W' : World} {v' : Value} {n' : Nat} {l' : List Cd.Ins} (h : QS wb W gq p v1 v2 v3 n1 n2 n3) (ha : App W W' v3 v') (ho : W'.ownsRow wb.heap.size 64 8 v' n' (cv l')) :
    QS wb (W'.setCell ⟨gq, 4, none⟩ v') gq { p with code := l' } v1 v2 v' n1 n2 n' := by
  have hb := ha.blk h.blk h.ne3
  have k1 := ha.own h.o1 (own_ty_ne h.o1 h.o3 (by decide))
  have k2 := ha.own h.o2 (own_ty_ne h.o2 h.o3 (by decide))
  exact ⟨(ha.ext_own h.ext h.o3 (Nat.le_refl _)).set (p := ⟨gq, 4, none⟩) h.ge _, hb.set_ 4 _, own_set k1 (p := ⟨gq, 4, none⟩) (own_blk_ne k1 hb (by decide)) _, own_set k2 (p := ⟨gq, 4, none⟩) (own_blk_ne k2 hb (by decide)) _, own_set ho (p := ⟨gq, 4, none⟩) (own_blk_ne ho hb (by decide)) _, h.ge⟩
theorem QS.data {W' : World} {v' : Value} {n' : Nat} {d' : List UInt8} (h : QS wb W gq p v1 v2 v3 n1 n2 n3) (hX : Ext W W') (ho : W'.ownsRow wb.heap.size 5 1 v' n' (bv d')) :
    QS wb (W'.setCell ⟨gq, 2, none⟩ v') gq { p with data := d' } v' v2 v3 n' n2 n3 := by
  have k := h.far hX
  exact ⟨k.ext.set (p := ⟨gq, 2, none⟩) h.ge _, k.blk.set_ 2 _, own_set ho (p := ⟨gq, 2, none⟩) (own_blk_ne ho k.blk (by decide)) _, own_set k.o2 (p := ⟨gq, 2, none⟩) k.ne2 _, own_set k.o3 (p := ⟨gq, 2, none⟩) k.ne3 _, h.ge⟩
end

/-- what is said of the turned program: its error, its place; of it as a container -/
def Says (p q : Pk.P) (kc : List UInt8) (want : Int) (at_ : Nat) : Prop :=
  want ≠ 0 ∧ q.data.length ≤ 5000 ∧ q.ts.length ≤ 9 ∧ q.code.length ≤ 4096 ∧ Pk.pcheck q = (at_, want) ∧ Pk.pof q = (Pk.C0, at_, want) ∧
    ((at_ = 0 ∧ Pk.encode q.lo q.hi q.data q.ts kc = ([], want) ∧ Pk.pprog ⟨q.lo, q.hi, q.data, q.ts, kc⟩ = (Pk.P0, 0, want)) ∨ (0 < at_ ∧ q.lo = p.lo ∧ q.hi = p.hi ∧ q.data = p.data ∧ q.ts = p.ts))
theorem says_bad {p q : Pk.P} {kc : List UInt8} {want : Int} (h : Pk.sizes q.lo q.hi q.data.length q.ts = want) (h0 : want ≠ 0) (h1 : q.data.length ≤ 5000) (h2 : q.ts.length ≤ 9) (h3 : q.code.length ≤ 4096) : Says p q kc want 0 := by
  obtain ⟨a, b⟩ := Pk.bad_check h h0
  obtain ⟨c, d⟩ := Pk.bad_pack (k := ⟨q.lo, q.hi, q.data, q.ts, kc⟩) h h0
  exact ⟨h0, h1, h2, h3, a, b, .inl ⟨rfl, c, d⟩⟩
theorem says_beyond {p : Pk.P} {kc : List UInt8} (h : (Pk.pcheck p).2 = 0) (hl : p.code.length < 4096) (y : Int) (h0 : 0 ≤ y) (h1 : y ≤ 65535) :
    Says p { p with code := p.code ++ [⟨21, false, false, 0, 0, 0, 0, (p.data.length : Int) + 1 + y⟩] } kc 123 p.code.length := by
  obtain ⟨a, b⟩ := Pk.beyond h hl y h0 h1
  obtain ⟨c1, c2, c3, c4, c5, c6⟩ := Pk.check_fine h
  obtain ⟨s1, s2, s3, s4, s5, s6⟩ := Pk.sizes_ok c2
  refine ⟨by decide, by dsimp only; omega, by dsimp only; omega, by simp; omega, a, b, .inr ⟨?_, rfl, rfl, rfl, rfl⟩⟩
  cases hp : p.code with
  | nil => exact absurd hp c5
  | cons _ _ => simp

set_option maxHeartbeats 4000000 in
theorem PackRefuses_any (lo hi kind x : Int) (A1 A2 A3 : Option Addr) (n1 n2 n3 c1 c2 c3 : Nat) (data : List UInt8) (code : List Cd.Ins) (ts : List (Int × Int)) (w : World)
    (h1 : Rd w 1 A1 n1 (bv data)) (h2 : Rd w 2 A2 n2 (tv ts)) (h3 : Rd w 8 A3 n3 (cv code))
    (hn1 : n1 ≤ 140737488355328) (hn2 : n2 * 16 ≤ 140737488355328) (hn3 : n3 * 56 ≤ 140737488355328) (hin : Cd.AllIn code) :
    Calls Try.prog 23 #[.agg #[.int .i64 lo, .int .i64 hi, .slice A1 n1 c1, .slice A2 n2 c2, .slice A3 n3 c3], .int .i64 kind, .int .i64 x] w fun e w' => e = .returned (.bool true) ∧ Ext w w' := by
  have L1 := hd (show data.length = n1 by have := h1.1; rw [bv_length] at this; omega)
  have L2 := hd (show ts.length = n2 by have := h2.1; rw [tv_length] at this; omega)
  have L3 := hd (show code.length = n3 by have := h3.1; rw [cv_length] at this; omega)
  obtain ⟨i, e, hc⟩ : ∃ i e, Pk.pcheck ⟨lo, hi, data, ts, code⟩ = (i, e) := ⟨_, _, rfl⟩
  have HC := hd hc
  by_cases h0 : e = 0
  · subst h0
    have hch : (Pk.pcheck ⟨lo, hi, data, ts, code⟩).2 = 0 := by rw [hc]
    have hok := Pk.of_ok hch hin
    have hfine := Pk.check_fine hch
    have hsz := Pk.sizes_ok hfine.2.1
    have hi0 : i = 0 := by have := hfine.1; rw [hc] at this; exact congrArg Prod.fst this
    subst hi0
    obtain ⟨F, hF⟩ : ∃ F, Cd.flat code = F := ⟨_, rfl⟩
    rw [hF] at hok
    obtain ⟨o1, o2, o3, o4, o5⟩ := hok
    obtain ⟨BB, hBB⟩ : ∃ BB, Pk.bytes lo hi data ts F = BB := ⟨_, rfl⟩
    simp only [hBB] at o3
    have HO := hd o1
    have HE := hd o3
    have HPR := hd o5
    have HCH := hd hch
    have HF := hd hfine
    obtain ⟨z1, z2, z3, z4, z5, z6⟩ := hsz
    dsimp only at z1 z2 z3 z4 z5 z6
    rw [L1.out] at z6
    rw [L2.out] at z4
    have hl4 : n3 ≤ 4096 := by have := hfine.2.2.2.1; dsimp only at this; rw [L3.out] at this; exact this
    clear o4 o1 o3 o5 hch hfine hBB hF hc
    obtain ⟨N3, hN3⟩ : ∃ N, F.length = N := ⟨_, rfl⟩
    have LF := hd hN3
    rw [hN3] at o2
    clear hN3
    go_enter Try.func23, Try.ntmps23
    go_upto_region 1 with (fail)
    refine wp_world (fun W => Ext w W ∧ Blk W w.heap.size 90 #[.int .i64 lo, .int .i64 hi, .slice A1 n1 c1, .slice A2 n2 c2, .slice A3 n3 c3]) ⟨Ext.new _ _, Blk.new _ _ _⟩ ?_
    generalize w.heap.size = g
    rintro W ⟨hX, hP⟩
    go_upto_region 4 with (first | (go_at_call 24; (with_reducible refine (awake_any _).mono ?_); rintro e w1 ⟨rfl, hX1⟩; obtain ⟨p0, p1, p2, p3, p4⟩ := (hP.ext hX1).c5; have X1 := hX.trans hX1) | (go_at_call 64; (with_reducible refine (CopyProgram_any lo hi A1 A2 A3 n1 n2 n3 c1 c2 c3 data code ts _ (h1.ext X1) (h2.ext X1) (h3.ext X1) hn1 hn2 hn3).mono ?_); rintro e w2 ⟨B1, B2, B3, d1, d2, d3, rfl, o1, o2, o3, hX2⟩) | (go_at_call 62; (with_reducible refine (PCheck_any lo hi B1 B2 B3 n1 n2 n3 d1 d2 d3 data code ts _ (Rd.of_own o1) (Rd.of_own o2) (Rd.of_own o3) hn1 hn2 hn3).mono ?_); rw [HC.out]; rintro e w3 ⟨rfl, hX3⟩))
    have Y3 := (hX1.trans hX2).trans hX3
    have hP3 := hP.ext Y3
    have X3 := hX.trans Y3
    clear hP hX hX1 hX2 hX3 X1 Y3 p0 p1 p2 p3 p4 o1 o2 o3
    obtain ⟨p0, p1, p2, p3, p4⟩ := hP3.c5
    go_upto_region 7 with (first | (go_at_call 64; (with_reducible refine (CopyProgram_any lo hi A1 A2 A3 n1 n2 n3 c1 c2 c3 data code ts _ (h1.ext X3) (h2.ext X3) (h3.ext X3) hn1 hn2 hn3).mono ?_); rintro e w4 ⟨B1, B2, B3, d1, d2, d3, rfl, o1, o2, o3, hX4⟩) | (go_at_call 60; (with_reducible refine (POf_any lo hi B1 B2 B3 n1 n2 n3 d1 d2 d3 data code ts _ (Rd.of_own o1) (Rd.of_own o2) (Rd.of_own o3) hn1 hn2 hn3).mono ?_); rw [HO.out]; intro e w5 hPo; obtain ⟨D, e1, T, e2, C, e3, rfl, s1, s2, s3, sc, hX5⟩ := hPo.atc (m1 := n1) (m2 := n2) (m3 := N3) (p' := 0) L1.out L2.out LF.out rfl; clear hPo))
    refine wp_world (fun W8 => Ext w5 W8 ∧ Blk W8 w5.heap.size 25 #[.int .i64 lo, .int .i64 hi, .slice D n1 e1, .slice T n2 e2, .slice C N3 e3]) ⟨Ext.new _ _, Blk.new _ _ _⟩ ?_
    generalize w5.heap.size = gk
    rintro W6 ⟨hX6, hK6⟩
    have Y6 := (hX4.trans hX5).trans hX6
    have hP6 := hP3.ext Y6
    have X6 := X3.trans Y6
    have k1 := s1.ext hX6
    have k2 := s2.ext hX6
    have k3 := s3.ext hX6
    clear hP3 hX4 hX5 hX6 X3 Y6 p0 p1 p2 p3 p4 o1 o2 o3
    obtain ⟨p0, p1, p2, p3, p4⟩ := hP6.c5
    go_upto_region 8 with (go_at_call 64; (with_reducible refine (CopyProgram_any lo hi A1 A2 A3 n1 n2 n3 c1 c2 c3 data code ts _ (h1.ext X6) (h2.ext X6) (h3.ext X6) hn1 hn2 hn3).mono ?_); rintro e w7 ⟨B1, B2, B3, d1, d2, d3, rfl, o1, o2, o3, hX7⟩)
    refine wp_world (fun W8 => QS W6 W8 w7.heap.size ⟨lo, hi, data, ts, code⟩ (.slice B1 n1 d1) (.slice B2 n2 d2) (.slice B3 n3 d3) n1 n2 n3) ⟨hX7.trans (Ext.new _ _), Blk.new _ _ _, o1.alloc _, o2.alloc _, o3.alloc _, hX7.size⟩ ?_
    generalize w7.heap.size = gq
    intro W8 hQ
    clear o1 o2 o3 hX7 p0 p1 p2 p3 p4
    obtain ⟨y, hy, ey'⟩ := mask_of x 65535 (by omega)
    obtain ⟨y8, hy8, ey8'⟩ := mask_of x 255 (by omega)
    obtain ⟨m, hm, em'⟩ := mask_of kind 4611686018427387903 (by omega)
    have ey : bits .and .i64 x 65535 = (y : Int) := ey'
    have ey8 : bits .and .i64 x 255 = (y8 : Int) := ey8'
    have em : bits .and .i64 kind 4611686018427387903 = (m : Int) := em'
    clear ey' ey8' em'
    obtain ⟨r, hr⟩ : ∃ r, m % 7 = r := ⟨_, rfl⟩
    have er : Int.tmod (m : Int) 7 = (r : Int) := by rw [← hr]; rfl
    have hr7 : r < 7 := by omega
    clear hr
    go_upto_block 0 with (fail)
    go_cut [13, 14] from 55 to 119 (fun wt at_ W => ∃ (q : Pk.P) (B1 B2 B3 : Option Addr) (m1 m2 m3 f1 f2 f3 : Nat) (want : Int) (k : Nat), wt = .int .i64 want ∧ at_ = .int .i64 k ∧ QS W6 W gq q (.slice B1 m1 f1) (.slice B2 m2 f2) (.slice B3 m3 f3) m1 m2 m3 ∧ Hid (Says ⟨lo, hi, data, ts, code⟩ q F want k))
    case first =>
      obtain ⟨q0, q1, q2, q3, q4⟩ := hQ.blk.c5
      obtain ⟨f0, f1, f2, f3, f4⟩ := hQ.blk.f5
      rcases (by omega : r = 0 ∨ r = 1 ∨ r = 2 ∨ r = 3 ∨ r = 4 ∨ r = 5 ∨ r = 6) with rfl | rfl | rfl | rfl | rfl | rfl | rfl
      · go_wp2
        go_meet
        case rel =>
          refine ⟨_, B1, B2, B3, n1, n2, n3, d1, d2, d3, 121, 0, rfl, rfl, hQ.lo _, hd (says_bad (Pk.sizes_lens ?_) (by decide) ?_ ?_ ?_)⟩
          · dsimp only; omega
          · dsimp only; rw [L1.out]; omega
          · dsimp only; rw [L2.out]; omega
          · dsimp only; rw [L3.out]; omega
      · go_wp2
        go_meet
        case rel =>
          refine ⟨_, B1, B2, B3, n1, n2, n3, d1, d2, d3, 121, 0, rfl, rfl, hQ.hi _, hd (says_bad (Pk.sizes_lens ?_) (by decide) ?_ ?_ ?_)⟩
          · dsimp only; omega
          · dsimp only; rw [L1.out]; omega
          · dsimp only; rw [L2.out]; omega
          · dsimp only; rw [L3.out]; omega
      · go_wp2
        go_meet
        case rel =>
          refine ⟨_, B1, B2, B3, n1, n2, n3, d1, d2, d3, 121, 0, rfl, rfl, hQ.lo _, hd (says_bad (Pk.sizes_lens ?_) (by decide) ?_ ?_ ?_)⟩
          · dsimp only; omega
          · dsimp only; rw [L1.out]; omega
          · dsimp only; rw [L2.out]; omega
          · dsimp only; rw [L3.out]; omega
      · obtain ⟨i0, hi0, hz0, hz1, hz2⟩ := info_parts info54
        go_wp2_with (at_builtin; refine wpList_app _ rfl _ _ 23 rfl W6.heap.size 54 i0 _ 2 16 Try.underlying23 hi0 hz0 hz1 hz2 rfl (by omega) (.slice B2 n2 d2) n2 (tv ts) rfl (hQ.o2.alloc _) (some ⟨W8.heap.size, 0, none⟩) 1 1 [.int .i64 (65 + (y : Int)), .int .i64 (1)] rfl (Rd.pair _ _ _ _) (oneCell_two _ _ _ _) (by omega) (by omega) (by have := hQ.ext.size; simp; omega) ?_; intro v9 w9 hown9 hg9 hat9; have hA := (App.of_ext (Ext.new W8 _) _).trans (App.of_law hg9 hat9); obtain ⟨B9, d9, rfl, -⟩ := own_form hown9; obtain ⟨q0, q1, q2, q3, q4⟩ := (hA.blk hQ.blk hQ.ne2).c5; obtain ⟨f0, f1, f2, f3, f4⟩ := (hA.blk hQ.blk hQ.ne2).f5)
        go_meet
        case rel =>
          refine ⟨_, B1, B9, B3, n1, n2 + 1, n3, d1, d9, d3, 122, 0, rfl, rfl, hQ.ts (ts' := ts ++ [(65 + (y : Int), 1)]) hA (by rw [show tv (ts ++ [(65 + (y : Int), 1)]) = tv ts ++ [.int .i64 (65 + (y : Int)), .int .i64 (1)] by simp [tv]]; exact hown9), hd (says_bad (Pk.sizes_table z1 z2 z3 _ ?_) (by decide) ?_ ?_ ?_)⟩
          · simp [Pk.wrongB]; omega
          · dsimp only; rw [L1.out]; omega
          · dsimp only; rw [List.length_append, L2.out]; simp; omega
          · dsimp only; rw [L3.out]; omega
      · obtain ⟨i0, hi0, hz0, hz1, hz2⟩ := info_parts info54
        go_wp2_with (at_builtin; refine wpList_app _ rfl _ _ 23 rfl W6.heap.size 54 i0 _ 2 16 Try.underlying23 hi0 hz0 hz1 hz2 rfl (by omega) (.slice B2 n2 d2) n2 (tv ts) rfl (hQ.o2.alloc _) (some ⟨W8.heap.size, 0, none⟩) 1 1 [.int .i64 (1), .int .i64 (-(y : Int))] rfl (Rd.pair _ _ _ _) (oneCell_two _ _ _ _) (by omega) (by omega) (by have := hQ.ext.size; simp; omega) ?_; intro v9 w9 hown9 hg9 hat9; have hA := (App.of_ext (Ext.new W8 _) _).trans (App.of_law hg9 hat9); obtain ⟨B9, d9, rfl, -⟩ := own_form hown9; obtain ⟨q0, q1, q2, q3, q4⟩ := (hA.blk hQ.blk hQ.ne2).c5; obtain ⟨f0, f1, f2, f3, f4⟩ := (hA.blk hQ.blk hQ.ne2).f5)
        go_meet
        case rel =>
          refine ⟨_, B1, B9, B3, n1, n2 + 1, n3, d1, d9, d3, 122, 0, rfl, rfl, hQ.ts (ts' := ts ++ [(1, -(y : Int))]) hA (by rw [show tv (ts ++ [(1, -(y : Int))]) = tv ts ++ [.int .i64 (1), .int .i64 (-(y : Int))] by simp [tv]]; exact hown9), hd (says_bad (Pk.sizes_table z1 z2 z3 _ ?_) (by decide) ?_ ?_ ?_)⟩
          · simp [Pk.wrongB]; omega
          · dsimp only; rw [L1.out]; omega
          · dsimp only; rw [List.length_append, L2.out]; simp; omega
          · dsimp only; rw [L3.out]; omega
      · obtain ⟨i0, hi0, hz0, hz1, hz2⟩ := info_parts info5
        go_wp2_with (at_make; refine wpList_make_full _ rfl (.tmp 118) (.tmp 118) 22 rfl W6.heap.size 5 i0 _ 1 Try.underlying22 hi0 hz0 hz1 .i64 .i64 (4097 + (y8 : Int)) (4097 + (y8 : Int)) (4097 + y8) rfl rfl (by omega) (by omega) (by rw [hz2]; omega) (by unfold maxLen; omega) hQ.ext.size ?_; intro w9 hown9 hg9; have hX9 := (Ext.refl W8).grown hg9 (by simp); obtain ⟨q0, q1, q2, q3, q4⟩ := (hQ.blk.ext hX9).c5; obtain ⟨f0, f1, f2, f3, f4⟩ := (hQ.blk.ext hX9).f5)
        go_meet
        case rel =>
          rw [made_zero] at hown9
          refine ⟨_, _, B2, B3, 4097 + y8, n2, n3, _, d2, d3, 123, 0, rfl, rfl, hQ.data hX9 hown9, hd (says_bad (Pk.sizes_data HF.out.2.1 ?_) (by decide) ?_ ?_ ?_)⟩
          · dsimp only; rw [List.length_replicate]; omega
          · dsimp only; rw [List.length_replicate]; omega
          · dsimp only; rw [L2.out]; omega
          · dsimp only; rw [L3.out]; omega
      · by_cases h96 : 4096 ≤ n3
        · have e96 : (4096 : Int) ≤ (n3 : Int) := by omega
          go_wp2
          go_ret
          exact ⟨rfl, X6.trans hQ.ext⟩
        · have e96 : ¬ ((4096 : Int) ≤ (n3 : Int)) := by omega
          obtain ⟨i0, hi0, hz0, hz1, hz2⟩ := info_parts info64
          have hsy := says_beyond (p := ⟨lo, hi, data, ts, code⟩) (kc := F) HCH.out (by dsimp only; rw [L3.out]; omega) (y : Int) (by omega) (by omega)
          dsimp only at hsy
          rw [L1.out, L3.out] at hsy
          have HSY := hd hsy
          clear hsy
          go_wp2_with (at_builtin; go_loud (refine wpList_app _ rfl _ _ 57 rfl W6.heap.size 64 i0 _ 8 56 Try.underlying57 hi0 hz0 hz1 hz2 rfl (by omega) (.slice B3 n3 d3) n3 (cv code) rfl (hQ.o3.alloc _) (some ⟨W8.heap.size, 0, none⟩) 1 1 (cv [⟨21, false, false, 0, 0, 0, 0, (n1 : Int) + 1 + (y : Int)⟩]) rfl (Rd.blkP (Blk.new W8 64 _) rfl) (cv_oneP _) (by omega) (by omega) (by have := hQ.ext.size; simp; omega) ?_); intro v9 w9 hown9 hg9 hat9; have hA := (App.of_ext (Ext.new W8 _) _).trans (App.of_law hg9 hat9); obtain ⟨B9, d9, rfl, -⟩ := own_form hown9; obtain ⟨q0, q1, q2, q3, q4⟩ := (hA.blk hQ.blk hQ.ne3).c5; obtain ⟨f0, f1, f2, f3, f4⟩ := (hA.blk hQ.blk hQ.ne3).f5)
          go_meet
          case rel => exact ⟨_, B1, B2, B9, n1, n2, n3 + 1, d1, d2, d9, 123, n3, rfl, rfl, hQ.code (l' := code ++ [⟨21, false, false, 0, 0, 0, 0, (n1 : Int) + 1 + (y : Int)⟩]) hA (by rw [cv_append]; exact hown9), HSY⟩
    case rest =>
      obtain ⟨q, B1, B2, B3, m1, m2, m3, f1, f2, f3, want, k, rfl, rfl, hQ, HS⟩ := hcut
      obtain ⟨qlo, qhi, qd, qt, qc⟩ := q
      obtain ⟨ew, l1, l2, l3, cq, oq, hcase⟩ := HS.out
      dsimp only at l1 l2 l3 hcase
      have M1 := hd (show qd.length = m1 by have := hQ.o1.1; dsimp only at this; rw [bv_length] at this; omega)
      have M2 := hd (show qt.length = m2 by have := hQ.o2.1; dsimp only at this; rw [tv_length] at this; omega)
      have M3 := hd (show qc.length = m3 by have := hQ.o3.1; dsimp only at this; rw [cv_length] at this; omega)
      rw [M1.out] at l1
      rw [M2.out] at l2
      rw [M3.out] at l3
      have HCQ := hd cq
      have HOQ := hd oq
      have HCASE := hd hcase
      clear cq oq hcase HS
      have hK := hK6.ext hQ.ext
      have X8 := X6.trans hQ.ext
      have hB := hQ.blk
      dsimp only at hB
      have t1 := Rd.of_own hQ.o1
      have t2 := Rd.of_own hQ.o2
      have t3 := Rd.of_own hQ.o3
      have k1 := k1.ext hQ.ext
      have k2 := k2.ext hQ.ext
      have k3 := k3.ext hQ.ext
      clear hQ hK6 X6 hP6
      dsimp only at t1 t2 t3
      obtain ⟨p0, p1, p2, p3, p4⟩ := hB.c5
      go_upto_region 33 with (first | (go_at_call 64; (with_reducible refine (CopyProgram_any qlo qhi B1 B2 B3 m1 m2 m3 f1 f2 f3 qd qc qt _ t1 t2 t3 (by omega) (by omega) (by omega)).mono ?_); rintro e w9 ⟨E1, E2, E3, d1, d2, d3, rfl, o1, o2, o3, hX9⟩) | (go_at_call 62; (with_reducible refine (PCheck_any qlo qhi E1 E2 E3 m1 m2 m3 d1 d2 d3 qd qc qt _ (Rd.of_own o1) (Rd.of_own o2) (Rd.of_own o3) (by omega) (by omega) (by omega)).mono ?_); rw [HCQ.out]; rintro e w10 ⟨rfl, hX10⟩))
      have Y10 := hX9.trans hX10
      have X10 := X8.trans Y10
      have hK10 := hK.ext Y10
      have hB10 := hB.ext Y10
      have t1 := t1.ext Y10
      have t2 := t2.ext Y10
      have t3 := t3.ext Y10
      have k1 := k1.ext Y10
      have k2 := k2.ext Y10
      have k3 := k3.ext Y10
      clear hX9 hX10 Y10 X8 hK hB p0 p1 p2 p3 p4 o1 o2 o3
      obtain ⟨p0, p1, p2, p3, p4⟩ := hB10.c5
      go_upto_region 34 with (first | (go_at_call 64; (with_reducible refine (CopyProgram_any qlo qhi B1 B2 B3 m1 m2 m3 f1 f2 f3 qd qc qt _ t1 t2 t3 (by omega) (by omega) (by omega)).mono ?_); rintro e w11 ⟨E1, E2, E3, d1, d2, d3, rfl, o1, o2, o3, hX11⟩) | (go_at_call 60; (with_reducible refine (POf_any qlo qhi E1 E2 E3 m1 m2 m3 d1 d2 d3 qd qc qt _ (Rd.of_own o1) (Rd.of_own o2) (Rd.of_own o3) (by omega) (by omega) (by omega)).mono ?_); rw [HOQ.out]; intro e w12 hPo; obtain ⟨D', e1', T', e2', C', e3', rfl, -, -, -, -, hX12⟩ := hPo.atc (m1 := 0) (m2 := 0) (m3 := 0) (p' := (k : Int)) rfl rfl rfl rfl; clear hPo))
      refine wp_world (fun W => Ext w12 W) (Ext.new _ _) ?_
      generalize w12.heap.size = gx
      intro W13 hX13
      have Y13 := (hX11.trans hX12).trans hX13
      have X13 := X10.trans Y13
      have hK13 := hK10.ext Y13
      have hB13 := hB10.ext Y13
      have t1 := t1.ext Y13
      have t2 := t2.ext Y13
      have k1 := k1.ext Y13
      have k2 := k2.ext Y13
      have k3 := k3.ext Y13
      clear hX11 hX12 hX13 Y13 X10 hK10 hB10 p0 p1 p2 p3 p4 o1 o2 o3
      go_upto_region 36 with (fail)
      go_cut [21] from 156 to 169 (fun v W => ∃ (gc : Nat) (E1 E2 E3 : Option Addr) (g1 g2 g3 : Nat), v = .pointer (some ⟨gc, 0, none⟩) ∧ Ext W13 W ∧ W13.heap.size ≤ gc ∧ Blk W gc 25 #[.int .i64 qlo, .int .i64 qhi, .slice E1 m1 g1, .slice E2 m2 g2, .slice E3 N3 g3] ∧ Rd W 1 E1 m1 (bv qd) ∧ Rd W 2 E2 m2 (tv qt) ∧ Rd W 1 E3 N3 (bv F))
      case first =>
        go_region_held3 (fun w' => w'.cell? ⟨gq, 0, none⟩ = some (.int .i64 qlo) ∧ w'.cell? ⟨gq, 1, none⟩ = some (.int .i64 qhi) ∧ w'.cell? ⟨gq, 2, none⟩ = some (.slice B1 m1 f1) ∧ w'.cell? ⟨gq, 3, none⟩ = some (.slice B2 m2 f2) ∧ w'.cell? ⟨gk, 4, none⟩ = some (.slice C N3 e3))
          (first | with_reducible exact c41 hB13.drew hK13.drew | with_reducible exact c41 (hB13.alloc _).drew (hK13.alloc _).drew | with_reducible exact c41 (hB13.drew.alloc _) (hK13.drew.alloc _) | with_reducible exact c41 (hB13.ext hY1) (hK13.ext hY1) | with_reducible exact c41 ((hB13.ext hY1).alloc _) ((hK13.ext hY1).alloc _) | with_reducible exact c41 (hB13.ext hY2) (hK13.ext hY2) | with_reducible exact c41 ((hB13.ext hY2).alloc _) ((hK13.ext hY2).alloc _) | with_reducible exact c41 (hB13.ext hY3) (hK13.ext hY3) | with_reducible exact c41 ((hB13.ext hY3).alloc _) ((hK13.ext hY3).alloc _) | with_reducible exact c41 (hB13.ext (hY3.s5 hY2.size _ _ _ _ _)) (hK13.ext (hY3.s5 hY2.size _ _ _ _ _)) | with_reducible exact c41 (hB13.ext (hY3.s5 hY1.size _ _ _ _ _)) (hK13.ext (hY3.s5 hY1.size _ _ _ _ _)) | with_reducible exact c41 (hB13.ext (hY3.s5 (Nat.le_refl _) _ _ _ _ _)) (hK13.ext (hY3.s5 (Nat.le_refl _) _ _ _ _ _)) | go_keep)
          (first | (go_at_call 26; (with_reducible refine (CopyTables_any B2 m2 f2 qt _ ?_ (by omega)).mono ?_); (first | exact t2.ext hY1 | exact (t2.ext hY1).alloc _); rintro e w2 ⟨E2, g2, rfl, own2, hb2⟩; have hY2 : Ext W13 w2 := (by first | exact hY1.trans hb2 | exact (hY1.alloc _).trans hb2); have own12 := (by first | exact hb2.own own1 | exact hb2.own (own1.alloc _) : w2.ownsRow _ 5 1 (.slice E1 m1 g1) m1 (bv qd)); (try (have hZ2 := hZ1.ext hb2; obtain ⟨zf0, zf1, zf2, zf3, zf4⟩ := hZ2.f5; obtain ⟨zg0, zg1, zg2, zg3, zg4⟩ := hZ2.c5)); (try (have hZ2 := (Blk.new w1 25 #[.int .i64 0, .int .i64 0, .slice none 0 0, .slice none 0 0, .slice none 0 0]).ext hb2; obtain ⟨zf0, zf1, zf2, zf3, zf4⟩ := hZ2.f5; obtain ⟨zg0, zg1, zg2, zg3, zg4⟩ := hZ2.c5))) | (go_at_call 36; have tok := hY2; (with_reducible refine (CopyBytes_any C N3 e3 F _ ?_ (by omega)).mono ?_); (first | exact k3.ext hY2 | exact (k3.ext hY2).alloc _); rintro e w3 ⟨E3, g3, rfl, own3, hb3⟩; have hY3 : Ext W13 w3 := (by first | exact hY2.trans hb3 | exact (hY2.alloc _).trans hb3); have own13 := (by first | exact hb3.own own12 | exact hb3.own (own12.alloc _) : w3.ownsRow _ 5 1 (.slice E1 m1 g1) m1 (bv qd)); have own23 := (by first | exact hb3.own own2 | exact hb3.own (own2.alloc _) : w3.ownsRow _ 54 2 (.slice E2 m2 g2) m2 (tv qt)); (try (have hZ3 := hZ2.ext hb3; obtain ⟨zf0, zf1, zf2, zf3, zf4⟩ := hZ3.f5; obtain ⟨zg0, zg1, zg2, zg3, zg4⟩ := hZ3.c5)); (try (have hZ3 := (Blk.new w2 25 #[.int .i64 0, .int .i64 0, .slice none 0 0, .slice none 0 0, .slice none 0 0]).ext hb3; obtain ⟨zf0, zf1, zf2, zf3, zf4⟩ := hZ3.f5; obtain ⟨zg0, zg1, zg2, zg3, zg4⟩ := hZ3.c5))) | (go_at_call 36; (with_reducible refine (CopyBytes_any B1 m1 f1 qd _ ?_ (by omega)).mono ?_); (first | exact t1.ext (Ext.refl _).drew | exact t1.ext (Ext.new _ _).drew); rintro e w1 ⟨E1, g1, rfl, own1, hb1⟩; have hY1 : Ext W13 w1 := (by first | exact hb1.of_drew | exact (Ext.new _ _).trans hb1.of_drew); (try (have hZ1 := (Blk.new W13 25 #[.int .i64 0, .int .i64 0, .slice none 0 0, .slice none 0 0, .slice none 0 0]).ext hb1.of_drew; obtain ⟨zf0, zf1, zf2, zf3, zf4⟩ := hZ1.f5; obtain ⟨zg0, zg1, zg2, zg3, zg4⟩ := hZ1.c5))))
        all_goals go_wp2
        all_goals go_meet
        all_goals case rel =>
          first
            | exact ⟨_, E1, E2, E3, g1, g2, g3, rfl, hY3.trans (Ext.new _ _), hY3.size, Blk.new _ _ _, (Rd.of_own own13).ext (Ext.new _ _), (Rd.of_own own23).ext (Ext.new _ _), (Rd.of_own own3).ext (Ext.new _ _)⟩
            | exact ⟨_, E1, E2, E3, g1, g2, g3, rfl, hY3.s5 (by first | exact hY2.size | exact hY1.size | exact Nat.le_refl _) _ _ _ _ _, (by first | exact hY2.size | exact hY1.size | exact Nat.le_refl _), hZ3.s5 _ _ _ _ _, Rd.of_own (own_s5 own13 (own_blk_ne own13 hZ3 (by decide)) _ _ _ _ _), Rd.of_own (own_s5 own23 (own_blk_ne own23 hZ3 (by decide)) _ _ _ _ _), Rd.of_own (own_s5 own3 (own_blk_ne own3 hZ3 (by decide)) _ _ _ _ _)⟩
      case rest =>
      obtain ⟨gc, E1, E2, E3, g1, g2, g3, rfl, hY14, hgc, hC14, u1, u2, u3⟩ := hcut
      have X14 := X13.trans hY14
      have hgw : w.heap.size ≤ gc := Nat.le_trans X13.size hgc
      have hK14 := hK13.ext hY14
      have k1 := k1.ext hY14
      have k2 := k2.ext hY14
      have k3 := k3.ext hY14
      clear hK13 hB13 t1 t2 hY14
      obtain ⟨p0, p1, p2, p3, p4⟩ := hC14.c5
      rcases HCASE.out with ⟨hk0, hen, hpr⟩ | ⟨hk, he1, he2, he3, he4⟩
      · subst hk0
        have HEN := hd hen
        have HPN := hd hpr
        have hnone : Pk.pprog ⟨lo, hi, data, ts, []⟩ = (Pk.P0, 0, 26) := Pk.none_law HCH.out
        have HNONE := hd hnone
        clear hnone
        clear hen hpr HCASE
        go_upto_region 38 with (first | (go_at_call 29; (with_reducible refine (CopyPack_any qlo qhi E1 E2 E3 m1 m2 N3 g1 g2 g3 qd F qt _ u1 u2 u3 (by omega) (by omega) (by omega)).mono ?_); rintro e w15 ⟨V1, V2, V3, y1, y2, y3, rfl, o1, o2, o3, hX15⟩) | (go_at_call 27; (with_reducible refine (Encode_any qlo qhi V1 V2 V3 m1 m2 N3 y1 y2 y3 qd F qt _ (Rd.of_own o1) (Rd.of_own o2) (Rd.of_own o3) (by omega) (by omega) (by omega)).mono ?_); rw [HEN.out]; intro e w16 hPe; obtain ⟨A16, a16, rfl, -, -, -, hX16⟩ := hPe.at_ (m := 0) rfl; clear hPe))
        have Y16 := hX15.trans hX16
        have X16 := X14.trans Y16
        have hK16 := hK14.ext Y16
        have hC16 := hC14.ext Y16
        have u1 := u1.ext Y16
        have u2 := u2.ext Y16
        have u3 := u3.ext Y16
        have k1 := k1.ext Y16
        have k2 := k2.ext Y16
        have k3 := k3.ext Y16
        clear hX15 hX16 Y16 X14 hK14 hC14 p0 p1 p2 p3 p4 o1 o2 o3
        obtain ⟨p0, p1, p2, p3, p4⟩ := hC16.c5
        go_upto_region 39 with (first | (go_at_call 29; (with_reducible refine (CopyPack_any qlo qhi E1 E2 E3 m1 m2 N3 g1 g2 g3 qd F qt _ u1 u2 u3 (by omega) (by omega) (by omega)).mono ?_); rintro e w17 ⟨V1, V2, V3, y1, y2, y3, rfl, o1, o2, o3, hX17⟩) | (go_at_call 66; (with_reducible refine (PProg_any qlo qhi V1 V2 V3 m1 m2 N3 y1 y2 y3 qd F qt _ (Rd.of_own o1) (Rd.of_own o2) (Rd.of_own o3) (by omega) (by omega) (by omega) (own_le o3)).mono ?_); rw [HPN.out]; intro e w18 hPp; obtain ⟨G1, h1', G2, h2', G3, h3', rfl, -, -, -, hX18⟩ := hPp.at_ (m1 := 0) (m2 := 0) (m3 := 0) (p' := 0) rfl rfl rfl rfl; clear hPp))
        refine wp_world (fun W => Ext w18 W) (Ext.new _ _) ?_
        generalize w18.heap.size = gy
        intro W19 hX19
        have Y19 := (hX17.trans hX18).trans hX19
        have X19 := X16.trans Y19
        have hK19 := hK16.ext Y19
        have hC19 := hC16.ext Y19
        have k1 := k1.ext Y19
        have k2 := k2.ext Y19
        have k3 := k3.ext Y19
        clear hX17 hX18 hX19 Y19 X16 hK16 hC16 p0 p1 p2 p3 p4 o1 o2 o3
        obtain ⟨r0, r1, r2, r3, r4⟩ := hK19.c5
        go_upto_region 43 with (go_at_call 29; (with_reducible refine (CopyPack_any lo hi D T C n1 n2 N3 e1 e2 e3 data F ts _ k1 k2 k3 hn1 hn2 (by omega)).mono ?_); rintro e w20 ⟨V1, V2, V3, y1, y2, y3, rfl, o1, o2, o3, hX20⟩; obtain ⟨v0, v1, v2, v3, v4⟩ := (hC19.ext hX20).c5; obtain ⟨x0, x1, x2, x3, x4⟩ := (hC19.ext hX20).f5)
        have hC20 := hC19.ext hX20
        have n1' := own_blk_ne o1 hC20 (by decide)
        have n2' := own_blk_ne o2 hC20 (by decide)
        have r1' := Rd.of_own (own_set (own_s5 o1 n1' (.int .i64 lo) (.int .i64 hi) (.slice V1 n1 y1) (.slice V2 n2 y2) (.slice V3 N3 y3)) (p := ⟨gc, 4, none⟩) n1' (.slice none 0 0))
        have r2' := Rd.of_own (own_set (own_s5 o2 n2' (.int .i64 lo) (.int .i64 hi) (.slice V1 n1 y1) (.slice V2 n2 y2) (.slice V3 N3 y3)) (p := ⟨gc, 4, none⟩) n2' (.slice none 0 0))
        refine wp_world (fun W => Ext w W ∧ Blk W gc 25 #[.int .i64 lo, .int .i64 hi, .slice V1 n1 y1, .slice V2 n2 y2, .slice none 0 0] ∧ Rd W 1 V1 n1 (bv data) ∧ Rd W 2 V2 n2 (tv ts)) ⟨((X19.trans hX20).s5 hgw _ _ _ _ _).set (p := ⟨gc, 4, none⟩) hgw _, (hC20.s5 (.int .i64 lo) (.int .i64 hi) (.slice V1 n1 y1) (.slice V2 n2 y2) (.slice V3 N3 y3)).set_ 4 (.slice none 0 0), r1', r2'⟩ ?_
        rintro W21 ⟨X21, hC21, s1', s2'⟩
        clear r1' r2' n1' n2' hC20 o1 o2 o3 r0 r1 r2 r3 r4 v0 v1 v2 v3 v4 x0 x1 x2 x3 x4
        obtain ⟨v0, v1, v2, v3, v4⟩ := hC21.c5
        go_wp2_with (go_at_call 66; (with_reducible refine (PProg_any lo hi V1 V2 none n1 n2 0 y1 y2 0 data [] ts _ s1' s2' (Rd.nil8 _ _) hn1 hn2 (by omega) (by omega)).mono ?_); rw [HNONE.out]; intro e w22 hPp; obtain ⟨G1, h1', G2, h2', G3, h3', rfl, -, -, -, hX22⟩ := hPp.at_ (m1 := 0) (m2 := 0) (m3 := 0) (p' := 0) rfl rfl rfl rfl; clear hPp)
        go_ret
        exact ⟨ret_bool (by simp), X21.trans (hX22.trans (Ext.new _ _))⟩
      · have he1 := he1.symm
        have he2 := he2.symm
        have he3 := he3.symm
        have he4 := he4.symm
        subst he1 he2 he3 he4
        have hk' : (0 : Int) < (k : Int) := by omega
        clear HCASE
        go_upto_region 38 with (first | (go_at_call 29; (with_reducible refine (CopyPack_any lo hi E1 E2 E3 m1 m2 N3 g1 g2 g3 data F ts _ u1 u2 u3 (by omega) (by omega) (by omega)).mono ?_); rintro e w15 ⟨V1, V2, V3, y1, y2, y3, rfl, o1, o2, o3, hX15⟩) | (go_at_call 27; (with_reducible refine (Encode_any lo hi V1 V2 V3 m1 m2 N3 y1 y2 y3 data F ts _ (Rd.of_own o1) (Rd.of_own o2) (Rd.of_own o3) (by omega) (by omega) (by omega)).mono ?_); rw [HE.out]; intro e w16 hPe; obtain ⟨A16, a16, rfl, -, -, -, hX16⟩ := hPe.at_ (m := BB.length) rfl; clear hPe))
        have Y16 := hX15.trans hX16
        have X16 := X14.trans Y16
        have hK16 := hK14.ext Y16
        have hC16 := hC14.ext Y16
        have u1 := u1.ext Y16
        have u2 := u2.ext Y16
        have u3 := u3.ext Y16
        have k1 := k1.ext Y16
        have k2 := k2.ext Y16
        have k3 := k3.ext Y16
        clear hX15 hX16 Y16 X14 hK14 hC14 p0 p1 p2 p3 p4 o1 o2 o3
        obtain ⟨p0, p1, p2, p3, p4⟩ := hC16.c5
        go_upto_region 39 with (first | (go_at_call 29; (with_reducible refine (CopyPack_any lo hi E1 E2 E3 m1 m2 N3 g1 g2 g3 data F ts _ u1 u2 u3 (by omega) (by omega) (by omega)).mono ?_); rintro e w17 ⟨V1, V2, V3, y1, y2, y3, rfl, o1, o2, o3, hX17⟩) | (go_at_call 66; (with_reducible refine (PProg_any lo hi V1 V2 V3 m1 m2 N3 y1 y2 y3 data F ts _ (Rd.of_own o1) (Rd.of_own o2) (Rd.of_own o3) (by omega) (by omega) (by omega) (own_le o3)).mono ?_); rw [HPR.out]; intro e w18 hPp; obtain ⟨G1, h1', G2, h2', G3, h3', rfl, -, -, -, hX18⟩ := hPp.at_ (m1 := data.length) (m2 := ts.length) (m3 := code.length) (p' := 0) rfl rfl rfl rfl; clear hPp))
        refine wp_world (fun W => Ext w18 W) (Ext.new _ _) ?_
        generalize w18.heap.size = gy
        intro W19 hX19
        have Y19 := (hX17.trans hX18).trans hX19
        have X19 := X16.trans Y19
        have hK19 := hK16.ext Y19
        have hC19 := hC16.ext Y19
        have k1 := k1.ext Y19
        have k2 := k2.ext Y19
        have k3 := k3.ext Y19
        clear hX17 hX18 hX19 Y19 X16 hK16 hC16 p0 p1 p2 p3 p4 o1 o2 o3
        go_wp2
        go_ret
        exact ⟨ret_bool (by simp), X19⟩
  · have e0 : (e != 0) = true := by simpa using h0
    clear hc h0
    go_enter Try.func23, Try.ntmps23
    go_upto_region 1 with (fail)
    refine wp_world (fun W => Ext w W ∧ Blk W w.heap.size 90 #[.int .i64 lo, .int .i64 hi, .slice A1 n1 c1, .slice A2 n2 c2, .slice A3 n3 c3]) ⟨Ext.new _ _, Blk.new _ _ _⟩ ?_
    generalize w.heap.size = g
    rintro W ⟨hX, hP⟩
    go_upto_region 4 with (first | (go_at_call 24; (with_reducible refine (awake_any _).mono ?_); rintro e w1 ⟨rfl, hX1⟩; obtain ⟨p0, p1, p2, p3, p4⟩ := (hP.ext hX1).c5; have X1 := hX.trans hX1) | (go_at_call 64; (with_reducible refine (CopyProgram_any lo hi A1 A2 A3 n1 n2 n3 c1 c2 c3 data code ts _ (h1.ext X1) (h2.ext X1) (h3.ext X1) hn1 hn2 hn3).mono ?_); rintro e w2 ⟨B1, B2, B3, d1, d2, d3, rfl, o1, o2, o3, hX2⟩) | (go_at_call 62; (with_reducible refine (PCheck_any lo hi B1 B2 B3 n1 n2 n3 d1 d2 d3 data code ts _ (Rd.of_own o1) (Rd.of_own o2) (Rd.of_own o3) hn1 hn2 hn3).mono ?_); rw [HC.out]; rintro e w3 ⟨rfl, hX3⟩))
    have Y3 := (hX1.trans hX2).trans hX3
    have hP3 := hP.ext Y3
    have X3 := hX.trans Y3
    clear hP hX hX1 hX2 hX3 X1 Y3 p0 p1 p2 p3 p4 o1 o2 o3
    obtain ⟨p0, p1, p2, p3, p4⟩ := hP3.c5
    go_wp2
    go_ret
    exact ⟨rfl, X3⟩

end Go.Proofs.Ytfcbedkidjclhaa
