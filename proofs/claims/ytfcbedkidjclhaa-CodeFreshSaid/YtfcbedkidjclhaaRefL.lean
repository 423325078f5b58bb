/-
  The contracts of the document's bytes of one instruction, and of its Encode.
  Conditions: the instruction is right, the row its own; the instructions read as a list.
-/
import Derived.Test.YtfcbedkidjclhaaRefK
import Derived.Test.YtfcbedkidjclhaaCode13
namespace Go.Proofs.Ytfcbedkidjclhaa
open Go.RowKit
set_option maxRecDepth 100000
set_option linter.unusedSimpArgs false
set_option linter.unusedVariables false

theorem Rd.four (w : World) (a b c d : Value) (t : TypeId) : Rd (w.alloc (.cells #[a, b, c, d] t)) 1 (some ⟨w.heap.size, 0, none⟩) 4 [a, b, c, d] :=
  ⟨rfl, fun _ => ⟨_, rfl, fun j u hu => by
    have e : (⟨w.heap.size, 0, none⟩ : Addr).add j = ⟨w.heap.size, j, none⟩ := by unfold Addr.add; split <;> simp_all
    rw [e, (Blk.new w t #[a, b, c, d]).cell j]
    simpa using hu⟩⟩
theorem zero4_one : ∀ u ∈ [Value.int .u8 0, Value.int .u8 0, Value.int .u8 0, Value.int .u8 0], u.oneCell' = true := by
  intro u hu
  simp at hu
  rcases hu with rfl | rfl | rfl | rfl <;> rfl
theorem bv_zero4 (l : List UInt8) : bv l ++ [Value.int .u8 0, Value.int .u8 0, Value.int .u8 0, Value.int .u8 0] = bv (l ++ [0, 0, 0, 0]) := by
  rw [bv_append]
  rfl
/-- what bytes leaves: the row longer by some -/
def BytesPost (A : Option Addr) (n c : Nat) (xs ys : List UInt8) (base : Nat) (w : World) (e : Ending) (w' : World) : Prop :=
  ∃ A' c', e = .returned (.slice A' (n + ys.length) c') ∧ w'.ownsRow base 5 1 (.slice A' (n + ys.length) c') (n + ys.length) (bv (xs ++ ys)) ∧ App w w' (.slice A n c) (.slice A' (n + ys.length) c')
theorem BytesPost.mk' {A A' : Option Addr} {n c n' c' base : Nat} {xs ys l : List UInt8} {w w' : World} (hl : xs ++ ys = l) (hn : n' = n + ys.length) (ho : w'.ownsRow base 5 1 (.slice A' n' c') n' (bv l)) (ha : App w w' (.slice A n c) (.slice A' n' c')) :
    BytesPost A n c xs ys base w (.returned (.slice A' n' c')) w' := by
  subst hn
  subst hl
  exact ⟨A', c', rfl, ho, ha⟩

set_option maxHeartbeats 4000000 in
theorem rbytes_any (yc yo yz yd ys yf ym ye : Int) (yn yr yw : Bool) (op sz ds sr of im : Int) (nr rg : Bool) (A : Option Addr) (n c : Nat) (xs : List UInt8) (base : Nat) (w : World) (h : w.ownsRow base 5 1 (.slice A n c) n (bv xs)) (hb : base ≤ w.heap.size) (hn : n ≤ 100000000000)
    (hS0 : 0 ≤ Rf.fld ys sr) (hS1 : Rf.fld ys sr ≤ 15) (hD0 : 0 ≤ Rf.fld yd ds) (hD1 : Rf.fld yd ds ≤ 15) (out : List UInt8) (hout : Rf.bytes ⟨yc, yo, yz, yn, yr, yd, ys, yf, ym, ye, yw⟩ ⟨op, nr, rg, sz, ds, sr, of, im⟩ = out) :
    Calls Try.prog 100 #[.slice A n c, .agg #[.int .i64 yc, .int .i64 yo, .int .i64 yz, .bool yn, .bool yr, .int .i64 yd, .int .i64 ys, .int .i64 yf, .int .i64 ym, .int .i64 ye, .bool yw], .agg #[.int .i64 op, .bool nr, .bool rg, .int .i64 sz, .int .i64 ds, .int .i64 sr, .int .i64 of, .int .i64 im]] w (BytesPost A n c xs out base w) := by
  have HO := hd hout
  clear hout
  obtain ⟨i0, hi0, hz0, hz1, hz2⟩ := info_parts info5
  go_enter Try.func100, Try.ntmps100
  go_upto_region 1 with (fail)
  refine wp_world (fun W => Ext w W ∧ Blk W w.heap.size 134 #[.int .i64 yc, .int .i64 yo, .int .i64 yz, .bool yn, .bool yr, .int .i64 yd, .int .i64 ys, .int .i64 yf, .int .i64 ym, .int .i64 ye, .bool yw] ∧ Blk W (w.heap.size + 1) 64 #[.int .i64 op, .bool nr, .bool rg, .int .i64 sz, .int .i64 ds, .int .i64 sr, .int .i64 of, .int .i64 im]) ⟨(Ext.new _ _).alloc _, (Blk.new _ _ _).alloc _, by simpa using Blk.new (w.alloc _) 64 _⟩ ?_
  obtain ⟨gy, hgy⟩ : ∃ gy, w.heap.size = gy := ⟨_, rfl⟩
  obtain ⟨gi, hgi⟩ : ∃ gi, gy + 1 = gi := ⟨_, rfl⟩
  rw [hgy, hgi]
  rintro W ⟨hX, hY, hI⟩
  obtain ⟨p0, p1, p2, p3, p4, p5, p6, p7, p8, p9, p10⟩ := hY.c11
  obtain ⟨b0, b1, b2, b3, b4, b5, b6, b7⟩ := hI.c8
  go_quiet (fail)
  obtain ⟨D, hD⟩ : ∃ D, Rf.fld yd ds = D := ⟨_, rfl⟩
  obtain ⟨S, hS⟩ : ∃ S, Rf.fld ys sr = S := ⟨_, rfl⟩
  obtain ⟨F, hF⟩ : ∃ F, Rf.fld yf of = F := ⟨_, rfl⟩
  obtain ⟨M, hM⟩ : ∃ M, Rf.fld ym im = M := ⟨_, rfl⟩
  rw [hS] at hS0 hS1
  rw [hD] at hD0 hD1
  have HD := hd hD
  have HS := hd hS
  have HF := hd hF
  have HM := hd hM
  clear hD hS hF hM
  go_upto_if 20 with (fail)
  go_cut [7] from 21 to 22 (fun v W2 => v = .int .i64 D ∧ W2 = W.drewN nq)
  case first =>
    by_cases e : yd = -1
    · have e1 : (yd == -1) = true := by simpa using e
      have e2 : ds = D := by rw [← HD.out, Rf.fld, if_pos e]
      go_wp2
      go_meet
      case rel => exact ⟨(by first | rfl | rw [e2]), rfl⟩
    · have e1 : (yd == -1) = false := by simpa using e
      have e2 : yd = D := by rw [← HD.out, Rf.fld, if_neg e]
      go_wp2
      go_meet
      case rel => exact ⟨(by first | rfl | rw [e2]), rfl⟩
  case rest =>
  obtain ⟨rfl, hwc⟩ := hcut
  rw [hwc]
  clear hwc
  go_upto_if 24 with (fail)
  go_cut [8] from 25 to 26 (fun v W2 => v = .int .i64 S ∧ W2 = W.drewN nq)
  case first =>
    by_cases e : ys = -1
    · have e1 : (ys == -1) = true := by simpa using e
      have e2 : sr = S := by rw [← HS.out, Rf.fld, if_pos e]
      go_wp2
      go_meet
      case rel => exact ⟨(by first | rfl | rw [e2]), rfl⟩
    · have e1 : (ys == -1) = false := by simpa using e
      have e2 : ys = S := by rw [← HS.out, Rf.fld, if_neg e]
      go_wp2
      go_meet
      case rel => exact ⟨(by first | rfl | rw [e2]), rfl⟩
  case rest =>
  obtain ⟨rfl, hwc⟩ := hcut
  rw [hwc]
  clear hwc
  go_upto_if 28 with (fail)
  go_cut [9] from 29 to 30 (fun v W2 => v = .int .i64 F ∧ W2 = W.drewN nq)
  case first =>
    by_cases e : yf = -1
    · have e1 : (yf == -1) = true := by simpa using e
      have e2 : of = F := by rw [← HF.out, Rf.fld, if_pos e]
      go_wp2
      go_meet
      case rel => exact ⟨(by first | rfl | rw [e2]), rfl⟩
    · have e1 : (yf == -1) = false := by simpa using e
      have e2 : yf = F := by rw [← HF.out, Rf.fld, if_neg e]
      go_wp2
      go_meet
      case rel => exact ⟨(by first | rfl | rw [e2]), rfl⟩
  case rest =>
  obtain ⟨rfl, hwc⟩ := hcut
  rw [hwc]
  clear hwc
  go_upto_if 32 with (fail)
  go_cut [10] from 33 to 34 (fun v W2 => v = .int .i64 M ∧ W2 = W.drewN nq)
  case first =>
    by_cases e : ym = -1
    · have e1 : (ym == -1) = true := by simpa using e
      have e2 : im = M := by rw [← HM.out, Rf.fld, if_pos e]
      go_wp2
      go_meet
      case rel => exact ⟨(by first | rfl | rw [e2]), rfl⟩
    · have e1 : (ym == -1) = false := by simpa using e
      have e2 : ym = M := by rw [← HM.out, Rf.fld, if_neg e]
      go_wp2
      go_meet
      case rel => exact ⟨(by first | rfl | rw [e2]), rfl⟩
  case rest =>
  obtain ⟨rfl, hwc⟩ := hcut
  rw [hwc]
  clear hwc
  have hX1 : Ext w (W.drewN nq) := hX.drewN nq
  have hI1 : Blk (W.drewN nq) gi 64 #[.int .i64 op, .bool nr, .bool rg, .int .i64 sz, .int .i64 ds, .int .i64 sr, .int .i64 of, .int .i64 im] := hI
  have hY1 : Blk (W.drewN nq) gy 134 #[.int .i64 yc, .int .i64 yo, .int .i64 yz, .bool yn, .bool yr, .int .i64 yd, .int .i64 ys, .int .i64 yf, .int .i64 ym, .int .i64 ye, .bool yw] := hY
  generalize W.drewN nq = W1 at hX1 hI1 hY1 ⊢
  clear hX hI hY p0 p1 p2 p3 p4 p5 p6 p7 p8 p9 p10 b0 b1 b2 b3 b4 b5 b6 b7
  obtain ⟨p0, -⟩ := hY1.c11
  have own1 := hX1.own h
  have s1 := hX1.size
  have w1 : IntKind.i64.wrap (16 * S) = 16 * S := by rw [IntKind.wrap_i64]; omega
  have w2 : IntKind.i64.wrap (16 * S + D) = 16 * S + D := by rw [IntKind.wrap_i64]; omega
  go_upto_region 11 with (at_builtin; refine wpList_app _ rfl _ _ 22 rfl base 5 i0 _ 1 1 Try.underlying22 hi0 hz0 hz1 hz2 rfl (by omega) (.slice A n c) n (bv xs) rfl (own1.alloc _) (some ⟨W1.heap.size, 0, none⟩) 2 2 [.int .u8 (yc % 256), .int .u8 (16 * S + D)] rfl (Rd.two _ _ _ _) (two_cells _ _ _ _) (by omega) (by omega) (by simp; omega) ?_; intro v1 w3 own3 hg1 hat1; have app3 := (App.of_ext (hX1.trans (Ext.new W1 _)) _).trans (App.of_law hg1 hat1); have hI3 := (App.of_law hg1 hat1).blk (hI1.alloc _) (own_blk_ne own1 hI1 (by decide)); obtain ⟨B3, d3, rfl, _⟩ := own_form own3)
  rw [show Value.int IntKind.u8 (16 * S + D) = Value.int IntKind.u8 ((16 * S + D) % 256) by rw [Int.emod_eq_of_lt (by omega) (by omega)], bv_two] at own3
  have s3 := app3.size
  clear own1 hX1 hI1 hY1 hg1 hat1 p0 w1 w2
  go_upto_region 13 with (first | (go_at_call 139; (with_reducible refine (rlow_any B3 (n + 2) d3 2 2 _ _ base _ own3 (by omega) (by omega) (by omega) rfl).mono ?_); rintro e w4 ⟨B4, d4, rfl, own4, app4⟩; have hI4 := app4.blk hI3 (own_blk_ne own3 hI3 (by decide)); have X4 := app3.trans app4; have s4 := X4.size) | (go_at_call 139; (with_reducible refine (rlow_any B4 (n + 2 + 2) d4 4 4 _ _ base _ own4 (by omega) (by omega) (by omega) rfl).mono ?_); rintro e w5 ⟨B5, d5, rfl, own5, app5⟩; have hI5 := app5.blk hI4 (own_blk_ne own4 hI4 (by decide)); have X5 := X4.trans app5; have s5 := X5.size))
  clear own3 own4 hI3 hI4 X4 app3 app4 app5 s3 s4
  obtain ⟨b0, b1, b2, b3, b4, b5, b6, b7⟩ := hI5.c8
  have HB : Hid (Rf.bytes ⟨yc, yo, yz, yn, yr, yd, ys, yf, ym, ye, yw⟩ ⟨op, nr, rg, sz, ds, sr, of, im⟩ = [Pk.byte yc, Pk.byte (16 * S + D)] ++ Pk.low 2 F ++ Pk.low 4 M ++ (if op = 20 then [0, 0, 0, 0] ++ Pk.low 4 (im / 4294967296) else if op = 21 then [0, 0, 0, 0] ++ Pk.low 4 im else [])) := hd (by unfold Rf.bytes; simp only; rw [HD.out, HS.out, HF.out, HM.out])
  by_cases h20 : op = 20
  · have e20 : (op == 20) = true := by simpa using h20
    have HL := hd (show [Pk.byte yc, Pk.byte (16 * S + D)] ++ Pk.low 2 F ++ Pk.low 4 M ++ ([0, 0, 0, 0] ++ Pk.low 4 (im / 4294967296)) = out by rw [← HO.out, HB.out, if_pos h20])
    clear h20 HB
    go_wp2_with (first | (at_builtin; refine wpList_app _ rfl _ _ 22 rfl base 5 i0 _ 1 1 Try.underlying22 hi0 hz0 hz1 hz2 rfl (by omega) (.slice B5 (n + 2 + 2 + 4) d5) (n + 2 + 2 + 4) _ rfl (own5.alloc _) (some ⟨w5.heap.size, 0, none⟩) 4 4 [.int .u8 0, .int .u8 0, .int .u8 0, .int .u8 0] rfl (Rd.four _ _ _ _ _ _) zero4_one (by omega) (by omega) (by simp; omega) ?_; intro v6 w6 own6 hg6 hat6; have app6 := (X5.trans (App.of_ext (Ext.new w5 _) _)).trans (App.of_law hg6 hat6); have hI6 := (App.of_law hg6 hat6).blk (hI5.alloc _) (own_blk_ne own5 hI5 (by decide)); obtain ⟨B6, d6, rfl, _⟩ := own_form own6; obtain ⟨c0, c1, c2, c3, c4, c5, c6, c7⟩ := hI6.c8; rw [bv_zero4] at own6; have s6 := app6.size) | (go_at_call 139; (with_reducible refine (rlow_any B6 (n + 2 + 2 + 4 + 4) d6 4 4 _ _ base _ own6 (by omega) (by omega) (by omega) rfl).mono ?_); rintro e w7 ⟨B7, d7, rfl, own7, app7⟩; have X7 := app6.trans app7))
    go_ret
    refine BytesPost.mk' (l := _) ?_ ?_ own7 X7
    · rw [← HL.out]; simp
    · rw [← HL.out]; simp [Pk.low_length] <;> omega
  · have e20 : (op == 20) = false := by simpa using h20
    by_cases h21 : op = 21
    · have e21 : (op == 21) = true := by simpa using h21
      have HL := hd (show [Pk.byte yc, Pk.byte (16 * S + D)] ++ Pk.low 2 F ++ Pk.low 4 M ++ ([0, 0, 0, 0] ++ Pk.low 4 im) = out by rw [← HO.out, HB.out, if_neg h20, if_pos h21])
      clear h20 h21 HB
      go_wp2_with (first | (at_builtin; refine wpList_app _ rfl _ _ 22 rfl base 5 i0 _ 1 1 Try.underlying22 hi0 hz0 hz1 hz2 rfl (by omega) (.slice B5 (n + 2 + 2 + 4) d5) (n + 2 + 2 + 4) _ rfl (own5.alloc _) (some ⟨w5.heap.size, 0, none⟩) 4 4 [.int .u8 0, .int .u8 0, .int .u8 0, .int .u8 0] rfl (Rd.four _ _ _ _ _ _) zero4_one (by omega) (by omega) (by simp; omega) ?_; intro v6 w6 own6 hg6 hat6; have app6 := (X5.trans (App.of_ext (Ext.new w5 _) _)).trans (App.of_law hg6 hat6); have hI6 := (App.of_law hg6 hat6).blk (hI5.alloc _) (own_blk_ne own5 hI5 (by decide)); obtain ⟨B6, d6, rfl, _⟩ := own_form own6; obtain ⟨c0, c1, c2, c3, c4, c5, c6, c7⟩ := hI6.c8; rw [bv_zero4] at own6; have s6 := app6.size) | (go_at_call 139; (with_reducible refine (rlow_any B6 (n + 2 + 2 + 4 + 4) d6 4 4 _ _ base _ own6 (by omega) (by omega) (by omega) rfl).mono ?_); rintro e w7 ⟨B7, d7, rfl, own7, app7⟩; have X7 := app6.trans app7))
      go_ret
      refine BytesPost.mk' (l := _) ?_ ?_ own7 X7
      · rw [← HL.out]; simp
      · rw [← HL.out]; simp [Pk.low_length] <;> omega
    · have e21 : (op == 21) = false := by simpa using h21
      have HL := hd (show [Pk.byte yc, Pk.byte (16 * S + D)] ++ Pk.low 2 F ++ Pk.low 4 M = out by rw [← HO.out, HB.out, if_neg h20, if_neg h21, List.append_nil])
      clear h20 h21 HB
      go_wp2
      go_ret
      refine BytesPost.mk' (l := _) ?_ ?_ own5 X5
      · rw [← HL.out]; simp
      · rw [← HL.out]; simp [Pk.low_length] <;> omega

theorem refFind_cells (op sz ds sr of im : Int) (nr rg : Bool) (A : Option Addr) (N c : Nat) (w : World) (hr : Rd w 11 A N (rv Rf.rows)) (hN : N ≤ 1000) :
    Calls Try.prog 88 #[.slice A N c, .agg #[.int .i64 op, .bool nr, .bool rg, .int .i64 sz, .int .i64 ds, .int .i64 sr, .int .i64 of, .int .i64 im]] w (FdPost (Rf.find ⟨op, nr, rg, sz, ds, sr, of, im⟩) w) :=
  refFind_any ⟨op, nr, rg, sz, ds, sr, of, im⟩ A N c Rf.rows w hr hN

set_option maxHeartbeats 1000000 in
theorem REncode_bad (A : Option Addr) (n c : Nat) (l : List Cd.Ins) (w : World) (h : Rd w 8 A n (cv l)) (hn : n * 56 ≤ 140737488355328) (p : Nat) (r : Int) (hc : Cd.check l = (p, r)) (hr : r ≠ 0) :
    Calls Try.prog 53 #[.slice A n c] w (CEncPost ([], p, r) w) := by
  have HC := hd hc
  have hb : (r != 0) = true := by simpa using hr
  clear hc hr
  go_enter Try.func53, Try.ntmps53
  go_wp2_with (go_at_call 99; (with_reducible refine (RCheck_any A n c l _ h hn).mono ?_); rw [HC.out]; rintro e w1 ⟨rfl, hX1⟩)
  go_ret3
  exact ⟨none, 0, rfl, World.ownsRow_nil _ _ _ _, hX1⟩

set_option maxHeartbeats 4000000 in
theorem REncode_good (A : Option Addr) (n c : Nat) (l : List Cd.Ins) (w : World) (h : Rd w 8 A n (cv l)) (hn : n ≤ 4096) (p : Nat) (hc : Cd.check l = (p, 0)) :
    Calls Try.prog 53 #[.slice A n c] w (CEncPost (l.flatMap Cd.bytes, 0, 0) w) := by
  have hl : l.length = n := by have := h.1; rw [cv_length] at this; omega
  have HL := hd hl
  have HC := hd hc
  clear hl hc
  go_enter Try.func53, Try.ntmps53
  go_upto_region 5 with (first | (go_at_call 99; (with_reducible refine (RCheck_any A n c l _ h (by omega)).mono ?_); rw [HC.out]; rintro e w1 ⟨rfl, hX1⟩) | (go_at_call 48; (with_reducible refine (refRows_any _).mono ?_); rintro e W ⟨vr, rfl, hT⟩))
  obtain ⟨Ar, cr, rfl, -⟩ := own_form hT.own
  have hrr := Rd.of_own hT.own
  have hE := hX1.trans hT.app
  clear hT hX1
  go_wp2
  go_loopw [8, 9] (fun bb i wr => ∃ (k m : Nat) (B : Option Addr) (d : Nat) (don : List UInt8), k ≤ n ∧ m ≤ 16 * k ∧ i = .int .i64 k ∧ bb = .slice B m d ∧ wr.ownsRow W.heap.size 5 1 (.slice B m d) m (bv don) ∧ Ext W wr ∧ Hid ((l.take k).flatMap Cd.bytes = don)) (fun _ i _ => n - (intOf i).toNat)
  case atStart => exact ⟨0, 0, none, 0, [], by omega, by omega, rfl, rfl, World.ownsRow_nil _ _ _ _, Ext.refl _, hd rfl⟩
  case round =>
    obtain ⟨k, m, B, d, don, hk, hm, rfl, rfl, hown, hX, HE⟩ := hrel
    have hszr := hX.size
    have hXw := hE.trans hX
    by_cases hlt : k < n
    · obtain ⟨b, o, rfl, hc⟩ := (h.ext hXw).form (by omega) (by omega)
      have hkl : k < l.length := by have := HL.out; omega
      obtain ⟨q0, q1, q2, q3, q4, q5, q6, q7⟩ := ins_cells hc hkl
      clear hc
      have HD := hd (show l.take (k + 1) = l.take k ++ [l[k]] from List.take_succ_eq_append_getElem hkl)
      have hr := check_right l 0 p k hkl HC.out
      obtain ⟨x, hx⟩ : ∃ x, l[k] = x := ⟨_, rfl⟩
      rw [hx] at q0 q1 q2 q3 q4 q5 q6 q7 HD hr
      clear hx
      obtain ⟨y, hy⟩ := Rf.find_right hr
      obtain ⟨b0, b1, b2, b3⟩ := right_fields hr
      obtain ⟨b4, b5⟩ := opcode_src b2 b3
      obtain ⟨hf1, hf2⟩ := Rf.row_fields hy hr
      have hbe := Rf.bytes_eq hy hr
      rw [hf1] at b4 b5
      have hbl := bytes_len x
      have hwl := width_le x
      obtain ⟨op, nr, rg, sz, ds, sr, of, im⟩ := x
      obtain ⟨yc, yo, yz, yn, yr, yd, ys, yf, ym, ye, yw⟩ := y
      simp only at q0 q1 q2 q3 q4 q5 q6 q7 b0 b1 b4 b5 hf2
      obtain ⟨out, hout⟩ : ∃ out, Cd.bytes ⟨op, nr, rg, sz, ds, sr, of, im⟩ = out := ⟨_, rfl⟩
      rw [hout] at hbe hbl
      obtain ⟨L, hL⟩ : ∃ L, out.length = L := ⟨_, rfl⟩
      have hL16 : L ≤ 16 := by omega
      have K100 : Hid (∀ (B : Option Addr) (m d : Nat) (don : List UInt8) (v : World), v.ownsRow W.heap.size 5 1 (.slice B m d) m (bv don) → W.heap.size ≤ v.heap.size → m ≤ 100000000 → Calls Try.prog 100 #[.slice B m d, .agg #[.int .i64 yc, .int .i64 yo, .int .i64 yz, .bool yn, .bool yr, .int .i64 yd, .int .i64 ys, .int .i64 yf, .int .i64 ym, .int .i64 ye, .bool yw], .agg #[.int .i64 op, .bool nr, .bool rg, .int .i64 sz, .int .i64 ds, .int .i64 sr, .int .i64 of, .int .i64 im]] v (BytesPost B m d don out W.heap.size v)) :=
        hd fun B m d don v ho hs hm => rbytes_any yc yo yz yd ys yf ym ye yn yr yw op sz ds sr of im nr rg B m d don W.heap.size v ho hs (by omega) b4 b5 (by rw [hf2]; exact b0) (by rw [hf2]; omega) out hbe
      have HY := hd hy
      have HLe := hd hL
      have HN := hd (show (l.take (k + 1)).flatMap Cd.bytes = don ++ out by rw [HD.out, List.flatMap_append, HE.out, List.flatMap_cons, List.flatMap_nil, List.append_nil, hout])
      clear hr hy b0 b1 b2 b3 b4 b5 hf1 hf2 hbe hbl hwl hout hL
      go_upto_region 10 with (first | (go_at_call 88; (with_reducible refine (refFind_cells _ _ _ _ _ _ _ _ Ar 139 cr _ (hrr.ext hX) (by omega)).mono ?_); rw [HY.out]; simp only [FdPost, Option.getD_some, Option.isSome_some, rowC]; rintro e W2 ⟨rfl, hE2⟩) | ((with_reducible refine wl_store134 _ _ _ ?_ ?_ (Blk.new _ _ _) ?_ ?_); exact rfl; exact ⟨_, _, _, _, _, _, _, _, _, _, _, rfl⟩; exact rfl; intro cells hcells; obtain rfl := Value.agg.inj hcells; clear hcells))
      refine wp_world (fun W3 => Ext W2 W3 ∧ Blk W3 W2.heap.size 134 #[.int .i64 yc, .int .i64 yo, .int .i64 yz, .bool yn, .bool yr, .int .i64 yd, .int .i64 ys, .int .i64 yf, .int .i64 ym, .int .i64 ye, .bool yw]) ⟨(Ext.new _ _).row (Nat.le_refl _) _, (Blk.new _ _ _).row _⟩ ?_
      obtain ⟨gy, hgy⟩ : ∃ gy, W2.heap.size = gy := ⟨_, rfl⟩
      rw [hgy]
      rintro W3 ⟨hE3, hB3⟩
      have hX3 := hE2.trans hE3
      have q0 := hX3.cell q0
      have q1 := hX3.cell q1
      have q2 := hX3.cell q2
      have q3 := hX3.cell q3
      have q4 := hX3.cell q4
      have q5 := hX3.cell q5
      have q6 := hX3.cell q6
      have q7 := hX3.cell q7
      have own3 := hX3.own hown
      have XW3 := hX.trans hX3
      have s3 := XW3.size
      obtain ⟨p0, p1, p2, p3, p4, p5, p6, p7, p8, p9, p10⟩ := hB3.c11
      have own3d : W3.drew.ownsRow W.heap.size 5 1 (.slice B m d) m (bv don) := own3
      have s3d : W.heap.size ≤ W3.drew.heap.size := s3
      refine wp_region_still_tail 6 (by kernel_rfl) (by kernel_rfl) ?_
      simp only [List.take_succ_cons, List.take_zero, List.drop_succ_cons, List.drop_zero]
      repeat still_step
      try refine wpStill_nil ?_
      change wpList _ _ _ _ _ W3.drew
      go_wp2_with (go_at_call 100; (with_reducible refine (K100.out B m d don _ own3d s3d (by omega)).mono ?_); rintro e w4 ⟨B4, d4, rfl, own4, app4⟩; have X4 := app4.ext_own XW3.drew own3d (Nat.le_refl _))
      go_roundw
      case rel => exact ⟨k + 1, m + out.length, B4, d4, don ++ out, by omega, by have := HLe.out; omega, by go_num, rfl, own4, X4, HN⟩
      case measure => simp [intOf]; omega
    · obtain rfl : k = n := by omega
      have HU := hd (show l.flatMap Cd.bytes = don by have := HE.out; rwa [List.take_of_length_le (by have := HL.out; omega)] at this)
      have hm' : don.length = m := by have := (Rd.of_own hown).1; rw [bv_length] at this; omega
      have HM := hd hm'
      clear hm'
      go_wp2
      go_ret3
      refine ⟨B, d, ?_, ?_, hXw⟩
      · rw [HU.out, HM.out]
        rfl
      · rw [HU.out, HM.out]
        exact own_base hown (by have := hE.size; omega)

/-- the document's Encode: the bytes, or where and which error, as Cd says -/
theorem REncode_any (A : Option Addr) (n c : Nat) (l : List Cd.Ins) (w : World) (h : Rd w 8 A n (cv l)) (hn : n * 56 ≤ 140737488355328) :
    Calls Try.prog 53 #[.slice A n c] w (CEncPost (Cd.encode l) w) := by
  have hl : l.length = n := by have := h.1; rw [cv_length] at this; omega
  unfold Cd.encode
  obtain ⟨p, r, hc⟩ : ∃ p r, Cd.check l = (p, r) := ⟨_, _, rfl⟩
  rw [hc]
  by_cases hr : r = 0
  · subst hr
    have := check_len l 0 p (by omega) hc
    rw [if_neg (by simp)]
    exact REncode_good A n c l w h (by omega) p hc
  · rw [if_pos (by simpa using hr)]
    exact REncode_bad A n c l w h hn p r hc hr

end Go.Proofs.Ytfcbedkidjclhaa
