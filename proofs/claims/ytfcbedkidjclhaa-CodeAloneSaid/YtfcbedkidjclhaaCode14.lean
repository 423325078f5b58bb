/-
  The contract of package code's next: an instruction.
  Conditions: the reader's box lies there; the bytes can be read.
-/
import Derived.Test.YtfcbedkidjclhaaCode13
import Derived.Deep.CutBlock
namespace Go.Proofs.Ytfcbedkidjclhaa
open Go.RowKit
set_option maxRecDepth 100000
set_option linter.unusedSimpArgs false
set_option linter.unusedVariables false

theorem fields_range {u : List UInt8} (h : 8 ≤ u.length) : (Cd.fields u).op < 256 ∧ (Cd.fields u).dst < 16 ∧ (Cd.fields u).src < 16 ∧ -32768 ≤ (Cd.fields u).off ∧ (Cd.fields u).off < 32768 ∧ -2147483648 ≤ (Cd.fields u).imm ∧ (Cd.fields u).imm < 2147483648 := by
  obtain ⟨a, b, o, m, r, hu, ho, hm, hr⟩ := Cd.unit_split u h
  have h2 := Cd.sgn2_range ho
  have h4 := Cd.sgn4_range hm
  have ha := a.toNat_lt
  have hb := b.toNat_lt
  rw [hu, Cd.fields_mk a b o m r ho hm]
  generalize Cd.sgn 32768 (Pk.val o) = y at h2 ⊢
  generalize Cd.sgn 2147483648 (Pk.val m) = z at h4 ⊢
  exact ⟨by simpa using ha, by simp only; omega, by simp only; omega, h2.1, h2.2, h4.1, h4.2⟩

/-! ### the tail's tests as Booleans -/
def tj (i : Cd.Ins) (f : Cd.F) : Cd.Ins := if Cd.usesOff i = true then i else (Cd.chosen i f.off).getD i
def tk (i : Cd.Ins) (f : Cd.F) : Cd.Ins := Cd.filled (tj i f) f (Cd.usesOff i)
def tv1 (i : Cd.Ins) (f : Cd.F) : Bool := (Cd.usesDst i && !Cd.isReg f.dst (Cd.writesDst i.op)) || (Cd.srcUsed i && !Cd.isReg f.src (Cd.writesSrc i.op f.imm))
def tv2 (i : Cd.Ins) (f : Cd.F) : Bool := (!Cd.usesDst i && ((f.dst : Int) != 0)) || (!Cd.srcUsed i && ((f.src : Int) != 0)) || (!Cd.usesOff i && !(Cd.chosen i f.off).isSome)
def tv3 (i : Cd.Ins) (f : Cd.F) : Bool := (!Cd.usesImm i && ((tk i f).imm != 0)) || (Cd.usesImm i && !Cd.immFits (tk i f)) || !Cd.formed (tk i f)
theorem tail_bool (i : Cd.Ins) (f : Cd.F) : Cd.tail i f = if tv1 i f = true then .error 22 else if tv2 i f = true then .error 23 else if tv3 i f = true then .error 24 else .ok (tk i f, 1) := by
  unfold Cd.tail
  by_cases h1 : tv1 i f = true
  · rw [if_pos h1, if_pos (by unfold tv1 at h1; exact h1)]
  · rw [if_neg h1, if_neg (by unfold tv1 at h1; exact h1)]
    by_cases h2 : (Cd.usesDst i = false ∧ f.dst ≠ 0) ∨ (Cd.srcUsed i = false ∧ f.src ≠ 0)
    · rw [if_pos h2, if_pos (by unfold tv2; simp; rcases h2 with h | h <;> simp [h])]
    · rw [if_neg h2]
      have h3 : ∀ j : Cd.Ins, (if (Cd.usesImm i = false ∧ (Cd.filled j f (Cd.usesOff i)).imm ≠ 0) ∨ (Cd.usesImm i = true ∧ Cd.immFits (Cd.filled j f (Cd.usesOff i)) = false) ∨ Cd.formed (Cd.filled j f (Cd.usesOff i)) = false then (.error 24 : Except Int (Cd.Ins × Nat)) else .ok (Cd.filled j f (Cd.usesOff i), 1)) =
          if ((!Cd.usesImm i && ((Cd.filled j f (Cd.usesOff i)).imm != 0)) || (Cd.usesImm i && !Cd.immFits (Cd.filled j f (Cd.usesOff i))) || !Cd.formed (Cd.filled j f (Cd.usesOff i))) = true then .error 24 else .ok (Cd.filled j f (Cd.usesOff i), 1) := by
        intro j
        congr 1
        simp [or_assoc]
      cases ho : Cd.usesOff i with
      | true =>
        have h4 : tv2 i f = false := by unfold tv2; rw [ho]; simp; simp at h2; grind
        rw [if_pos rfl, if_neg (by rw [h4]; decide)]
        dsimp only
        have h5 : tj i f = i := by unfold tj; rw [if_pos ho]
        have h6 := h3 i
        rw [ho] at h6
        rw [h6]
        unfold tv3 tk
        rw [h5, ho]
      | false =>
        cases hc : Cd.chosen i f.off with
        | none =>
          have h4 : tv2 i f = true := by unfold tv2; rw [ho, hc]; simp
          rw [if_neg (by decide), if_pos h4]
        | some j =>
          have h4 : tv2 i f = false := by unfold tv2; rw [hc]; simp; simp at h2; grind
          rw [if_neg (by decide), if_neg (by rw [h4]; decide)]
          dsimp only
          have h5 : tj i f = j := by unfold tj; rw [if_neg (by rw [ho]; decide), hc]; rfl
          have h6 := h3 j
          rw [ho] at h6
          rw [h6]
          unfold tv3 tk
          rw [h5, ho]

set_option maxHeartbeats 4000000 in
theorem next_any (g : Nat) (A : Option Addr) (N c p : Nat) (bs : List UInt8) (w : World) (hB : Blk w g 126 #[.slice A N c, .int .i64 p]) (hR : Rd w 1 A N (bv bs)) (hc : N ≤ c) (hN : N ≤ 281474976710656) (hp : 8 * p ≤ N) :
    Calls Try.prog 85 #[.pointer (some ⟨g, 0, none⟩)] w (NPost g A N c p (Cd.next (bs.drop (8 * p))) w) := by
  have hl : bs.length = N := by have := hR.1; rw [bv_length] at this; omega
  have hul : (bs.drop (8 * p)).length / 8 = N / 8 - p := by rw [List.length_drop, hl]; omega
  have hpN : p ≤ 281474976710656 := by omega
  have hgo : g < w.heap.size := hB.lt
  obtain ⟨X, hX⟩ : ∃ X, Cd.next (bs.drop (8 * p)) = X := ⟨_, rfl⟩
  rw [hX]
  rw [Cd.next_eq, hul] at hX
  by_cases h1 : N / 8 - p < 1
  · rw [if_pos h1] at hX
    have HX := hd hX
    clear hX
    have e1 : (((N : Int) / 8) - (p : Int) < 1) := by omega
    clear h1
    go_enter Try.func85, Try.ntmps85
    go_upto_region 1 with (fail)
    refine wp_world (fun W => Ext w W) (Ext.new _ _) ?_
    intro W hX
    have hB1 := hB.ext hX
    go_wp2_with (first | (go_at_call 118; (with_reducible refine (left_any g A N c p _ hB1 hN hpN).mono ?_); rintro e v ⟨rfl, n, rfl⟩; rw [left_val]) | (go_at_call 84; (with_reducible refine (giveUp_any g _ p 20 _ (hB1.drewN n)).mono ?_); rintro e v ⟨rfl, rfl⟩))
    rw [← HX.out]
    exact ⟨rfl, rfl, (Gr.of_ext hX).drewN n⟩
  · rw [if_neg h1] at hX
    have e1 : ¬ (((N : Int) / 8) - (p : Int) < 1) := by omega
    have hk : 8 * p + 8 ≤ N := by omega
    clear h1
    have hfr := fields_range (u := bs.drop (8 * p)) (by rw [List.length_drop, hl]; omega)
    have HU0 : ∀ W, Blk W g 126 #[.slice A N c, .int .i64 p] → Rd W 1 A N (bv bs) → Calls Try.prog 119 #[.pointer (some ⟨g, 0, none⟩), .int .i64 p] W fun e w' => e = .returned (.agg (fv (Cd.fields (bs.drop (8 * p))))) ∧ Ext W w' :=
      fun W h1 h2 => unit_any g A N c p p bs W h1 h2 hk hc hN
    have HWD : ∀ W, Blk W g 126 #[.slice A N c, .int .i64 p] → Rd W 1 A N (bv bs) → Calls Try.prog 121 #[.pointer (some ⟨g, 0, none⟩), .agg (fv (Cd.fields (bs.drop (8 * p))))] W (NPost g A N c p (Cd.nextWide (Cd.fields (bs.drop (8 * p))) (bs.drop (8 * p))) W) :=
      fun W h1 h2 => nextWide_any g A N c p bs _ W h1 h2 hc hN hp hfr.2.2.2.2.2.1 hfr.2.2.2.2.2.2
    obtain ⟨Y, hY⟩ : ∃ Y, Cd.nextWide (Cd.fields (bs.drop (8 * p))) (bs.drop (8 * p)) = Y := ⟨_, rfl⟩
    rw [hY] at hX HWD
    clear hY
    generalize Cd.fields (bs.drop (8 * p)) = F at hX hfr HU0 HWD
    obtain ⟨op, dst, src, off, imm⟩ := F
    try dsimp only at hX hfr
    obtain ⟨b0, b1, b2, b3, b4, b5, b6⟩ := hfr
    have HO := fun W => operation_any op b0 W
    generalize Cd.operation op = PP at hX HO
    obtain ⟨⟨iop, nr, rg, sz, di, si, oi, mi⟩, ok⟩ := PP
    try dsimp only at hX
    have HX := hd hX
    clear hX
    have HO1 := hd HO
    have HU1 := hd HU0
    have HW1 := hd HWD
    clear HO HU0 HWD b0 b1 b2 b3 b4 b5 b6
    go_enter Try.func85, Try.ntmps85
    go_upto_region 1 with (fail)
    refine wp_world (fun W => Ext w W ∧ Blk W w.heap.size 64 zero64) ⟨Ext.new _ _, Blk.new _ _ _⟩ ?_
    rintro W ⟨hX, hZ⟩
    have hB1 := hB.ext hX
    have hR1 := hR.ext hX
    go_upto_region 3 with (go_at_call 118; (with_reducible refine (left_any g A N c p _ hB1 hN hpN).mono ?_); rintro e v ⟨rfl, n, rfl⟩; rw [left_val])
    have hB2 := hB1.drewN n
    have hR2 := hR1.drewN n
    have hX2 := hX.drewN n
    have hZ2 := hZ.drewN n
    clear hB1 hR1 hX hZ
    generalize W.drewN n = W2 at hB2 hR2 hX2 hZ2 ⊢
    obtain ⟨r0, r1⟩ := hB2.c2
    go_upto_region 4 with (first | (go_at_call 119; (with_reducible refine (HU1.out _ hB2 hR2).mono ?_); rintro e w3 ⟨rfl, hX3⟩) | ((with_reducible refine wl_store161 _ _ _ ?_ ?_ (Blk.new _ 161 _) ?_ ?_); exact rfl; exact ⟨_, _, _, _, _, rfl⟩; exact rfl; intro cells hcells; obtain rfl := Value.agg.inj hcells; clear hcells))
    have hne : w.heap.size < w3.heap.size := by have := hZ2.lt; have := hX3.size; omega
    refine wp_world (fun W => Ext w W ∧ Blk W w.heap.size 64 zero64 ∧ Blk W w3.heap.size 161 #[.int .i64 op, .int .i64 dst, .int .i64 src, .int .i64 off, .int .i64 imm] ∧ Blk W g 126 #[.slice A N c, .int .i64 p] ∧ Rd W 1 A N (bv bs)) ⟨((hX2.trans hX3).alloc _).row (by omega) _, ((hZ2.ext hX3).alloc _).row_far (by omega) _, (Blk.new _ _ _).row _, ((hB2.ext hX3).alloc _).row_far (by omega) _, hR.ext (((hX2.trans hX3).alloc _).row (by omega) _)⟩ ?_
    clear hX3 hX2 hZ2 hB2 hR2 r0 r1
    generalize w3.heap.size = gf at hne
    rintro W4 ⟨hX4, hZ4, hF4, hB4, hR4⟩
    obtain ⟨f0, f1, f2, f3, f4⟩ := hF4.c5
    go_upto_region 5 with (first | (go_at_call 120; (with_reducible refine (HO1.out _).mono ?_); rintro e w5 ⟨rfl, hX5⟩) | ((with_reducible refine wl_store64 _ _ _ ?_ ?_ (Blk.new _ 64 _) ?_ ?_); exact rfl; exact ⟨_, _, _, _, _, _, _, _, rfl⟩; exact rfl; intro cells hcells; obtain rfl := Value.agg.inj hcells; clear hcells))
    have hne2 : gf < w5.heap.size := by have := hF4.lt; have := hX5.size; omega
    refine wp_world (fun W => Ext w W ∧ Blk W w.heap.size 64 zero64 ∧ Blk W gf 161 #[.int .i64 op, .int .i64 dst, .int .i64 src, .int .i64 off, .int .i64 imm] ∧ Blk W w5.heap.size 64 #[.int .i64 iop, .bool nr, .bool rg, .int .i64 sz, .int .i64 di, .int .i64 si, .int .i64 oi, .int .i64 mi] ∧ Blk W g 126 #[.slice A N c, .int .i64 p] ∧ Rd W 1 A N (bv bs)) ⟨((hX4.trans hX5).alloc _).row (by omega) _, ((hZ4.ext hX5).alloc _).row_far (by omega) _, ((hF4.ext hX5).alloc _).row_far (by omega) _, (Blk.new _ _ _).row _, ((hB4.ext hX5).alloc _).row_far (by omega) _, hR.ext (((hX4.trans hX5).alloc _).row (by omega) _)⟩ ?_
    clear hX4 hX5 hZ4 hF4 hB4 hR4 f0 f1 f2 f3 f4
    generalize w5.heap.size = gi at hne2
    rintro W5 ⟨hX5, hZ5, hF5, hI5, hB5, hR5⟩
    obtain ⟨f0, f1, f2, f3, f4⟩ := hF5.c5
    obtain ⟨i0, i1, i2, i3, i4, i5, i6, i7⟩ := hI5.c8
    cases ok with
    | false =>
      go_wp2_with (go_at_call 84; (with_reducible refine (giveUp_any g _ p 21 _ hB5).mono ?_); rintro e v ⟨rfl, rfl⟩)
      rw [← HX.out]
      exact ⟨rfl, rfl, Gr.of_ext hX5⟩
    | true =>
      by_cases h20 : iop = 20
      · have hW2 := HW1.out W5 hB5 hR5
        simp only [fv] at hW2
        have b20 : (iop == 20) = true := by simpa using h20
        have HY : X = Y := by rw [← HX.out, h20]; simp
        clear HX h20 HW1
        subst HY
        have HW2 := hd hW2
        clear hW2
        cases X with
        | error er =>
          go_wp2_with (first | ((with_reducible refine wl_load161 _ _ ?_ hF5 ?_ ?_); exact rfl; exact rfl) | (go_at_call 121; (with_reducible refine HW2.out.mono ?_); rintro e v ⟨rfl, hG⟩; unfold stopE))
          exact ⟨rfl, rfl, (Gr.of_ext hX5).trans hG⟩
        | ok xk =>
          obtain ⟨x, k⟩ := xk
          go_wp2_with (first | ((with_reducible refine wl_load161 _ _ ?_ hF5 ?_ ?_); exact rfl; exact rfl) | (go_at_call 121; (with_reducible refine HW2.out.mono ?_); rintro e v ⟨rfl, hBv, hG⟩; have hZv := hG.blk hZ5 (by omega)) | ((with_reducible refine wl_store64 _ _ _ ?_ ?_ hZv ?_ ?_); exact rfl; exact ⟨_, _, _, _, _, _, _, _, rfl⟩; exact rfl; intro cells hcells; obtain rfl := Value.agg.inj hcells; clear hcells))
          refine bodyPost_ret (results_cell_row rfl _ _ w.heap.size 64 _ (0, 0) _ rfl (hZv.row _) Try.underlying64 rfl (by kernel_rfl)) rfl ?_
          exact ⟨rfl, hBv.row_far (by omega) _, ((Gr.of_ext hX5).trans hG).row (by omega) _⟩
      · have b20 : (iop == 20) = false := by simpa using h20
        have HT := hd (show X = Cd.tail ⟨iop, nr, rg, sz, di, si, oi, mi⟩ ⟨op, dst, src, off, imm⟩ by rw [← HX.out]; simp [h20])
        clear HX h20 HW1 HO1 HU1
        obtain ⟨D, hD⟩ : ∃ b, Cd.usesDst ⟨iop, nr, rg, sz, di, si, oi, mi⟩ = b := ⟨_, rfl⟩
        obtain ⟨S, hS⟩ : ∃ b, Cd.usesSrc ⟨iop, nr, rg, sz, di, si, oi, mi⟩ = b := ⟨_, rfl⟩
        obtain ⟨O, hO⟩ : ∃ b, Cd.usesOff ⟨iop, nr, rg, sz, di, si, oi, mi⟩ = b := ⟨_, rfl⟩
        obtain ⟨M, hM⟩ : ∃ b, Cd.usesImm ⟨iop, nr, rg, sz, di, si, oi, mi⟩ = b := ⟨_, rfl⟩
        have hSS : Cd.srcUsed ⟨iop, nr, rg, sz, di, si, oi, mi⟩ = S := by rw [← hS]; unfold Cd.srcUsed Cd.usesSrc Cd.second; dsimp only; grind
        have hE : (iop == 15 && rg) = true → S = true := by rw [← hS]; unfold Cd.usesSrc Cd.second; dsimp only; grind
        have HD := hd hD
        have HS := hd hS
        have HSS := hd hSS
        have HO := hd hO
        have HM := hd hM
        clear hD hS hSS hO hM
        obtain ⟨b1, hb1⟩ : ∃ b, Cd.isReg (dst : Int) (Cd.writesDst iop) = b := ⟨_, rfl⟩
        obtain ⟨b2, hb2⟩ : ∃ b, Cd.isReg (src : Int) (Cd.writesSrc iop imm) = b := ⟨_, rfl⟩
        have HB1 := hd hb1
        have HB2 := hd hb2
        obtain ⟨a1, ha1⟩ : ∃ b, ((dst : Int) != 0) = b := ⟨_, rfl⟩
        obtain ⟨a2, ha2⟩ : ∃ b, ((src : Int) != 0) = b := ⟨_, rfl⟩
        obtain ⟨cs, hcs⟩ : ∃ b, (Cd.chosen ⟨iop, nr, rg, sz, di, si, oi, mi⟩ off).isSome = b := ⟨_, rfl⟩
        have hV1 : tv1 ⟨iop, nr, rg, sz, di, si, oi, mi⟩ ⟨op, dst, src, off, imm⟩ = ((D && !b1) || (S && !b2)) := by unfold tv1; rw [HD.out, HSS.out, hb1, hb2]
        have hV2 : tv2 ⟨iop, nr, rg, sz, di, si, oi, mi⟩ ⟨op, dst, src, off, imm⟩ = ((!D && a1) || (!S && a2) || (!O && !cs)) := by unfold tv2; rw [HD.out, HSS.out, HO.out, hcs, ha1, ha2]
        obtain ⟨jop, jn, jr, js, jd, jx, jo, ji, hj⟩ : ∃ jop jn jr js jd jx jo ji, tj ⟨iop, nr, rg, sz, di, si, oi, mi⟩ ⟨op, dst, src, off, imm⟩ = ⟨jop, jn, jr, js, jd, jx, jo, ji⟩ := ⟨_, _, _, _, _, _, _, _, rfl⟩
        obtain ⟨rr, hrr⟩ : ∃ b, decide (17 ≤ jop ∧ jop ≤ 19) = b := ⟨_, rfl⟩
        obtain ⟨ko, hko⟩ : ∃ k, (if O = true then off else jo) = k := ⟨_, rfl⟩
        obtain ⟨ks, hks⟩ : ∃ k, (if rr = true then imm else js) = k := ⟨_, rfl⟩
        obtain ⟨km, hkm⟩ : ∃ k, (if rr = true then ji else imm) = k := ⟨_, rfl⟩
        have hk : tk ⟨iop, nr, rg, sz, di, si, oi, mi⟩ ⟨op, dst, src, off, imm⟩ = ⟨jop, jn, jr, ks, dst, src, ko, km⟩ := by
          unfold tk Cd.filled
          rw [hj, HO.out, ← hko, ← hks, ← hkm]
          dsimp only
          cases rr with
          | true => have := of_decide_eq_true hrr; rw [if_pos this, if_pos rfl, if_pos rfl]
          | false => have := of_decide_eq_false hrr; rw [if_neg this]; simp only [Bool.false_eq_true, if_false]
        obtain ⟨a3, ha3⟩ : ∃ b, (km != 0) = b := ⟨_, rfl⟩
        obtain ⟨b3, hb3⟩ : ∃ b, Cd.immFits ⟨jop, jn, jr, ks, dst, src, ko, km⟩ = b := ⟨_, rfl⟩
        obtain ⟨b4, hb4⟩ : ∃ b, Cd.formed ⟨jop, jn, jr, ks, dst, src, ko, km⟩ = b := ⟨_, rfl⟩
        have hV3 : tv3 ⟨iop, nr, rg, sz, di, si, oi, mi⟩ ⟨op, dst, src, off, imm⟩ = ((!M && a3) || (M && !b3) || !b4) := by unfold tv3; rw [HM.out, hk, hb3, hb4, ← ha3]
        have hT := HT.out
        rw [tail_bool, hk] at hT
        clear HT
        generalize tv1 ⟨iop, nr, rg, sz, di, si, oi, mi⟩ ⟨op, dst, src, off, imm⟩ = V1 at hT hV1
        generalize tv2 ⟨iop, nr, rg, sz, di, si, oi, mi⟩ ⟨op, dst, src, off, imm⟩ = V2 at hT hV2
        generalize tv3 ⟨iop, nr, rg, sz, di, si, oi, mi⟩ ⟨op, dst, src, off, imm⟩ = V3 at hT hV3
        have HT := hd hT
        have HV1 := hd hV1
        have HV2 := hd hV2
        have HV3 := hd hV3
        have HJ := hd hj
        have HR := hd hrr
        have HKO := hd hko
        have HKS := hd hks
        have HKM := hd hkm
        have HC := hd hcs
        have HB3 := hd hb3
        have HB4 := hd hb4
        have HA3 := hd ha3
        clear hT hV1 hV2 hV3 hj hrr hko hks hkm hcs hb3 hb4 ha3 hk
        obtain ⟨E, hEE⟩ : ∃ e, (iop == 15 && rg) = e := ⟨_, rfl⟩
        rw [hEE] at hE
        have HE := hd hEE
        have HES := hd hE
        clear hE hEE
        go_upto_region 10 with (first | ((with_reducible refine wl_load64 _ _ ?_ hI5 ?_ ?_); exact rfl; exact rfl) | (go_at_call 122; (with_reducible refine (uses_any iop nr rg sz di si oi mi _).mono ?_); rw [HD.out, HS.out, HO.out, HM.out]; rintro e w6 ⟨rfl, hX6⟩))
        refine wp_world (fun W => Ext w W ∧ Blk W w.heap.size 64 zero64 ∧ Blk W gf 161 #[.int .i64 op, .int .i64 dst, .int .i64 src, .int .i64 off, .int .i64 imm] ∧ Blk W gi 64 #[.int .i64 iop, .bool nr, .bool rg, .int .i64 sz, .int .i64 di, .int .i64 si, .int .i64 oi, .int .i64 mi] ∧ Blk W g 126 #[.slice A N c, .int .i64 p]) ⟨hX5.trans hX6, hZ5.ext hX6, hF5.ext hX6, hI5.ext hX6, hB5.ext hX6⟩ ?_
        clear hX5 hX6 hZ5 hF5 hI5 hB5 hR5 f0 f1 f2 f3 f4 i0 i1 i2 i3 i4 i5 i6 i7
        rintro W6 ⟨hX6, hZ6, hF6, hI6, hB6⟩
        obtain ⟨f0, f1, f2, f3, f4⟩ := hF6.c5
        obtain ⟨i0, i1, i2, i3, i4, i5, i6, i7⟩ := hI6.c8
        go_cut [50] from 44 to 50 (fun b W => b = .bool E ∧ W = W6)
        case first =>
          cases h15 : (iop == 15)
          all_goals go_wp2
          all_goals go_meet
          all_goals case rel => exact ⟨congrArg Value.bool (by rw [← HE.out]; simp [*]), rfl⟩
        case rest =>
          obtain ⟨rfl, hwc⟩ := hcut
          rw [hwc]
          clear hwc wc
          go_upto_if 50 with (fail)
          go_cut [7] from 51 to 51 (fun b W => b = .bool S ∧ W = W6)
          case first =>
            cases E
            all_goals go_wp2
            all_goals go_meet
            · case rel => exact ⟨rfl, rfl⟩
            · case rel => exact ⟨congrArg Value.bool (by have h := HES.out; revert h; cases S <;> simp), rfl⟩
          case rest =>
            obtain ⟨rfl, hwc⟩ := hcut
            rw [hwc]
            clear hwc wc HE HES
            go_upto_region 12 with (fail)
            go_cut [74] from 51 to 74 (fun b W => b = .bool V1 ∧ ∃ n, W = W6.drewN n)
            case first =>
              cases D <;> cases S <;> cases b1 <;> cases b2
              all_goals go_quiet (first | (go_at_call 124; exact Calls.quiet_of_same (qs (writesDst_any _ _))) | (go_at_call 125; exact Calls.quiet_of_same (qs (writesSrc_any _ _ _))) | (go_at_call 123; exact Calls.quiet_of_same (qs (isReg_any _ _ _))))
              all_goals (go_wp2_with fail)
              all_goals go_meet
              all_goals case rel => exact ⟨congrArg Value.bool (by have h := HV1.out; revert h; cases V1 <;> simp), _, rfl⟩
            case rest =>
              obtain ⟨rfl, nq, hwc⟩ := hcut
              rw [hwc]
              clear hwc wc f0 f1 f2 f3 f4 i0 i1 i2 i3 i4 i5 i6 i7
              have hX7 := hX6.drewN nq
              have hZ7 := hZ6.drewN nq
              have hF7 := hF6.drewN nq
              have hI7 := hI6.drewN nq
              have hB7 := hB6.drewN nq
              clear hX6 hZ6 hF6 hI6 hB6
              generalize W6.drewN nq = W7 at hX7 hZ7 hF7 hI7 hB7 ⊢
              obtain ⟨f0, f1, f2, f3, f4⟩ := hF7.c5
              obtain ⟨i0, i1, i2, i3, i4, i5, i6, i7⟩ := hI7.c8
              cases V1 with
              | true =>
                go_wp2_with (go_at_call 84; (with_reducible refine (giveUp_any g _ p 22 _ hB7).mono ?_); rintro e v ⟨rfl, rfl⟩)
                rw [show X = .error 22 by rw [HT.out]; simp]
                exact ⟨rfl, rfl, Gr.of_ext hX7⟩
              | false =>
                go_upto_region 14 with (fail)
                go_cut [103] from 77 to 103 (fun b W => b = .bool V2 ∧ Ext w W ∧ Blk W w.heap.size 64 zero64 ∧ Blk W gf 161 #[.int .i64 op, .int .i64 dst, .int .i64 src, .int .i64 off, .int .i64 imm] ∧ Blk W g 126 #[.slice A N c, .int .i64 p] ∧ (V2 = false → Blk W gi 64 #[.int .i64 jop, .bool jn, .bool jr, .int .i64 js, .int .i64 jd, .int .i64 jx, .int .i64 jo, .int .i64 ji]))
                case first =>
                  have hI8 : Blk W7 gi 64 (insC ⟨iop, nr, rg, sz, di, si, oi, mi⟩) := hI7
                  have HI8 := hd hI8
                  clear hI8
                  cases D <;> cases S <;> cases O <;> cases a1 <;> cases a2
                  all_goals go_wp2_with (go_at_call 126; (with_reducible refine (chosen_any _ gi ⟨iop, nr, rg, sz, di, si, oi, mi⟩ off _ HI8.out).mono ?_); unfold ChPost; rw [HC.out]; rintro e w8 ⟨rfl, hI9, hG9⟩)
                  all_goals go_meet
                  all_goals case rel =>
                    first
                      | (refine ⟨?_, hG9.ext hX7 (by omega), hG9.blk hZ7 (by omega), hG9.blk hF7 (by omega), hG9.blk hB7 (by omega), fun hv => ?_⟩
                         · exact congrArg Value.bool (by have h := HV2.out; revert h; cases V2 <;> cases cs <;> simp)
                         · have hj := HJ.out
                           unfold tj at hj
                           rw [HO.out, if_neg (by decide)] at hj
                           dsimp only at hj
                           rw [hj] at hI9
                           exact hI9)
                      | (refine ⟨?_, hX7, hZ7, hF7, hB7, fun hv => ?_⟩
                         · exact congrArg Value.bool (by have h := HV2.out; revert h; cases V2 <;> simp)
                         · first
                             | (subst hv; exfalso; have h := HV2.out; simp at h; done)
                             | (have hj := HJ.out
                                unfold tj at hj
                                rw [HO.out, if_pos rfl] at hj
                                show Blk W7 gi 64 (insC ⟨jop, jn, jr, js, jd, jx, jo, ji⟩)
                                rw [← hj]
                                exact HI8.out))
                case rest =>
                  obtain ⟨rfl, hX8, hZ8, hF8, hB8, hI8⟩ := hcut
                  clear f0 f1 f2 f3 f4 i0 i1 i2 i3 i4 i5 i6 i7 hX7 hZ7 hF7 hI7 hB7
                  cases V2 with
                  | true =>
                    go_wp2_with (go_at_call 84; (with_reducible refine (giveUp_any g _ p 23 _ hB8).mono ?_); rintro e v ⟨rfl, rfl⟩)
                    rw [show X = .error 23 by rw [HT.out]; simp]
                    exact ⟨rfl, rfl, Gr.of_ext hX8⟩
                  | false =>
                    replace hI8 := hI8 rfl
                    go_upto_region 16 with (fail)
                    refine wp_world (fun W => Ext w W ∧ Blk W w.heap.size 64 zero64 ∧ Blk W gf 161 #[.int .i64 op, .int .i64 dst, .int .i64 src, .int .i64 off, .int .i64 imm] ∧ Blk W g 126 #[.slice A N c, .int .i64 p] ∧ Blk W gi 64 #[.int .i64 jop, .bool jn, .bool jr, .int .i64 js, .int .i64 jd, .int .i64 jx, .int .i64 jo, .int .i64 ji]) ⟨hX8, hZ8, hF8, hB8, hI8⟩ ?_
                    clear hX8 hZ8 hF8 hB8 hI8
                    rintro W8 ⟨hX8, hZ8, hF8, hB8, hI8⟩
                    obtain ⟨f0, f1, f2, f3, f4⟩ := hF8.c5
                    obtain ⟨i0, i1, i2, i3, i4, i5, i6, i7⟩ := hI8.c8
                    obtain ⟨z0, z1, z2, z3, z4, z5, z6, z7⟩ := hI8.f8
                    go_region
                    go_upto_if 112 with (fail)
                    refine wp_world (fun W => Ext w W ∧ Blk W w.heap.size 64 zero64 ∧ Blk W gf 161 #[.int .i64 op, .int .i64 dst, .int .i64 src, .int .i64 off, .int .i64 imm] ∧ Blk W g 126 #[.slice A N c, .int .i64 p] ∧ Blk W gi 64 #[.int .i64 jop, .bool jn, .bool jr, .int .i64 js, .int .i64 dst, .int .i64 src, .int .i64 jo, .int .i64 ji])
                      ⟨by first | exact ((hX8.set (p := ⟨gi, 4, none⟩) (by simp only; omega) _).set (p := ⟨gi, 5, none⟩) (by simp only; omega) _).drew, (hZ8.far (p := ⟨gi, 4, none⟩) (by simp only; omega) _).far (p := ⟨gi, 5, none⟩) (by simp only; omega) _, (hF8.far (p := ⟨gi, 4, none⟩) (by simp only; omega) _).far (p := ⟨gi, 5, none⟩) (by simp only; omega) _, (hB8.far (p := ⟨gi, 4, none⟩) (by simp only; omega) _).far (p := ⟨gi, 5, none⟩) (by simp only; omega) _, (hI8.set_ 4 _).set_ 5 _⟩ ?_
                    clear hX8 hZ8 hF8 hB8 hI8 f0 f1 f2 f3 f4 i0 i1 i2 i3 i4 i5 i6 i7 z0 z1 z2 z3 z4 z5 z6 z7
                    rintro W9 ⟨hX8, hZ8, hF8, hB8, hI8⟩
                    obtain ⟨f0, f1, f2, f3, f4⟩ := hF8.c5
                    obtain ⟨i0, i1, i2, i3, i4, i5, i6, i7⟩ := hI8.c8
                    obtain ⟨z0, z1, z2, z3, z4, z5, z6, z7⟩ := hI8.f8
                    go_cut [] from 113 to 115 (fun W => Ext w W ∧ Blk W w.heap.size 64 zero64 ∧ Blk W gf 161 #[.int .i64 op, .int .i64 dst, .int .i64 src, .int .i64 off, .int .i64 imm] ∧ Blk W g 126 #[.slice A N c, .int .i64 p] ∧ Blk W gi 64 #[.int .i64 jop, .bool jn, .bool jr, .int .i64 js, .int .i64 dst, .int .i64 src, .int .i64 ko, .int .i64 ji])
                    case first =>
                      cases O
                      all_goals go_wp2
                      all_goals go_meet
                      · case rel =>
                          have h := HKO.out
                          simp only [Bool.false_eq_true, if_false] at h
                          subst h
                          exact ⟨hX8, hZ8, hF8, hB8, hI8⟩
                      · case rel =>
                          have h := HKO.out
                          simp only [if_true] at h
                          subst h
                          exact ⟨hX8.set (p := ⟨gi, 6, none⟩) (by simp only; omega) _, hZ8.far (p := ⟨gi, 6, none⟩) (by simp only; omega) _, hF8.far (p := ⟨gi, 6, none⟩) (by simp only; omega) _, hB8.far (p := ⟨gi, 6, none⟩) (by simp only; omega) _, hI8.set_ 6 _⟩
                    case rest =>
                      clear hX8 hZ8 hF8 hB8 hI8 f0 f1 f2 f3 f4 i0 i1 i2 i3 i4 i5 i6 i7 z0 z1 z2 z3 z4 z5 z6 z7
                      obtain ⟨hX8, hZ8, hF8, hB8, hI8⟩ := hcut
                      go_upto_block 0 with (fail)
                      refine wp_world (fun W => Ext w W ∧ Blk W w.heap.size 64 zero64 ∧ Blk W gf 161 #[.int .i64 op, .int .i64 dst, .int .i64 src, .int .i64 off, .int .i64 imm] ∧ Blk W g 126 #[.slice A N c, .int .i64 p] ∧ Blk W gi 64 #[.int .i64 jop, .bool jn, .bool jr, .int .i64 js, .int .i64 dst, .int .i64 src, .int .i64 ko, .int .i64 ji]) ⟨hX8, hZ8, hF8, hB8, hI8⟩ ?_
                      clear hX8 hZ8 hF8 hB8 hI8
                      rintro W10 ⟨hX8, hZ8, hF8, hB8, hI8⟩
                      obtain ⟨f0, f1, f2, f3, f4⟩ := hF8.c5
                      obtain ⟨i0, i1, i2, i3, i4, i5, i6, i7⟩ := hI8.c8
                      obtain ⟨z0, z1, z2, z3, z4, z5, z6, z7⟩ := hI8.f8
                      go_cut [] from 116 to 130 (fun W => Ext w W ∧ Blk W w.heap.size 64 zero64 ∧ Blk W gf 161 #[.int .i64 op, .int .i64 dst, .int .i64 src, .int .i64 off, .int .i64 imm] ∧ Blk W g 126 #[.slice A N c, .int .i64 p] ∧ Blk W gi 64 #[.int .i64 jop, .bool jn, .bool jr, .int .i64 ks, .int .i64 dst, .int .i64 src, .int .i64 ko, .int .i64 km])
                      case first =>
                        have c3 : (rr = true ∧ (jop ≥ 17) ∧ (jop ≤ 19)) ∨ (rr = false ∧ (jop ≥ 17) ∧ ¬ (jop ≤ 19)) ∨ (rr = false ∧ ¬ (jop ≥ 17)) := by
                          have h := HR.out
                          cases rr
                          · have := of_decide_eq_false h
                            by_cases hq : jop ≥ 17
                            · exact .inr (.inl ⟨rfl, hq, by omega⟩)
                            · exact .inr (.inr ⟨rfl, hq⟩)
                          · have := of_decide_eq_true h; exact .inl ⟨rfl, this.1, this.2⟩
                        rcases c3 with ⟨hr, c1, c2⟩ | ⟨hr, c1, c2⟩ | ⟨hr, c1⟩
                        all_goals go_wp2
                        all_goals go_meet
                        · case rel =>
                            have h := HKS.out
                            have h' := HKM.out
                            rw [hr] at h h'
                            simp only [if_true] at h h'
                            subst h h'
                            exact ⟨hX8.set (p := ⟨gi, 3, none⟩) (by simp only; omega) _, hZ8.far (p := ⟨gi, 3, none⟩) (by simp only; omega) _, hF8.far (p := ⟨gi, 3, none⟩) (by simp only; omega) _, hB8.far (p := ⟨gi, 3, none⟩) (by simp only; omega) _, hI8.set_ 3 _⟩
                        all_goals case rel =>
                            have h := HKS.out
                            have h' := HKM.out
                            rw [hr] at h h'
                            simp only [Bool.false_eq_true, if_false] at h h'
                            subst h h'
                            exact ⟨hX8.set (p := ⟨gi, 7, none⟩) (by simp only; omega) _, hZ8.far (p := ⟨gi, 7, none⟩) (by simp only; omega) _, hF8.far (p := ⟨gi, 7, none⟩) (by simp only; omega) _, hB8.far (p := ⟨gi, 7, none⟩) (by simp only; omega) _, hI8.set_ 7 _⟩
                      case rest =>
                        clear hX8 hZ8 hF8 hB8 hI8 f0 f1 f2 f3 f4 i0 i1 i2 i3 i4 i5 i6 i7 z0 z1 z2 z3 z4 z5 z6 z7
                        obtain ⟨hX8, hZ8, hF8, hB8, hI8⟩ := hcut
                        go_upto_region 22 with (fail)
                        refine wp_world (fun W => Ext w W ∧ Blk W w.heap.size 64 zero64 ∧ Blk W gf 161 #[.int .i64 op, .int .i64 dst, .int .i64 src, .int .i64 off, .int .i64 imm] ∧ Blk W g 126 #[.slice A N c, .int .i64 p] ∧ Blk W gi 64 #[.int .i64 jop, .bool jn, .bool jr, .int .i64 ks, .int .i64 dst, .int .i64 src, .int .i64 ko, .int .i64 km]) ⟨hX8, hZ8, hF8, hB8, hI8⟩ ?_
                        clear hX8 hZ8 hF8 hB8 hI8
                        rintro W11 ⟨hX8, hZ8, hF8, hB8, hI8⟩
                        obtain ⟨i0, i1, i2, i3, i4, i5, i6, i7⟩ := hI8.c8
                        go_cut [150] from 131 to 150 (fun b W => b = .bool V3 ∧ Ext w W ∧ Blk W w.heap.size 64 zero64 ∧ Blk W gf 161 #[.int .i64 op, .int .i64 dst, .int .i64 src, .int .i64 off, .int .i64 imm] ∧ Blk W g 126 #[.slice A N c, .int .i64 p] ∧ Blk W gi 64 #[.int .i64 jop, .bool jn, .bool jr, .int .i64 ks, .int .i64 dst, .int .i64 src, .int .i64 ko, .int .i64 km])
                        case first =>
                          have ha3 := HA3.out
                          cases M <;> cases a3 <;> cases b3 <;> cases b4
                          all_goals go_wp2_with (first | (go_at_call 127; (with_reducible refine (immFits_any _ _ _ _ _ _ _ _ _).mono ?_); rw [HB3.out]; rintro e w12 ⟨rfl, hX12⟩; clear i0 i1 i2 i3 i4 i5 i6 i7; obtain ⟨i0, i1, i2, i3, i4, i5, i6, i7⟩ := (hI8.ext hX12).c8) | (go_at_call 128; (with_reducible refine (formed_any _ _ _ _ _ _ _ _ _).mono ?_); rw [HB4.out]; rintro e w13 ⟨rfl, hX13⟩))
                          all_goals go_meet
                          all_goals case rel =>
                            refine ⟨congrArg Value.bool (by have h := HV3.out; revert h; cases V3 <;> simp), ?_⟩
                            first
                              | exact ⟨hX8, hZ8, hF8, hB8, hI8⟩
                              | exact ⟨hX8.trans hX12, hZ8.ext hX12, hF8.ext hX12, hB8.ext hX12, hI8.ext hX12⟩
                              | exact ⟨hX8.trans hX13, hZ8.ext hX13, hF8.ext hX13, hB8.ext hX13, hI8.ext hX13⟩
                              | exact ⟨(hX8.trans hX12).trans hX13, (hZ8.ext hX12).ext hX13, (hF8.ext hX12).ext hX13, (hB8.ext hX12).ext hX13, (hI8.ext hX12).ext hX13⟩
                        case rest =>
                          clear hX8 hZ8 hF8 hB8 hI8 i0 i1 i2 i3 i4 i5 i6 i7
                          obtain ⟨rfl, hX8, hZ8, hF8, hB8, hI8⟩ := hcut
                          cases V3 with
                          | true =>
                            go_wp2_with (go_at_call 84; (with_reducible refine (giveUp_any g _ p 24 _ hB8).mono ?_); rintro e v ⟨rfl, rfl⟩)
                            rw [show X = .error 24 by rw [HT.out]; simp]
                            exact ⟨rfl, rfl, Gr.of_ext hX8⟩
                          | false =>
                            have hXX := hd (show X = .ok (⟨jop, jn, jr, ks, dst, src, ko, km⟩, 1) by rw [HT.out]; simp)
                            clear HT
                            obtain ⟨r0, r1⟩ := hB8.c2
                            obtain ⟨z0, z1⟩ := hB8.f2
                            go_upto_region 25 with (fail)
                            refine wp_world (fun W => Gr g w W ∧ Blk W w.heap.size 64 zero64 ∧ Blk W g 126 #[.slice A N c, .int .i64 ((p + 1 : Nat) : Int)] ∧ Blk W gi 64 #[.int .i64 jop, .bool jn, .bool jr, .int .i64 ks, .int .i64 dst, .int .i64 src, .int .i64 ko, .int .i64 km])
                              ⟨(Gr.of_ext hX8).at_ 1 _, hZ8.far (p := ⟨g, 1, none⟩) (by simp only; omega) _, hB8.set_ 1 _, hI8.far (p := ⟨g, 1, none⟩) (by simp only; omega) _⟩ ?_
                            rintro W14 ⟨hX14, hZ14, hB14, hI14⟩
                            go_wp2_with (first | ((with_reducible refine wl_load64 _ _ ?_ hI14 ?_ ?_); exact rfl; exact rfl) | ((with_reducible refine wl_store64 _ _ _ ?_ ?_ hZ14 ?_ ?_); exact rfl; exact ⟨_, _, _, _, _, _, _, _, rfl⟩; exact rfl; intro cells hcells; obtain rfl := Value.agg.inj hcells; clear hcells))
                            refine bodyPost_ret (results_cell_row rfl _ _ w.heap.size 64 _ (0, 0) _ rfl (hZ14.row _) Try.underlying64 rfl (by kernel_rfl)) rfl ?_
                            rw [hXX.out]
                            exact ⟨rfl, hB14.row_far (by omega) _, hX14.row (Nat.le_refl _) _⟩

end Go.Proofs.Ytfcbedkidjclhaa
