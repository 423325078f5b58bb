/-
  The contract of package code's wide: an instruction of two units.
  Conditions: the reader's box lies there; the bytes can be read.
-/
import Derived.Test.YtfcbedkidjclhaaCode12
import Derived.Test.YtfcbedkidjclhaaCodeL2
namespace Go.Proofs.Ytfcbedkidjclhaa
open Go.RowKit
set_option maxRecDepth 100000
set_option linter.unusedSimpArgs false
set_option linter.unusedVariables false

/-- what next and wide answer -/
def NPost (g : Nat) (A : Option Addr) (N c p : Nat) (X : Except Int (Cd.Ins × Nat)) (w : World) (e : Ending) (w' : World) : Prop :=
  match X with
  | .ok (x, k) => e = .returned (.agg (insC x)) ∧ Blk w' g 126 #[.slice A N c, .int .i64 ((p + k : Nat) : Int)] ∧ Gr g w w'
  | .error er => e = stopE p er ∧ Gr g w w'

theorem Blk.drewN {w : World} {g : Nat} {t : TypeId} {cs : Array Value} (h : Blk w g t cs) (n : Nat) : Blk (w.drewN n) g t cs := h
def zero64 : Array Value := #[.int .i64 0, .bool false, .bool false, .int .i64 0, .int .i64 0, .int .i64 0, .int .i64 0, .int .i64 0]
theorem left_val {N p : Nat} : ((N / 8 : Nat) : Int) - (p : Int) = (N : Int) / 8 - (p : Int) := by omega

theorem heap_row_far' {w : World} {k i : Nat} (cs : Array Value) (h : i ≠ k) : (w.setRow k cs).heap[i]? = w.heap[i]? := heap_setRow_far w k cs i h
theorem Gr.row {g : Nat} {w W : World} (h : Gr g w W) {k : Nat} (hk : w.heap.size ≤ k) (cs : Array Value) : Gr g w (W.setRow k cs) :=
  ⟨h.os, h.tape, h.output, by rw [setRow_size]; exact h.size, fun i hi hne => (heap_setRow_far W k cs i (by omega)).trans (h.block i hi hne)⟩

theorem wide_num (g m : Int) (g0 : -2147483648 ≤ g) (g1 : g < 2147483648) : wrap64 (bits BinOp.or IntKind.u64 (IntKind.u64.wrap (IntKind.u64.wrap g * 4294967296)) (m % 4294967296)) = g * 4294967296 + m % 4294967296 := by
  rw [IntKind.wrap_u64, IntKind.wrap_u64]
  obtain ⟨a, ha⟩ : ∃ a : Nat, (g % 18446744073709551616 * 4294967296) % 18446744073709551616 = ((a * 4294967296 : Nat) : Int) := ⟨(g % 4294967296).toNat, by omega⟩
  obtain ⟨b, hb⟩ : ∃ b : Nat, m % 4294967296 = (b : Int) := ⟨(m % 4294967296).toNat, by omega⟩
  have ha2 : a < 4294967296 := by omega
  have hb2 : b < 4294967296 := by omega
  rw [ha, hb]
  have hj : a * 4294967296 ||| b = a * 4294967296 + b := nat_join 32 (a * 4294967296) b (by omega) (by omega)
  have e : bits BinOp.or IntKind.u64 ((a * 4294967296 : Nat) : Int) (b : Int) = ((a * 4294967296 + b : Nat) : Int) := by
    show IntKind.u64.wrap ((BitVec.ofInt 64 ((a * 4294967296 : Nat) : Int) ||| BitVec.ofInt 64 (b : Int)).toNat : Int) = _
    rw [BitVec.toNat_or, BitVec.ofInt_natCast, BitVec.ofInt_natCast, BitVec.toNat_ofNat, BitVec.toNat_ofNat, Nat.mod_eq_of_lt (show a * 4294967296 < 2 ^ 64 by omega), Nat.mod_eq_of_lt (show b < 2 ^ 64 by omega), hj, IntKind.wrap_u64]
    omega
  rw [e]
  unfold wrap64
  omega

set_option maxHeartbeats 4000000 in
theorem nextWide_any (g : Nat) (A : Option Addr) (N c p : Nat) (bs : List UInt8) (F : Cd.F) (w : World) (hB : Blk w g 126 #[.slice A N c, .int .i64 p]) (hR : Rd w 1 A N (bv bs)) (hc : N ≤ c) (hN : N ≤ 281474976710656) (hp : 8 * p ≤ N)
    (m0 : -2147483648 ≤ F.imm) (m1 : F.imm < 2147483648) :
    Calls Try.prog 121 #[.pointer (some ⟨g, 0, none⟩), .agg (fv F)] w (NPost g A N c p (Cd.nextWide F (bs.drop (8 * p))) w) := by
  have hl : bs.length = N := by have := hR.1; rw [bv_length] at this; omega
  have hul : (bs.drop (8 * p)).length / 8 = N / 8 - p := by rw [List.length_drop, hl]; omega
  have hpN : p ≤ 281474976710656 := by omega
  obtain ⟨op, dst, src, off, imm⟩ := F
  dsimp only at m0 m1
  unfold Cd.nextWide
  rw [hul]
  have M0 := hd m0
  have M1 := hd m1
  clear m0 m1
  by_cases h1 : N / 8 - p < 2
  · rw [if_pos h1]
    have e1 : (((N : Int) / 8) - (p : Int) < 2) := by omega
    clear h1
    go_enter Try.func121, Try.ntmps121
    go_upto_region 1 with (fail)
    refine wp_world (fun W => Ext w W) ((Ext.new _ _).alloc _) ?_
    intro W hX
    have hB1 := hB.ext hX
    go_wp2_with (first | (go_at_call 118; (with_reducible refine (left_any g A N c p _ hB1 hN hpN).mono ?_); rintro e v ⟨rfl, n, rfl⟩; rw [left_val]) | (go_at_call 84; (with_reducible refine (giveUp_any g _ p 20 _ (hB1.drewN n)).mono ?_); rintro e v ⟨rfl, rfl⟩))
    exact ⟨rfl, rfl, (Gr.of_ext hX).drewN n⟩
  · rw [if_neg h1]
    have e1 : ¬ (((N : Int) / 8) - (p : Int) < 2) := by omega
    have hk : 8 * (p + 1) + 8 ≤ N := by omega
    clear h1
    obtain ⟨G, hG⟩ : ∃ G, Cd.fields ((bs.drop (8 * p)).drop 8) = G := ⟨_, rfl⟩
    have hG' : Cd.fields (bs.drop (8 * (p + 1))) = G := by rw [← hG, List.drop_drop, show 8 * (p + 1) = 8 * p + 8 by omega]
    have gm : -2147483648 ≤ G.imm ∧ G.imm < 2147483648 := by
      obtain ⟨a, b, o, m, r, hu, ho, hm, hr⟩ := Cd.unit_split (bs.drop (8 * (p + 1))) (by rw [List.length_drop, hl]; omega)
      have hr4 := Cd.sgn4_range hm
      rw [← hG', hu, Cd.fields_mk a b o m r ho hm]
      generalize Cd.sgn 2147483648 (Pk.val m) = z at hr4 ⊢
      exact hr4
    rw [hG]
    obtain ⟨gop, gdst, gsrc, goff, gimm⟩ := G
    dsimp only at gm ⊢
    have GM := hd gm
    clear gm hG
    have HG := hd hG'
    clear hG' hul
    obtain ⟨rg, hrg⟩ : ∃ b, Cd.isReg (dst : Int) true = b := ⟨_, rfl⟩
    rw [hrg]
    have HRg := hd hrg
    clear hrg
    have hpi : IntKind.i64.wrap ((p : Int) + 1) = (p : Int) + 1 := by rw [IntKind.wrap_i64]; omega
    generalize hXX : (if rg = false then Except.error 22 else _ : Except Int (Cd.Ins × Nat)) = X
    have HX := hd hXX
    clear hXX
    go_enter Try.func121, Try.ntmps121
    go_upto_region 1 with (fail)
    refine wp_world (fun W => Ext w W ∧ Blk W w.heap.size 161 #[.int .i64 op, .int .i64 dst, .int .i64 src, .int .i64 off, .int .i64 imm] ∧ Blk W (w.heap.size + 1) 64 zero64) ⟨(Ext.new _ _).alloc _, (Blk.new _ _ _).alloc _, by simpa [zero64] using Blk.new (w.alloc _) 64 _⟩ ?_
    rintro W ⟨hX, hF, hZ⟩
    have hB1 := hB.ext hX
    have hR1 := hR.ext hX
    go_upto_region 3 with (go_at_call 118; (with_reducible refine (left_any g A N c p _ hB1 hN hpN).mono ?_); rintro e v ⟨rfl, n, rfl⟩; rw [left_val])
    have hB2 := hB1.drewN n
    have hR2 := hR1.drewN n
    have hX2 := hX.drewN n
    have hF2 := hF.drewN n
    have hZ2 := hZ.drewN n
    clear hB1 hR1 hX hF hZ
    generalize W.drewN n = W2 at hB2 hR2 hX2 hF2 hZ2 ⊢
    obtain ⟨r0, r1⟩ := hB2.c2
    have hU := unit_any g A N c p (p + 1) bs _ hB2 hR2 hk hc hN
    rw [HG.out, show ((p + 1 : Nat) : Int) = (p : Int) + 1 by omega] at hU
    have HU := hd hU
    clear hU
    go_upto_region 4 with (first | (go_at_call 119; (with_reducible refine HU.out.mono ?_); rintro e w3 ⟨rfl, hX3⟩) | ((with_reducible refine wl_store161 _ _ _ ?_ ?_ (Blk.new _ 161 _) ?_ ?_); exact rfl; exact ⟨_, _, _, _, _, rfl⟩; exact rfl; intro cells hcells; obtain rfl := Value.agg.inj hcells; clear hcells))
    have hX3' := hX2.trans hX3
    have hne : w.heap.size < w3.heap.size := by have := hF2.lt; have := hX3.size; omega
    have hne1 : w.heap.size + 1 < w3.heap.size := by have := hZ2.lt; have := hX3.size; omega
    have hgo : g < w.heap.size := hB.lt
    refine wp_world (fun W => Ext w W ∧ Blk W w.heap.size 161 #[.int .i64 op, .int .i64 dst, .int .i64 src, .int .i64 off, .int .i64 imm] ∧ Blk W (w.heap.size + 1) 64 zero64 ∧ Blk W w3.heap.size 161 #[.int .i64 gop, .int .i64 gdst, .int .i64 gsrc, .int .i64 goff, .int .i64 gimm] ∧ Blk W g 126 #[.slice A N c, .int .i64 p])
      ⟨(hX3'.alloc _).row (by omega) _, ((hF2.ext hX3).alloc _).row_far (by omega) _, ((hZ2.ext hX3).alloc _).row_far (by omega) _, (Blk.new _ _ _).row _, ((hB2.ext hX3).alloc _).row_far (by omega) _⟩ ?_
    clear hX3' hX3 hX2 hF2 hZ2 hB2 hR2 r0 r1 HU
    generalize w3.heap.size = gg at hne hne1
    rintro W4 ⟨hX4, hF4, hZ4, hG4, hB4⟩
    obtain ⟨f0, f1, f2, f3, f4⟩ := hF4.c5
    obtain ⟨g0, g1, g2, g3, g4⟩ := hG4.c5
    obtain ⟨r0, r1⟩ := hB4.c2
    cases rg with
    | false =>
      go_wp2_with (first | (go_at_call 123; (with_reducible refine (isReg_any _ _ _).mono ?_); rw [HRg.out]; rintro e v ⟨rfl, rfl⟩) | (go_at_call 84; (with_reducible refine (giveUp_any g _ p 22 _ hB4).mono ?_); rintro e v ⟨rfl, rfl⟩))
      rw [show X = .error 22 by rw [← HX.out]; simp]
      exact ⟨rfl, rfl, Gr.of_ext hX4⟩
    | true =>
      go_upto_region 8 with (first | (go_at_call 123; (with_reducible refine (isReg_any _ _ _).mono ?_); rw [HRg.out]; rintro e v ⟨rfl, rfl⟩) | (go_at_call 84; (with_reducible refine (giveUp_any g _ p 23 _ hB4).mono ?_); rintro e v ⟨rfl, rfl⟩))
      all_goals first
        | (rw [show X = .error 23 by (rw [← HX.out]; clear HX HG HRg M0 M1 GM hF4 hZ4 hG4 hB4 hX4 f0 f1 f2 f3 f4 g0 g1 g2 g3 g4 r0 r1; grind)]; exact ⟨rfl, rfl, Gr.of_ext hX4⟩)
        | skip
      all_goals go_upto_region 9 with ((with_reducible refine wl_store64 _ _ _ ?_ ?_ (Blk.new _ 64 _) ?_ ?_); exact rfl; exact ⟨_, _, _, _, _, _, _, _, rfl⟩; exact rfl; intro cells hcells; obtain rfl := Value.agg.inj hcells; clear hcells)
      all_goals (rw [wide_num gimm imm GM.out.1 GM.out.2]; generalize hV : gimm * 4294967296 + imm % 4294967296 = V)
      all_goals have HV := hd hV
      all_goals clear hV
      all_goals have hlt4 := hX4.size
      all_goals have hz1 := hZ4.lt
      all_goals have hz2 := hG4.lt
      all_goals refine wp_world (fun W => Ext w W ∧ Blk W w.heap.size 161 #[.int .i64 op, .int .i64 dst, .int .i64 src, .int .i64 off, .int .i64 imm] ∧ Blk W (w.heap.size + 1) 64 zero64 ∧ Blk W gg 161 #[.int .i64 gop, .int .i64 gdst, .int .i64 gsrc, .int .i64 goff, .int .i64 gimm] ∧ Blk W g 126 #[.slice A N c, .int .i64 p] ∧ Blk W W4.heap.size 64 #[.int .i64 20, .bool false, .bool false, .int .i64 0, .int .i64 dst, .int .i64 0, .int .i64 0, .int .i64 V]) ⟨(hX4.alloc _).row (by omega) _, (hF4.alloc _).row_far (by omega) _, (hZ4.alloc _).row_far (by omega) _, (hG4.alloc _).row_far (by omega) _, (hB4.alloc _).row_far (by omega) _, (Blk.new _ _ _).row _⟩ ?_
      all_goals clear hX4 hF4 hZ4 hG4 hB4 f0 f1 f2 f3 f4 g0 g1 g2 g3 g4 r0 r1
      all_goals generalize W4.heap.size = gi at hlt4 hz1 hz2
      all_goals rintro W5 ⟨hX5, hF5, hZ5, hG5, hB5, hI5⟩
      all_goals obtain ⟨f0, f1, f2, f3, f4⟩ := hF5.c5
      all_goals obtain ⟨g0, g1, g2, g3, g4⟩ := hG5.c5
      all_goals obtain ⟨r0, r1⟩ := hB5.c2
      all_goals obtain ⟨z0, z1⟩ := hB5.f2
      · go_upto_region 14 with (fail)
        refine wp_world (fun W => Gr g w W ∧ Blk W (w.heap.size + 1) 64 zero64 ∧ Blk W g 126 #[.slice A N c, .int .i64 ((p + 2 : Nat) : Int)] ∧ Blk W gi 64 #[.int .i64 20, .bool false, .bool false, .int .i64 0, .int .i64 dst, .int .i64 0, .int .i64 0, .int .i64 V])
          ⟨(Gr.of_ext hX5).at_ 1 _, hZ5.far (p := ⟨g, 1, none⟩) (by simp only; omega) _, hB5.set_ 1 _, hI5.far (p := ⟨g, 1, none⟩) (by simp only; omega) _⟩ ?_
        rintro W6 ⟨hX6, hZ6, hB6, hI6⟩
        go_wp2_with (first | ((with_reducible refine wl_load64 _ _ ?_ hI6 ?_ ?_); exact rfl; exact rfl) | ((with_reducible refine wl_store64 _ _ _ ?_ ?_ hZ6 ?_ ?_); exact rfl; exact ⟨_, _, _, _, _, _, _, _, rfl⟩; exact rfl; intro cells hcells; obtain rfl := Value.agg.inj hcells; clear hcells))
        refine bodyPost_ret (results_cell_row rfl _ _ (w.heap.size + 1) 64 _ (0, 0) _ rfl (hZ6.row _) Try.underlying64 rfl (by kernel_rfl)) rfl ?_
        have k1 : src = 0 := by omega
        have k2 : off = 0 := by omega
        have k3 : gop = 0 := by omega
        have k4 : gdst = 0 := by omega
        have k5 : gsrc = 0 := by omega
        have k6 : goff = 0 := by first | omega | simp_all
        rw [show X = .ok (⟨20, false, false, 0, dst, 0, 0, V⟩, 2) by (rw [← HX.out, ← HV.out]; simp [k1, k2, k3, k4, k5, k6, Cd.I0])]
        exact ⟨rfl, hB6.row_far (by omega) _, hX6.row (by omega) _⟩
      · have k1 : src = 6 := by omega
        have k2 : off = 0 := by omega
        have k3 : gop = 0 := by omega
        have k4 : gdst = 0 := by omega
        have k5 : gsrc = 0 := by omega
        have k6 : goff = 0 := by first | omega | simp_all
        have HE := hd (show X = if imm ≠ 0 ∨ gimm < 0 then .error 24 else .ok (⟨21, false, false, 0, dst, 0, 0, gimm⟩, 2) by (rw [← HX.out]; simp [k1, k2, k3, k4, k5, k6, Cd.I0]))
        clear HX k1 k2 k3 k4 k5 k6
        go_upto_region 11 with ((with_reducible refine wl_store64 _ _ _ ?_ ?_ hI5 ?_ ?_); exact rfl; exact ⟨_, _, _, _, _, _, _, _, rfl⟩; exact rfl; intro cells hcells; obtain rfl := Value.agg.inj hcells; clear hcells)
        refine wp_world (fun W => Ext w W ∧ Blk W w.heap.size 161 #[.int .i64 op, .int .i64 dst, .int .i64 src, .int .i64 off, .int .i64 imm] ∧ Blk W (w.heap.size + 1) 64 zero64 ∧ Blk W gg 161 #[.int .i64 gop, .int .i64 gdst, .int .i64 gsrc, .int .i64 goff, .int .i64 gimm] ∧ Blk W g 126 #[.slice A N c, .int .i64 p] ∧ Blk W gi 64 #[.int .i64 21, .bool false, .bool false, .int .i64 0, .int .i64 dst, .int .i64 0, .int .i64 0, .int .i64 gimm]) ⟨hX5.row (by omega) _, hF5.row_far (by omega) _, hZ5.row_far (by omega) _, hG5.row_far (by omega) _, hB5.row_far (by omega) _, hI5.row _⟩ ?_
        clear hX5 hF5 hZ5 hG5 hB5 hI5 f0 f1 f2 f3 f4 g0 g1 g2 g3 g4 r0 r1 z0 z1
        rintro W6 ⟨hX5, hF5, hZ5, hG5, hB5, hI5⟩
        obtain ⟨f0, f1, f2, f3, f4⟩ := hF5.c5
        obtain ⟨g0, g1, g2, g3, g4⟩ := hG5.c5
        obtain ⟨r0, r1⟩ := hB5.c2
        obtain ⟨z0, z1⟩ := hB5.f2
        by_cases hE : imm ≠ 0 ∨ gimm < 0
        · have HY := hd (show X = .error 24 by rw [HE.out, if_pos hE])
          clear HE
          rcases hE with hE | hE
          · have b1 : (imm != 0) = true := by simpa using hE
            clear hE
            go_wp2_with (go_at_call 84; (with_reducible refine (giveUp_any g _ p 24 _ hB5).mono ?_); rintro e v ⟨rfl, rfl⟩)
            rw [HY.out]
            exact ⟨rfl, rfl, Gr.of_ext hX5⟩
          · go_wp2_with (go_at_call 84; (with_reducible refine (giveUp_any g _ p 24 _ hB5).mono ?_); rintro e v ⟨rfl, rfl⟩)
            all_goals (rw [HY.out]; exact ⟨rfl, rfl, Gr.of_ext hX5⟩)
        · have HY := hd (show X = .ok (⟨21, false, false, 0, dst, 0, 0, gimm⟩, 2) by rw [HE.out, if_neg hE])
          have b1 : (imm != 0) = false := by simp; omega
          have b2 : ¬ gimm < 0 := by omega
          clear HE hE
          go_upto_region 14 with (fail)
          refine wp_world (fun W => Gr g w W ∧ Blk W (w.heap.size + 1) 64 zero64 ∧ Blk W g 126 #[.slice A N c, .int .i64 ((p + 2 : Nat) : Int)] ∧ Blk W gi 64 #[.int .i64 21, .bool false, .bool false, .int .i64 0, .int .i64 dst, .int .i64 0, .int .i64 0, .int .i64 gimm])
            ⟨(Gr.of_ext hX5).at_ 1 _, hZ5.far (p := ⟨g, 1, none⟩) (by simp only; omega) _, hB5.set_ 1 _, hI5.far (p := ⟨g, 1, none⟩) (by simp only; omega) _⟩ ?_
          rintro W7 ⟨hX6, hZ6, hB6, hI6⟩
          go_wp2_with (first | ((with_reducible refine wl_load64 _ _ ?_ hI6 ?_ ?_); exact rfl; exact rfl) | ((with_reducible refine wl_store64 _ _ _ ?_ ?_ hZ6 ?_ ?_); exact rfl; exact ⟨_, _, _, _, _, _, _, _, rfl⟩; exact rfl; intro cells hcells; obtain rfl := Value.agg.inj hcells; clear hcells))
          refine bodyPost_ret (results_cell_row rfl _ _ (w.heap.size + 1) 64 _ (0, 0) _ rfl (hZ6.row _) Try.underlying64 rfl (by kernel_rfl)) rfl ?_
          rw [HY.out]
          exact ⟨rfl, hB6.row_far (by omega) _, hX6.row (by omega) _⟩

end Go.Proofs.Ytfcbedkidjclhaa
