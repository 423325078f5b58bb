/-
  The walk of CodeRights: it answers true.
  No condition beyond the instruction's numbers being numbers of 64 bits.
-/
import Derived.Test.YtfcbedkidjclhaaWalkD
import Derived.Test.YtfcbedkidjclhaaRef3
import Derived.Test.YtfcbedkidjclhaaRef5
namespace Go.Proofs.Ytfcbedkidjclhaa
open Go.RowKit
set_option maxRecDepth 100000
set_option linter.unusedSimpArgs false
set_option linter.unusedVariables false

def exitI : Cd.Ins := ⟨39, false, false, 0, 0, 0, 0, 0⟩
theorem exit_right : Cd.right exitI = 0 := by decide +kernel
theorem check_one (x : Cd.Ins) : Cd.check [x] = (0, Cd.right x) := by
  unfold Cd.check
  rw [Cd.checkFrom, if_neg (by decide)]
  by_cases h : Cd.right x = 0
  · rw [if_neg (by simpa using h), h]; rfl
  · rw [if_pos h]
theorem check_three (x : Cd.Ins) : Cd.check [exitI, x, x] = (if Cd.right x = 0 then 0 else 1, Cd.right x) := by
  unfold Cd.check
  rw [Cd.checkFrom, if_neg (by decide), exit_right, if_neg (by decide), Cd.checkFrom, if_neg (by decide)]
  by_cases h : Cd.right x = 0
  · rw [if_neg (by simpa using h), if_pos h, Cd.checkFrom, if_neg (by decide), if_neg (by simpa using h), h]; rfl
  · rw [if_pos h, if_neg h]
theorem check_third (x : Cd.Ins) : Cd.check [exitI, exitI, x] = (if Cd.right x = 0 then 0 else 2, Cd.right x) := by
  unfold Cd.check
  rw [Cd.checkFrom, if_neg (by decide), exit_right, if_neg (by decide), Cd.checkFrom, if_neg (by decide), exit_right, if_neg (by decide), Cd.checkFrom, if_neg (by decide)]
  by_cases h : Cd.right x = 0
  · rw [if_neg (by simpa using h), if_pos h, h]; rfl
  · rw [if_pos h, if_neg h]
theorem encode_third (x : Cd.Ins) (h : Cd.right x = 0) : ∃ b, Cd.encode [exitI, exitI, x] = (b, 0, 0) ∧ b.length = 16 + 8 * Cd.width x := by
  have hc := check_third x
  rw [if_pos h, h] at hc
  refine ⟨_, by unfold Cd.encode; rw [hc, if_neg (by decide)], ?_⟩
  have h1 := Cd.bytes_length x
  have h2 := Cd.bytes_length exitI
  have h3 : Cd.width exitI = 1 := by decide
  simp only [List.flatMap_cons, List.flatMap_nil, List.length_append, List.length_nil]
  omega
theorem encode_third' (x : Cd.Ins) (h : Cd.right x ≠ 0) : Cd.encode [exitI, exitI, x] = ([], 2, Cd.right x) := by
  have hc := check_third x
  rw [if_neg h] at hc
  exact Cd.encode_bad hc h

theorem units_second (x : Cd.Ins) : (nv (Cd.units [x]))[1]? = some (.int .i64 (Cd.width x : Int)) := by simp [Cd.units, Cd.unitsFrom, nv, iv]

set_option maxHeartbeats 4000000 in
theorem CodeRights_any (x : Cd.Ins) (w : World) : Calls Try.prog 10 #[.agg (insC x)] w fun e w' => e = .returned (.bool true) ∧ Ext w w' := by
  obtain ⟨op, nr, rg, sz, ds, sr, of, im, hx⟩ : ∃ op nr rg sz ds sr of im, x = ⟨op, nr, rg, sz, ds, sr, of, im⟩ := ⟨_, _, _, _, _, _, _, _, rfl⟩
  have Hx := hd hx
  have HC : Hid (insC x = #[.int .i64 op, .bool nr, .bool rg, .int .i64 sz, .int .i64 ds, .int .i64 sr, .int .i64 of, .int .i64 im]) := hd (by rw [hx]; rfl)
  clear hx
  rw [HC.out]
  go_enter Try.func10, Try.ntmps10
  go_upto_region 1 with (fail)
  refine wp_world (fun W => Ext w W ∧ Blk W w.heap.size 64 #[.int .i64 op, .bool nr, .bool rg, .int .i64 sz, .int .i64 ds, .int .i64 sr, .int .i64 of, .int .i64 im]) ⟨Ext.new _ _, Blk.new _ _ _⟩ ?_
  rintro W1 ⟨hE, hB⟩
  go_upto_region 3 with (go_at_call 40; (with_reducible refine (known_any _).mono ?_); rintro e v1 ⟨rfl, hX1⟩)
  have hB1 := hB.ext hX1
  have hE1 := hE.trans hX1
  have hg := hE.size
  have hg1 := hX1.size
  have hBd := hB1.drew
  obtain ⟨b0, b1, b2, b3, b4, b5, b6, b7⟩ := hBd.c8
  obtain ⟨R, hR⟩ : ∃ R, Cd.right x = R := ⟨_, rfl⟩
  have HR := hd hR
  clear hR
  have K47 : Hid (∀ A c W, Rd W 11 A 139 (rv Rf.rows) → Calls Try.prog 47 #[.slice A 139 c, .agg #[.int .i64 op, .bool nr, .bool rg, .int .i64 sz, .int .i64 ds, .int .i64 sr, .int .i64 of, .int .i64 im]] W fun e w' => e = .returned (.int .i64 R) ∧ Ext W w') := hd fun A c W h => by
    have k := refRight_any x A 139 c W h (by omega)
    rw [Rf.right_eq, HR.out, HC.out] at k
    exact k
  go_cut [3] from 11 to 13 (fun b W => b = .int .i64 R ∧ Ext v1 W)
  case first =>
    refine wp_region_any (by kernel_rfl) ?_
    refine wpAny_ready (rs := [0, 1]) (by kernel_rfl) (by simp) (AllReady.cons rfl (fun K hK => ?_) (AllReady.cons rfl (fun K hK => ?_) AllReady.nil))
    · go_simp
      refine (refRows_any _).mono ?_
      rintro e W2 ⟨v, rfl, hT⟩
      obtain ⟨A2, c2, rfl, -⟩ := own_form hT.own
      obtain ⟨m0, m1, m2, m3, m4, m5, m6, m7⟩ := (hBd.ext hT.app).c8
      have hX2 : Ext v1 W2 := hT.app.of_drew
      refine hK _ _ ?_
      clear hK K
      refine wpAny_ready (rs := [1]) (by kernel_rfl) (by simp) (AllReady.cons rfl (fun K hK => ?_) AllReady.nil)
      go_simp
      refine hK _ _ ?_
      clear hK K
      refine wpAny_ready (rs := [2]) (by kernel_rfl) (by simp) (AllReady.cons rfl (fun K hK => ?_) AllReady.nil)
      go_simp
      refine (K47.out A2 c2 _ (Rd.of_own hT.own)).mono ?_
      rintro e W3 ⟨rfl, hE3⟩
      refine hK _ _ ?_
      clear hK K
      refine wpAny_ready (rs := [3]) (by kernel_rfl) (by simp) (AllReady.cons rfl (fun K hK => ?_) AllReady.nil)
      go_simp
      refine hK _ _ ?_
      clear hK K
      refine wpAny_done (by kernel_rfl) ?_ _
      go_wp2
      go_meet
      case rel => exact ⟨rfl, hX2.trans hE3⟩
    · go_simp
      refine hK _ _ ?_
      clear hK K
      refine wpAny_ready (rs := [0]) (by kernel_rfl) (by simp) (AllReady.cons rfl (fun K hK => ?_) AllReady.nil)
      go_simp
      refine (refRows_any _).mono ?_
      rintro e W2 ⟨v, rfl, hT⟩
      obtain ⟨A2, c2, rfl, -⟩ := own_form hT.own
      obtain ⟨m0, m1, m2, m3, m4, m5, m6, m7⟩ := (hBd.ext hT.app).c8
      have hX2 : Ext v1 W2 := hT.app.of_drew
      refine hK _ _ ?_
      clear hK K
      refine wpAny_ready (rs := [2]) (by kernel_rfl) (by simp) (AllReady.cons rfl (fun K hK => ?_) AllReady.nil)
      go_simp
      refine (K47.out A2 c2 _ (Rd.of_own hT.own)).mono ?_
      rintro e W3 ⟨rfl, hE3⟩
      refine hK _ _ ?_
      clear hK K
      refine wpAny_ready (rs := [3]) (by kernel_rfl) (by simp) (AllReady.cons rfl (fun K hK => ?_) AllReady.nil)
      go_simp
      refine hK _ _ ?_
      clear hK K
      refine wpAny_done (by kernel_rfl) ?_ _
      go_wp2
      go_meet
      case rel => exact ⟨rfl, hX2.trans hE3⟩
  case rest =>
    obtain ⟨rfl, hX2⟩ := hcut
    have hB2 := hB1.ext hX2
    have hE2 := hE1.trans hX2
    clear hBd b0 b1 b2 b3 b4 b5 b6 b7
    have hg2 := hX2.size
    have hI1 : ∀ v : World, Rd (v.alloc (.cells #[.int .i64 op, .bool nr, .bool rg, .int .i64 sz, .int .i64 ds, .int .i64 sr, .int .i64 of, .int .i64 im] 64)) 8 (some ⟨v.heap.size, 0, none⟩) 1 (cv [x]) := fun v => by rw [Hx.out]; exact Rd.of_blk (Blk.new v 64 _) rfl
    have hI3 : ∀ v : World, Rd (v.alloc (.cells #[.int .i64 39, .bool false, .bool false, .int .i64 0, .int .i64 0, .int .i64 0, .int .i64 0, .int .i64 0, .int .i64 op, .bool nr, .bool rg, .int .i64 sz, .int .i64 ds, .int .i64 sr, .int .i64 of, .int .i64 im, .int .i64 op, .bool nr, .bool rg, .int .i64 sz, .int .i64 ds, .int .i64 sr, .int .i64 of, .int .i64 im] 64)) 8 (some ⟨v.heap.size, 0, none⟩) 3 (cv [exitI, x, x]) := fun v => by rw [Hx.out]; exact Rd.of_blk (Blk.new v 64 _) rfl
    have hI4 : ∀ v : World, Rd (v.alloc (.cells #[.int .i64 39, .bool false, .bool false, .int .i64 0, .int .i64 0, .int .i64 0, .int .i64 0, .int .i64 0, .int .i64 39, .bool false, .bool false, .int .i64 0, .int .i64 0, .int .i64 0, .int .i64 0, .int .i64 0, .int .i64 op, .bool nr, .bool rg, .int .i64 sz, .int .i64 ds, .int .i64 sr, .int .i64 of, .int .i64 im] 64)) 8 (some ⟨v.heap.size, 0, none⟩) 3 (cv [exitI, exitI, x]) := fun v => by rw [Hx.out]; exact Rd.of_blk (Blk.new v 64 _) rfl
    go_upto_region 5 with ((with_reducible refine wl_store64 _ _ _ ?_ ?_ (Blk.new _ _ _) ?_ ?_); exact rfl; exact ⟨_, _, _, _, _, _, _, _, rfl⟩; exact rfl; intro cells hcells; obtain rfl := Value.agg.inj hcells; clear hcells)
    refine wp_world (fun W => Ext wc W ∧ Blk W wc.heap.size 64 #[.int .i64 39, .bool false, .bool false, .int .i64 0, .int .i64 0, .int .i64 0, .int .i64 0, .int .i64 0]) ⟨(Ext.new _ _).row (Nat.le_refl _) _, (Blk.new _ _ _).row _⟩ ?_
    generalize wc.heap.size = g
    rintro W5 ⟨hX5, hC5⟩
    have hB5 := hB2.ext hX5
    have hE5 := hE2.trans hX5
    clear hB hB1 hB2 hE hE1 hE2
    by_cases h0 : R = 0
    · subst h0
      have hk1 := check_one x
      have hk3 := check_three x
      obtain ⟨b, hk4, hbl⟩ := encode_third x HR.out
      rw [HR.out] at hk1 hk3
      rw [if_pos rfl] at hk3
      have HK1 := hd hk1
      have HK3 := hd hk3
      have HK4 := hd hk4
      clear hk1 hk3 hk4
      have hwd := Cd.width_pos x
      have hwd2 := width_le x
      go_upto_region 8 with (first | ((with_reducible refine wl_load64 _ w.heap.size ?_ hB5 ?_ ?_); exact rfl; exact rfl) | (go_at_call 49; (with_reducible refine (Check_any _ 1 1 [x] _ (hI1 _) (by omega)).mono ?_); rw [HK1.out]; rintro e W6 ⟨rfl, hX6⟩))
      have hB6 := (hB5.alloc (.cells #[.int .i64 op, .bool nr, .bool rg, .int .i64 sz, .int .i64 ds, .int .i64 sr, .int .i64 of, .int .i64 im] 64)).ext hX6
      have hC6 := (hC5.alloc (.cells #[.int .i64 op, .bool nr, .bool rg, .int .i64 sz, .int .i64 ds, .int .i64 sr, .int .i64 of, .int .i64 im] 64)).ext hX6
      have hE6 := (hE5.alloc (.cells #[.int .i64 op, .bool nr, .bool rg, .int .i64 sz, .int .i64 ds, .int .i64 sr, .int .i64 of, .int .i64 im] 64)).trans hX6
      clear hB5 hC5 hE5
      go_upto_region 14 with (first | ((with_reducible refine wl_load64 _ w.heap.size ?_ hB6 ?_ ?_); exact rfl; exact rfl) | ((with_reducible refine wl_load64 _ g ?_ hC6 ?_ ?_); exact rfl; exact rfl) | (go_at_call 49; (with_reducible refine (Check_any _ 3 3 [exitI, x, x] _ (hI3 _) (by omega)).mono ?_); rw [HK3.out]; rintro e W7 ⟨rfl, hX7⟩))
      have hB7 := (hB6.alloc (.cells #[.int .i64 39, .bool false, .bool false, .int .i64 0, .int .i64 0, .int .i64 0, .int .i64 0, .int .i64 0, .int .i64 op, .bool nr, .bool rg, .int .i64 sz, .int .i64 ds, .int .i64 sr, .int .i64 of, .int .i64 im, .int .i64 op, .bool nr, .bool rg, .int .i64 sz, .int .i64 ds, .int .i64 sr, .int .i64 of, .int .i64 im] 64)).ext hX7
      have hC7 := (hC6.alloc (.cells #[.int .i64 39, .bool false, .bool false, .int .i64 0, .int .i64 0, .int .i64 0, .int .i64 0, .int .i64 0, .int .i64 op, .bool nr, .bool rg, .int .i64 sz, .int .i64 ds, .int .i64 sr, .int .i64 of, .int .i64 im, .int .i64 op, .bool nr, .bool rg, .int .i64 sz, .int .i64 ds, .int .i64 sr, .int .i64 of, .int .i64 im] 64)).ext hX7
      have hE7 := (hE6.alloc (.cells #[.int .i64 39, .bool false, .bool false, .int .i64 0, .int .i64 0, .int .i64 0, .int .i64 0, .int .i64 0, .int .i64 op, .bool nr, .bool rg, .int .i64 sz, .int .i64 ds, .int .i64 sr, .int .i64 of, .int .i64 im, .int .i64 op, .bool nr, .bool rg, .int .i64 sz, .int .i64 ds, .int .i64 sr, .int .i64 of, .int .i64 im] 64)).trans hX7
      clear hB6 hC6 hE6
      go_upto_region 15 with (first | ((with_reducible refine wl_load64 _ w.heap.size ?_ hB7 ?_ ?_); exact rfl; exact rfl) | ((with_reducible refine wl_load64 _ g ?_ hC7 ?_ ?_); exact rfl; exact rfl) | (go_at_call 50; (with_reducible refine (CEncode_any _ 3 3 [exitI, exitI, x] _ (hI4 _) (by omega)).mono ?_); rw [HK4.out]; rintro e W8 ⟨A8, c8, rfl, own8, hX8⟩))
      have hB8 := (hB7.alloc (.cells #[.int .i64 39, .bool false, .bool false, .int .i64 0, .int .i64 0, .int .i64 0, .int .i64 0, .int .i64 0, .int .i64 39, .bool false, .bool false, .int .i64 0, .int .i64 0, .int .i64 0, .int .i64 0, .int .i64 0, .int .i64 op, .bool nr, .bool rg, .int .i64 sz, .int .i64 ds, .int .i64 sr, .int .i64 of, .int .i64 im] 64)).ext hX8
      have hE8 := (hE7.alloc (.cells #[.int .i64 39, .bool false, .bool false, .int .i64 0, .int .i64 0, .int .i64 0, .int .i64 0, .int .i64 0, .int .i64 39, .bool false, .bool false, .int .i64 0, .int .i64 0, .int .i64 0, .int .i64 0, .int .i64 0, .int .i64 op, .bool nr, .bool rg, .int .i64 sz, .int .i64 ds, .int .i64 sr, .int .i64 of, .int .i64 im] 64)).trans hX8
      clear hB7 hC7 hE7
      obtain ⟨b0, b1, b2, b3, b4, b5, b6, b7⟩ := hB8.c8
      have hbe : ((b.length : Int) == 16 + 8 * (Cd.width x : Int)) = true := by simp; omega
      go_wp2_with (first | ((with_reducible refine wl_load64 _ w.heap.size ?_ hB8 ?_ ?_); exact rfl; exact rfl) | (go_at_call 51; (with_reducible refine (Units_any _ 1 1 [x] _ (hI1 _) (by omega)).mono ?_); rintro e W9 ⟨B9, d9, rfl, own9, hX9⟩; obtain ⟨b9, o9, rfl, hc9⟩ := (Rd.of_own own9).form (by omega) (by omega); have q9 : W9.cell? ⟨b9, o9 + 1, none⟩ = some (.int .i64 (Cd.width x)) := hc9 1 _ (units_second x)))
      go_ret
      exact ⟨ret_bool (by simp), (hE8.alloc _).trans hX9⟩
    · have r0 : (R != 0) = true := by simpa using h0
      have r1 : (R == 0) = false := by simpa using h0
      have hk1 := check_one x
      have hk3 := check_three x
      have hk4 := encode_third' x (by rw [HR.out]; exact h0)
      rw [HR.out] at hk1 hk3 hk4
      rw [if_neg h0] at hk3
      have HK1 := hd hk1
      have HK3 := hd hk3
      have HK4 := hd hk4
      clear hk1 hk3 hk4 h0
      go_upto_region 8 with (first | ((with_reducible refine wl_load64 _ w.heap.size ?_ hB5 ?_ ?_); exact rfl; exact rfl) | (go_at_call 49; (with_reducible refine (Check_any _ 1 1 [x] _ (hI1 _) (by omega)).mono ?_); rw [HK1.out]; rintro e W6 ⟨rfl, hX6⟩))
      have hB6 := (hB5.alloc (.cells #[.int .i64 op, .bool nr, .bool rg, .int .i64 sz, .int .i64 ds, .int .i64 sr, .int .i64 of, .int .i64 im] 64)).ext hX6
      have hC6 := (hC5.alloc (.cells #[.int .i64 op, .bool nr, .bool rg, .int .i64 sz, .int .i64 ds, .int .i64 sr, .int .i64 of, .int .i64 im] 64)).ext hX6
      have hE6 := (hE5.alloc (.cells #[.int .i64 op, .bool nr, .bool rg, .int .i64 sz, .int .i64 ds, .int .i64 sr, .int .i64 of, .int .i64 im] 64)).trans hX6
      clear hB5 hC5 hE5
      go_upto_region 14 with (first | ((with_reducible refine wl_load64 _ w.heap.size ?_ hB6 ?_ ?_); exact rfl; exact rfl) | ((with_reducible refine wl_load64 _ g ?_ hC6 ?_ ?_); exact rfl; exact rfl) | (go_at_call 49; (with_reducible refine (Check_any _ 3 3 [exitI, x, x] _ (hI3 _) (by omega)).mono ?_); rw [HK3.out]; rintro e W7 ⟨rfl, hX7⟩))
      have hB7 := (hB6.alloc (.cells #[.int .i64 39, .bool false, .bool false, .int .i64 0, .int .i64 0, .int .i64 0, .int .i64 0, .int .i64 0, .int .i64 op, .bool nr, .bool rg, .int .i64 sz, .int .i64 ds, .int .i64 sr, .int .i64 of, .int .i64 im, .int .i64 op, .bool nr, .bool rg, .int .i64 sz, .int .i64 ds, .int .i64 sr, .int .i64 of, .int .i64 im] 64)).ext hX7
      have hC7 := (hC6.alloc (.cells #[.int .i64 39, .bool false, .bool false, .int .i64 0, .int .i64 0, .int .i64 0, .int .i64 0, .int .i64 0, .int .i64 op, .bool nr, .bool rg, .int .i64 sz, .int .i64 ds, .int .i64 sr, .int .i64 of, .int .i64 im, .int .i64 op, .bool nr, .bool rg, .int .i64 sz, .int .i64 ds, .int .i64 sr, .int .i64 of, .int .i64 im] 64)).ext hX7
      have hE7 := (hE6.alloc (.cells #[.int .i64 39, .bool false, .bool false, .int .i64 0, .int .i64 0, .int .i64 0, .int .i64 0, .int .i64 0, .int .i64 op, .bool nr, .bool rg, .int .i64 sz, .int .i64 ds, .int .i64 sr, .int .i64 of, .int .i64 im, .int .i64 op, .bool nr, .bool rg, .int .i64 sz, .int .i64 ds, .int .i64 sr, .int .i64 of, .int .i64 im] 64)).trans hX7
      clear hB6 hC6 hE6
      go_wp2_with (first | ((with_reducible refine wl_load64 _ w.heap.size ?_ hB7 ?_ ?_); exact rfl; exact rfl) | ((with_reducible refine wl_load64 _ g ?_ hC7 ?_ ?_); exact rfl; exact rfl) | (go_at_call 50; (with_reducible refine (CEncode_any _ 3 3 [exitI, exitI, x] _ (hI4 _) (by omega)).mono ?_); rw [HK4.out]; rintro e W8 ⟨A8, c8, rfl, own8, hX8⟩))
      go_ret
      exact ⟨ret_bool (by simp), (hE7.alloc _).trans hX8⟩

end Go.Proofs.Ytfcbedkidjclhaa
