/-
  The contract of the document's Decode of a container: its early faults; its sum, told quiet.
  Conditions: the bytes can be read.
-/
import Derived.Test.YtfcbedkidjclhaaRd3
import Derived.Test.YtfcbedkidjclhaaDec6
namespace Go.Proofs.Ytfcbedkidjclhaa
open Go.RowKit
set_option maxRecDepth 100000
set_option linter.unusedSimpArgs false
set_option linter.unusedVariables false

/-- draws alone -/
def Drew (w w' : World) : Prop := ∃ m, w' = w.drewN m
theorem Drew.cell {w w' : World} (h : Drew w w') {p : Addr} {v : Value} (hc : w.cell? p = some v) : w'.cell? p = some v := by
  obtain ⟨m, rfl⟩ := h
  exact hc
theorem Drew.more {w w' : World} (h : Drew w w') (n : Nat) : Drew w (w'.drewN n) := by
  obtain ⟨m, rfl⟩ := h
  exact ⟨m + n, by rw [World.drewN_drewN]⟩

set_option maxHeartbeats 2000000 in
theorem RSum_quiet (A : Option Addr) (n c : Nat) (xs : List UInt8) (w : World) (h : Rd w 1 A n (bv xs)) (hn : n ≤ 9000000000000000000) :
    Calls Try.prog 76 #[.slice A n c] w fun e w' => e = .returned (.int .i64 (Pk.sum xs)) ∧ ∃ m, w' = w.drewN m := by
  have hx : xs.length = n := by have := h.1; rw [bv_length] at this; omega
  have Hx := hd hx
  clear hx
  go_enter Try.func76, Try.ntmps76
  go_wp2
  go_loopw [3, 4, 5, 6, 7] (fun s i _ _ _ wr => ∃ k : Nat, k ≤ n ∧ i = .int .i64 k ∧ s = .int .i64 (Pk.sum (xs.take k)) ∧ Drew w wr) (fun _ i _ _ _ _ => n - (intOf i).toNat)
  case atStart => exact ⟨0, by omega, rfl, rfl, 0, rfl⟩
  case round =>
    obtain ⟨k, hk, rfl, rfl, hX⟩ := hrel
    by_cases hlt : k < n
    · have e1 : (k : Int) < (n : Int) := by omega
      obtain ⟨b, o, rfl, hc⟩ := h.form (by omega) (by omega)
      have hkx : k < xs.length := by have := Hx.out; omega
      have c0 := hc _ _ (bv_get xs k hkx)
      clear hc
      have hs := Pk.sum_lt (xs.take k)
      have hb := xs[k].toNat_lt
      have E1 := hd (Pk.sum_step xs k hkx)
      have E2 := hd (Pk.step_bits (Pk.sum (xs.take k)) xs[k])
      generalize Pk.sum (xs.take k) = s at hs E1 E2 ⊢
      generalize xs[k].toNat = y at hb c0 E2
      obtain ⟨l, hl⟩ : ∃ l, s % 256 = l := ⟨_, rfl⟩
      have hl2 : l < 256 := by omega
      rw [hl] at E2
      have hli : (s : Int) % 256 = (l : Int) := by omega
      go_upto_region 6 with (fail)
      rw [hli]
      have HLI := hd hl
      clear hl hli
      go_wp2
      obtain ⟨wo, rfl⟩ : ∃ wo : World, wo = wr := ⟨_, rfl⟩
      go_loopw [6, 7] (fun x j wr => ∃ m : Nat, m ≤ 8 ∧ j = .int .i64 m ∧ x = .int .i64 (((l ^^^ y) % 2 ^ m : Nat) : Int) ∧ Drew w wr) (fun _ j _ => 8 - (intOf j).toNat)
      case atStart => exact ⟨0, by omega, rfl, by simp [Nat.mod_one], hX⟩
      case round =>
        obtain ⟨m, hm, rfl, rfl, hX2⟩ := hrel
        have c1 := hX2.cell c0
        by_cases hlt2 : m < 8
        · have hz : (l ^^^ y) < 256 := Nat.xor_lt_two_pow (n := 8) hl2 hb
          have HY := hd (fun (L Y : Int) (t : (bits .and .i64 L 1 != bits .and .i64 Y 1) = true) (eL : L = ((l / 2 ^ m : Nat) : Int)) (eY : Y = ((y / 2 ^ m : Nat) : Int)) => bit_yes hl2 hb eL eY t)
          have HN := hd (fun (L Y : Int) (t : (bits .and .i64 L 1 != bits .and .i64 Y 1) = false) (eL : L = ((l / 2 ^ m : Nat) : Int)) (eY : Y = ((y / 2 ^ m : Nat) : Int)) => bit_no hl2 hb eL eY t)
          obtain rfl | rfl | rfl | rfl | rfl | rfl | rfl | rfl : m = 0 ∨ m = 1 ∨ m = 2 ∨ m = 3 ∨ m = 4 ∨ m = 5 ∨ m = 6 ∨ m = 7 := by omega
          · go_upto_region 10 with (fail)
            go_quiet (fail)
            go_wp2
            all_goals go_roundw
            case rel =>
              have hn := HY.out _ _ (by assumption) (by first | omega | simp) (by first | omega | simp)
              clear HY HN
              generalize l ^^^ y = z at hn ⊢
              exact ⟨1, by omega, rfl, congrArg (Value.int .i64) (by omega), hX2.more _⟩
            case measure => simp [intOf]
            case rel =>
              have hn := HN.out _ _ (by assumption) (by first | omega | simp) (by first | omega | simp)
              clear HY HN
              generalize l ^^^ y = z at hn ⊢
              exact ⟨1, by omega, rfl, congrArg (Value.int .i64) (by omega), hX2.more _⟩
            case measure => simp [intOf]
          · go_upto_region 10 with (fail)
            go_quiet (fail)
            go_wp2
            all_goals go_roundw
            case rel =>
              have hn := HY.out _ _ (by assumption) (by first | omega | simp) (by first | omega | simp)
              clear HY HN
              generalize l ^^^ y = z at hn ⊢
              exact ⟨2, by omega, rfl, congrArg (Value.int .i64) (by omega), hX2.more _⟩
            case measure => simp [intOf]
            case rel =>
              have hn := HN.out _ _ (by assumption) (by first | omega | simp) (by first | omega | simp)
              clear HY HN
              generalize l ^^^ y = z at hn ⊢
              exact ⟨2, by omega, rfl, congrArg (Value.int .i64) (by omega), hX2.more _⟩
            case measure => simp [intOf]
          · go_upto_region 10 with (fail)
            go_quiet (fail)
            go_wp2
            all_goals go_roundw
            case rel =>
              have hn := HY.out _ _ (by assumption) (by first | omega | simp) (by first | omega | simp)
              clear HY HN
              generalize l ^^^ y = z at hn ⊢
              exact ⟨3, by omega, rfl, congrArg (Value.int .i64) (by omega), hX2.more _⟩
            case measure => simp [intOf]
            case rel =>
              have hn := HN.out _ _ (by assumption) (by first | omega | simp) (by first | omega | simp)
              clear HY HN
              generalize l ^^^ y = z at hn ⊢
              exact ⟨3, by omega, rfl, congrArg (Value.int .i64) (by omega), hX2.more _⟩
            case measure => simp [intOf]
          · go_upto_region 10 with (fail)
            go_quiet (fail)
            go_wp2
            all_goals go_roundw
            case rel =>
              have hn := HY.out _ _ (by assumption) (by first | omega | simp) (by first | omega | simp)
              clear HY HN
              generalize l ^^^ y = z at hn ⊢
              exact ⟨4, by omega, rfl, congrArg (Value.int .i64) (by omega), hX2.more _⟩
            case measure => simp [intOf]
            case rel =>
              have hn := HN.out _ _ (by assumption) (by first | omega | simp) (by first | omega | simp)
              clear HY HN
              generalize l ^^^ y = z at hn ⊢
              exact ⟨4, by omega, rfl, congrArg (Value.int .i64) (by omega), hX2.more _⟩
            case measure => simp [intOf]
          · go_upto_region 10 with (fail)
            go_quiet (fail)
            go_wp2
            all_goals go_roundw
            case rel =>
              have hn := HY.out _ _ (by assumption) (by first | omega | simp) (by first | omega | simp)
              clear HY HN
              generalize l ^^^ y = z at hn ⊢
              exact ⟨5, by omega, rfl, congrArg (Value.int .i64) (by omega), hX2.more _⟩
            case measure => simp [intOf]
            case rel =>
              have hn := HN.out _ _ (by assumption) (by first | omega | simp) (by first | omega | simp)
              clear HY HN
              generalize l ^^^ y = z at hn ⊢
              exact ⟨5, by omega, rfl, congrArg (Value.int .i64) (by omega), hX2.more _⟩
            case measure => simp [intOf]
          · go_upto_region 10 with (fail)
            go_quiet (fail)
            go_wp2
            all_goals go_roundw
            case rel =>
              have hn := HY.out _ _ (by assumption) (by first | omega | simp) (by first | omega | simp)
              clear HY HN
              generalize l ^^^ y = z at hn ⊢
              exact ⟨6, by omega, rfl, congrArg (Value.int .i64) (by omega), hX2.more _⟩
            case measure => simp [intOf]
            case rel =>
              have hn := HN.out _ _ (by assumption) (by first | omega | simp) (by first | omega | simp)
              clear HY HN
              generalize l ^^^ y = z at hn ⊢
              exact ⟨6, by omega, rfl, congrArg (Value.int .i64) (by omega), hX2.more _⟩
            case measure => simp [intOf]
          · go_upto_region 10 with (fail)
            go_quiet (fail)
            go_wp2
            all_goals go_roundw
            case rel =>
              have hn := HY.out _ _ (by assumption) (by first | omega | simp) (by first | omega | simp)
              clear HY HN
              generalize l ^^^ y = z at hn ⊢
              exact ⟨7, by omega, rfl, congrArg (Value.int .i64) (by omega), hX2.more _⟩
            case measure => simp [intOf]
            case rel =>
              have hn := HN.out _ _ (by assumption) (by first | omega | simp) (by first | omega | simp)
              clear HY HN
              generalize l ^^^ y = z at hn ⊢
              exact ⟨7, by omega, rfl, congrArg (Value.int .i64) (by omega), hX2.more _⟩
            case measure => simp [intOf]
          · go_upto_region 10 with (fail)
            go_quiet (fail)
            go_wp2
            all_goals go_roundw
            case rel =>
              have hn := HY.out _ _ (by assumption) (by first | omega | simp) (by first | omega | simp)
              clear HY HN
              generalize l ^^^ y = z at hn ⊢
              exact ⟨8, by omega, rfl, congrArg (Value.int .i64) (by omega), hX2.more _⟩
            case measure => simp [intOf]
            case rel =>
              have hn := HN.out _ _ (by assumption) (by first | omega | simp) (by first | omega | simp)
              clear HY HN
              generalize l ^^^ y = z at hn ⊢
              exact ⟨8, by omega, rfl, congrArg (Value.int .i64) (by omega), hX2.more _⟩
            case measure => simp [intOf]
        · obtain rfl : m = 8 := by omega
          have hz : (l ^^^ y) % 2 ^ 8 < 256 := Nat.mod_lt _ (by omega)
          have hls : l ≤ s := by have := HLI.out; omega
          generalize hq : (l ^^^ y) % 2 ^ 8 = q at hz E2 ⊢
          clear hq
          have HX2 := hd hX2
          clear c1 hX2
          go_wp2
          go_roundw
          case rel => exact ⟨k + 1, by omega, by go_num, by rw [E1.out, E2.out]; exact congrArg (Value.int .i64) (by omega), HX2.out⟩
          case measure => simp [intOf]; omega
    · go_wp2
      go_ret
      exact ⟨by rw [List.take_of_length_le (by rw [Hx.out]; omega)]; rfl, hX⟩


theorem magic_val {l : List UInt8} (hl : l.length = 4) : l = Pk.magic ↔ Pk.val l = 827019351 := by
  constructor
  · rintro rfl; decide
  · intro h
    exact Pk.val_inj _ _ (by rw [hl]; rfl) (by rw [h]; decide)

def zeros5 : Array Value := #[.int .i64 0, .int .i64 0, .slice none 0 0, .slice none 0 0, .slice none 0 0]

set_option maxHeartbeats 2000000 in
theorem RDec_early (A : Option Addr) (n c : Nat) (bs : List UInt8) (w : World) (h : Rd w 1 A n (bv bs)) (hn : n ≤ 140737488355328) (hnc : n ≤ c) (p : Nat) (m : Int)
    (hf : (131072 < n ∧ p = 0 ∧ m = 2) ∨ (n ≤ 131072 ∧ ((n < 8 ∧ p = n ∧ m = 120) ∨ (8 ≤ n ∧ ((bs.take 4 ≠ Pk.magic ∧ p = 0 ∧ m = 120) ∨ (bs.take 4 = Pk.magic ∧ Pk.sum (bs.take (n - 4)) ≠ Pk.val (bs.drop (n - 4)) ∧ p = n - 4 ∧ m = 124)))))) :
    Calls Try.prog 80 #[.slice A n c] w (DecPost (Pk.C0, p, m) w) := by
  have hl : bs.length = n := by have := h.1; rw [bv_length] at this; omega
  go_enter Try.func80, Try.ntmps80
  go_upto_region 2 with (fail)
  refine wp_world (fun W => Ext w W ∧ Blk W w.heap.size 25 #[.int .i64 0, .int .i64 0, .slice none 0 0, .slice none 0 0, .slice none 0 0] ∧ Blk W (w.heap.size + 1) 25 #[.int .i64 0, .int .i64 0, .slice none 0 0, .slice none 0 0, .slice none 0 0]) ⟨(Ext.new _ _).alloc _, (Blk.new _ _ _).alloc _, by simpa using Blk.new (w.alloc _) 25 _⟩ ?_
  rintro W ⟨hX, hP, hK⟩
  obtain ⟨p0, p1, p2, p3, p4⟩ := hK.c5
  obtain ⟨r0, r1, r2, r3, r4⟩ := hP.c5
  obtain ⟨q0, q1, q2, q3, q4⟩ := hP.f5
  have hXF := Ext.s5 hX (Nat.le_refl _) (.int .i64 0) (.int .i64 0) (.slice none 0 0) (.slice none 0 0) (.slice none 0 0)
  have hrW := h.ext hX
  have HL := hd hl
  clear hl
  rcases hf with ⟨hf, rfl, rfl⟩ | ⟨hf, ⟨hf1, rfl, rfl⟩ | ⟨hf1, ⟨hf2, rfl, rfl⟩ | ⟨hf2, hf3, rfl, rfl⟩⟩⟩
  · have e1 : (131072 : Int) < (n : Int) := by omega
    go_wp2
    obtain ⟨x0, x1, x2, x3, x4⟩ := (hP.s5 (.int .i64 0) (.int .i64 0) (.slice none 0 0) (.slice none 0 0) (.slice none 0 0)).c5
    refine bodyPost_ret (v := .tuple #[.agg #[.int .i64 0, .int .i64 0, .slice none 0 0, .slice none 0 0, .slice none 0 0], .int .i64 0, .int .i64 2]) (by simp [results, Try.results80, go_sem, x0, x1, x2, x3, x4]) rfl (DecPost.err rfl rfl hXF)
  · have e1 : ¬ (131072 : Int) < (p : Int) := by omega
    have e2 : (p : Int) < 8 := by omega
    go_wp2
    obtain ⟨x0, x1, x2, x3, x4⟩ := (hP.s5 (.int .i64 0) (.int .i64 0) (.slice none 0 0) (.slice none 0 0) (.slice none 0 0)).c5
    refine bodyPost_ret (v := .tuple #[.agg #[.int .i64 0, .int .i64 0, .slice none 0 0, .slice none 0 0, .slice none 0 0], .int .i64 p, .int .i64 120]) (by simp [results, Try.results80, go_sem, x0, x1, x2, x3, x4]) rfl (DecPost.err rfl rfl hXF)
  · have e1 : ¬ (131072 : Int) < (n : Int) := by omega
    have e2 : ¬ (n : Int) < 8 := by omega
    obtain ⟨b, o, rfl, hc⟩ := hrW.form (by omega) (by omega)
    clear hc
    have h4 : Rd W 1 (some ⟨b, o, none⟩) 4 (bv (bs.take 4)) := by have := hrW.take (k := 4) (by omega); rwa [Nat.mul_one, bv_take] at this
    obtain ⟨V, hV⟩ : ∃ V, Pk.val (bs.take 4) = V := ⟨_, rfl⟩
    have hne : V ≠ 827019351 := by rw [← hV]; exact fun e => hf2 ((magic_val (by rw [List.length_take, HL.out]; omega)).mpr e)
    have e3 : ((V : Int) != 827019351) = true := by simp; omega
    have hsl := slice_toK b o n c 4 (by omega) W 4 rfl
    have HV := hd hV
    clear hV hf2
    go_wp2_with (go_at_call 115; (with_reducible refine (RVal_any _ 4 _ _ _ h4 (by omega)).mono ?_); rw [HV.out]; rintro e v1 ⟨rfl, rfl⟩)
    obtain ⟨x0, x1, x2, x3, x4⟩ := (hP.s5 (.int .i64 0) (.int .i64 0) (.slice none 0 0) (.slice none 0 0) (.slice none 0 0)).c5
    refine bodyPost_ret (v := .tuple #[.agg #[.int .i64 0, .int .i64 0, .slice none 0 0, .slice none 0 0, .slice none 0 0], .int .i64 0, .int .i64 120]) (by simp [results, Try.results80, go_sem, x0, x1, x2, x3, x4]) rfl (DecPost.err rfl rfl hXF)
  · have e1 : ¬ (131072 : Int) < (n : Int) := by omega
    have e2 : ¬ (n : Int) < 8 := by omega
    obtain ⟨b, o, rfl, hc⟩ := hrW.form (by omega) (by omega)
    clear hc
    have h4 : Rd W 1 (some ⟨b, o, none⟩) 4 (bv (bs.take 4)) := by have := hrW.take (k := 4) (by omega); rwa [Nat.mul_one, bv_take] at this
    have hV : Pk.val (bs.take 4) = 827019351 := (magic_val (by rw [List.length_take, HL.out]; omega)).mp hf2
    have hsl := slice_toK b o n c 4 (by omega) W 4 rfl
    have HV := hd hV
    clear hV hf2
    obtain ⟨N, hN⟩ : ∃ N, n = N + 4 := ⟨n - 4, by omega⟩
    have hs1 : Rd W 1 (some ⟨b, o, none⟩) N (bv (bs.take N)) := by have := hrW.take (k := N) (by omega); rwa [Nat.mul_one, bv_take] at this
    have hs2 : Rd W 1 (some ⟨b, o + N, none⟩) 4 (bv (bs.drop N)) := by
      have := hrW.midK (i := N) (k := 4) (by omega)
      rwa [List.take_of_length_le (by rw [List.length_drop, HL.out]; omega)] at this
    rw [show n - 4 = N by omega] at hf3 ⊢
    have i0 : (n : Int) - 4 = (N : Int) := by omega
    have hsA := fun v => slice_fromK b o n c N (by omega) (by omega) (by omega) v (N : Int) rfl
    rw [show n - N = 4 by omega] at hsA
    have hsB := fun v => slice_toK b o n c N (by omega) v (N : Int) rfl
    have hw5 : IntKind.i64.wrap ((n : Int) - 4) = (N : Int) := by rw [IntKind.wrap_i64]; omega
    obtain ⟨oN, hoN⟩ : ∃ oN, o + N = oN := ⟨_, rfl⟩
    rw [hoN] at hs2 hsA
    obtain ⟨S, hS⟩ : ∃ S, Pk.sum (bs.take N) = S := ⟨_, rfl⟩
    obtain ⟨V, hV⟩ : ∃ V, Pk.val (bs.drop N) = V := ⟨_, rfl⟩
    have hf4 : ((V : Int) != (S : Int)) = true := by rw [hS, hV] at hf3; simp; omega
    have hNl : N ≤ 9000000000000000000 := by omega
    have HN := hd hN
    clear hN hf3
    have CS : Hid (∀ m, Calls Try.prog 76 #[.slice (some ⟨b, o, none⟩) N c] (W.drewN m) fun e w' => e = Ending.returned (.int .i64 (S : Int)) ∧ ∃ k, w' = (W.drewN m).drewN k) := hd fun m =>
      (RSum_quiet _ N c _ (W.drewN m) (hs1.drewN m) hNl).mono fun e w' ⟨he, hw⟩ => ⟨by rw [he, hS], hw⟩
    have CG : Hid (∀ m, Calls Try.prog 115 #[.slice (some ⟨b, oN, none⟩) 4 (c - N)] (W.drewN m) fun e w' => e = Ending.returned (.int .i64 (V : Int)) ∧ w' = W.drewN m) := hd fun m =>
      (RVal_any _ 4 (c - N) _ (W.drewN m) (hs2.drewN m) (by omega)).mono fun e w' ⟨he, hw⟩ => ⟨by rw [he, hV], hw.symm⟩
    clear hS hV hs1 hs2 hoN hrW h
    go_upto_region 8 with (go_at_call 115; (with_reducible refine (RVal_any _ 4 _ _ _ h4 (by omega)).mono ?_); rw [HV.out]; rintro e v1 ⟨rfl, rfl⟩)
    clear hsl h4
    go_upto_region 9 with (fail)
    go_quiet (first | (go_at_call 76; exact Calls.quiet_of (CS.out _)) | (go_at_call 115; exact Calls.quiet_of_same (CG.out _)))
    go_wp2
    obtain ⟨x0, x1, x2, x3, x4⟩ := (Blk.s5 (w := W.drewN nq) hP (.int .i64 0) (.int .i64 0) (.slice none 0 0) (.slice none 0 0) (.slice none 0 0)).c5
    refine bodyPost_ret (v := .tuple #[.agg #[.int .i64 0, .int .i64 0, .slice none 0 0, .slice none 0 0, .slice none 0 0], .int .i64 N, .int .i64 124]) (by simp [results, Try.results80, go_sem, x0, x1, x2, x3, x4]) rfl (DecPost.err rfl (by have := HN.out; omega) (Ext.s5 (hX.drewN nq) (Nat.le_refl _) _ _ _ _ _))

end Go.Proofs.Ytfcbedkidjclhaa
