/-
  The contracts of the document's low, Sum, value.
  Conditions: as named.
-/
import Derived.Test.YtfcbedkidjclhaaPack1
import Derived.Test.YtfcbedkidjclhaaRdM
import Derived.Test.YtfcbedkidjclhaaKeep
namespace Go.Proofs.Ytfcbedkidjclhaa
open Go.RowKit
set_option maxRecDepth 100000
set_option linter.unusedSimpArgs false
set_option linter.unusedVariables false

set_option maxHeartbeats 400000 in
theorem RLow_any (v : Int) (s : Nat) (s' : Int) (w : World) (hs : s ≤ 8) (es : s' = (s : Int)) (h0 : 0 ≤ v) (h1 : v ≤ 4000000000000000000) :
    Calls Try.prog 75 #[.int .i64 v, .int .i64 s'] w fun e w' => ∃ A' c', e = .returned (.slice A' s c') ∧ w'.ownsRow w.heap.size 5 1 (.slice A' s c') s (bv (Pk.low s v)) ∧ Ext w w' := by
  subst es
  obtain ⟨i0, hi0, hz0, hz1, hz2⟩ := info_parts info5
  go_enter Try.func75, Try.ntmps75
  go_wp2
  go_loopw [0, 5, 6] (fun u b i wr => ∃ (k : Nat) (v' : Int) (A' : Option Addr) (c' : Nat) (don : List UInt8), k ≤ s ∧ 0 ≤ v' ∧ v' ≤ 4000000000000000000 ∧ i = .int .i64 k ∧ u = .int .i64 v' ∧ b = .slice A' k c' ∧
      Hid (Pk.low s v = don ++ Pk.low (s - k) v') ∧ wr.ownsRow w.heap.size 5 1 (.slice A' k c') k (bv don) ∧ Ext w wr)
    (fun _ _ i _ => s - (intOf i).toNat)
  case atStart => exact ⟨0, v, none, 0, [], by omega, h0, h1, rfl, rfl, rfl, hd (by simp), World.ownsRow_nil _ _ _ _, Ext.refl _⟩
  case round =>
    obtain ⟨k, v', A', c', don, hk, g0, g1, rfl, rfl, rfl, hlow, hown, hX⟩ := hrel
    by_cases hlt : k < s
    · have hsz := hX.size
      have e1 : (k : Int) < (s : Int) := by omega
      have hm0 : 0 ≤ v' % 256 := by omega
      have hm1 : v' % 256 < 256 := by omega
      go_wp2_with (at_builtin; refine wpList_app _ rfl _ _ 22 rfl w.heap.size 5 i0 _ 1 1 Try.underlying22 hi0 hz0 hz1 hz2 rfl (by omega) (.slice A' k c') k (bv don) rfl (hown.alloc _) (some ⟨wr.heap.size, 0, none⟩) 1 1 [.int .u8 (v' % 256)] rfl (Rd.one _ _ _) (oneCell_one _ _) (by omega) (by omega) (by simp; omega) ?_; intro v1 w1 hown1 hg1 hat1; have hX1 := (hX.alloc _).grown_own (hown.alloc _) hg1 (Nat.le_refl _); obtain ⟨A2, c2, rfl, _⟩ := own_form hown1; clear hg1 hat1 hown)
      rw [bv_snoc] at hown1
      go_roundw
      case rel => exact ⟨k + 1, v' / 256, A2, c2, don ++ [Pk.byte v'], by omega, by omega, by omega, by go_num, rfl, rfl, hd (Pk.low_step hlt hlow.out), hown1, hX1⟩
      case measure => simp [intOf]; omega
    · have hks : k = s := by omega
      subst hks
      have e1 : ¬ (k : Int) < (k : Int) := by omega
      have hl := hlow.out
      simp only [Nat.sub_self, Pk.low, List.append_nil] at hl
      have Hl := hd hl
      clear hl
      go_wp2
      go_ret
      exact ⟨A', c', rfl, by rw [Hl.out]; exact hown, hX⟩

theorem bit_of (l m : Nat) (hl : l < 256) : bits .and .i64 ((l / 2 ^ m : Nat) : Int) 1 = if l.testBit m = true then 1 else 0 := by
  have h1 : l / 2 ^ m ≤ l := Nat.div_le_self _ _
  have := int_and (l / 2 ^ m) 1 (by omega) (by omega)
  rw [show ((1 : Nat) : Int) = 1 from rfl] at this
  rw [this, Nat.and_one_is_mod, Nat.testBit_eq_decide_div_mod_eq]
  rcases Nat.mod_two_eq_zero_or_one (l / 2 ^ m) with h | h <;> rw [h] <;> simp
theorem bit_yes {l y m : Nat} {L Y : Int} (hl : l < 256) (hy : y < 256) (eL : L = ((l / 2 ^ m : Nat) : Int)) (eY : Y = ((y / 2 ^ m : Nat) : Int)) (t : (bits .and .i64 L 1 != bits .and .i64 Y 1) = true) : (l ^^^ y) % 2 ^ m + 2 ^ m = (l ^^^ y) % 2 ^ (m + 1) := by
  rw [eL, eY, bit_of l m hl, bit_of y m hy] at t
  rw [Pk.bit_next, if_neg]
  intro e
  rw [e] at t
  simp at t
theorem bit_no {l y m : Nat} {L Y : Int} (hl : l < 256) (hy : y < 256) (eL : L = ((l / 2 ^ m : Nat) : Int)) (eY : Y = ((y / 2 ^ m : Nat) : Int)) (t : (bits .and .i64 L 1 != bits .and .i64 Y 1) = false) : (l ^^^ y) % 2 ^ m = (l ^^^ y) % 2 ^ (m + 1) := by
  rw [eL, eY, bit_of l m hl, bit_of y m hy] at t
  rw [Pk.bit_next, if_pos, Nat.add_zero]
  cases h1 : l.testBit m <;> cases h2 : y.testBit m <;> simp_all

set_option maxHeartbeats 2000000 in
theorem RSum_any (A : Option Addr) (n c : Nat) (xs : List UInt8) (w : World) (h : Rd w 1 A n (bv xs)) (hn : n ≤ 9000000000000000000) :
    Calls Try.prog 76 #[.slice A n c] w fun e w' => e = .returned (.int .i64 (Pk.sum xs)) ∧ Ext w w' := by
  have hx : xs.length = n := by have := h.1; rw [bv_length] at this; omega
  have Hx := hd hx
  clear hx
  go_enter Try.func76, Try.ntmps76
  go_wp2
  go_loopw [3, 4, 5, 6, 7] (fun s i _ _ _ wr => ∃ k : Nat, k ≤ n ∧ i = .int .i64 k ∧ s = .int .i64 (Pk.sum (xs.take k)) ∧ Ext w wr) (fun _ i _ _ _ _ => n - (intOf i).toNat)
  case atStart => exact ⟨0, by omega, rfl, rfl, Ext.refl _⟩
  case round =>
    obtain ⟨k, hk, rfl, rfl, hX⟩ := hrel
    by_cases hlt : k < n
    · have e1 : (k : Int) < (n : Int) := by omega
      obtain ⟨b, o, rfl, hc⟩ := h.form (by omega) (by omega)
      have hkx : k < xs.length := by have := Hx.out; omega
      have c0 := hc _ _ (bv_get xs k hkx)
      clear hc
      have hs := Pk.sum_lt (xs.take k)
      have hb := xs[k].toNat_lt
      have E1 := hd (Pk.sum_step xs k hkx)
      have E2 := hd (Pk.step_bits (Pk.sum (xs.take k)) xs[k])
      generalize Pk.sum (xs.take k) = s at hs E1 E2 ⊢
      generalize xs[k].toNat = y at hb c0 E2
      obtain ⟨l, hl⟩ : ∃ l, s % 256 = l := ⟨_, rfl⟩
      have hl2 : l < 256 := by omega
      rw [hl] at E2
      have hli : (s : Int) % 256 = (l : Int) := by omega
      go_upto_region 6 with (fail)
      rw [hli]
      have HLI := hd hl
      clear hl hli
      go_wp2
      obtain ⟨wo, rfl⟩ : ∃ wo : World, wo = wr := ⟨_, rfl⟩
      go_loopw [6, 7] (fun x j wr => ∃ m : Nat, m ≤ 8 ∧ j = .int .i64 m ∧ x = .int .i64 (((l ^^^ y) % 2 ^ m : Nat) : Int) ∧ Ext w wr) (fun _ j _ => 8 - (intOf j).toNat)
      case atStart => exact ⟨0, by omega, rfl, by simp [Nat.mod_one], hX⟩
      case round =>
        obtain ⟨m, hm, rfl, rfl, hX2⟩ := hrel
        have c1 := hX2.cell c0
        by_cases hlt2 : m < 8
        · have hz : (l ^^^ y) < 256 := Nat.xor_lt_two_pow (n := 8) hl2 hb
          have HY := hd (fun (L Y : Int) (t : (bits .and .i64 L 1 != bits .and .i64 Y 1) = true) (eL : L = ((l / 2 ^ m : Nat) : Int)) (eY : Y = ((y / 2 ^ m : Nat) : Int)) => bit_yes hl2 hb eL eY t)
          have HN := hd (fun (L Y : Int) (t : (bits .and .i64 L 1 != bits .and .i64 Y 1) = false) (eL : L = ((l / 2 ^ m : Nat) : Int)) (eY : Y = ((y / 2 ^ m : Nat) : Int)) => bit_no hl2 hb eL eY t)
          obtain rfl | rfl | rfl | rfl | rfl | rfl | rfl | rfl : m = 0 ∨ m = 1 ∨ m = 2 ∨ m = 3 ∨ m = 4 ∨ m = 5 ∨ m = 6 ∨ m = 7 := by omega
          · go_upto_region 10 with (fail)
            go_quiet (fail)
            go_wp2
            all_goals go_roundw
            case rel =>
              have hn := HY.out _ _ (by assumption) (by first | omega | simp) (by first | omega | simp)
              clear HY HN
              generalize l ^^^ y = z at hn ⊢
              exact ⟨1, by omega, rfl, congrArg (Value.int .i64) (by omega), hX2.drewN _⟩
            case measure => simp [intOf]
            case rel =>
              have hn := HN.out _ _ (by assumption) (by first | omega | simp) (by first | omega | simp)
              clear HY HN
              generalize l ^^^ y = z at hn ⊢
              exact ⟨1, by omega, rfl, congrArg (Value.int .i64) (by omega), hX2.drewN _⟩
            case measure => simp [intOf]
          · go_upto_region 10 with (fail)
            go_quiet (fail)
            go_wp2
            all_goals go_roundw
            case rel =>
              have hn := HY.out _ _ (by assumption) (by first | omega | simp) (by first | omega | simp)
              clear HY HN
              generalize l ^^^ y = z at hn ⊢
              exact ⟨2, by omega, rfl, congrArg (Value.int .i64) (by omega), hX2.drewN _⟩
            case measure => simp [intOf]
            case rel =>
              have hn := HN.out _ _ (by assumption) (by first | omega | simp) (by first | omega | simp)
              clear HY HN
              generalize l ^^^ y = z at hn ⊢
              exact ⟨2, by omega, rfl, congrArg (Value.int .i64) (by omega), hX2.drewN _⟩
            case measure => simp [intOf]
          · go_upto_region 10 with (fail)
            go_quiet (fail)
            go_wp2
            all_goals go_roundw
            case rel =>
              have hn := HY.out _ _ (by assumption) (by first | omega | simp) (by first | omega | simp)
              clear HY HN
              generalize l ^^^ y = z at hn ⊢
              exact ⟨3, by omega, rfl, congrArg (Value.int .i64) (by omega), hX2.drewN _⟩
            case measure => simp [intOf]
            case rel =>
              have hn := HN.out _ _ (by assumption) (by first | omega | simp) (by first | omega | simp)
              clear HY HN
              generalize l ^^^ y = z at hn ⊢
              exact ⟨3, by omega, rfl, congrArg (Value.int .i64) (by omega), hX2.drewN _⟩
            case measure => simp [intOf]
          · go_upto_region 10 with (fail)
            go_quiet (fail)
            go_wp2
            all_goals go_roundw
            case rel =>
              have hn := HY.out _ _ (by assumption) (by first | omega | simp) (by first | omega | simp)
              clear HY HN
              generalize l ^^^ y = z at hn ⊢
              exact ⟨4, by omega, rfl, congrArg (Value.int .i64) (by omega), hX2.drewN _⟩
            case measure => simp [intOf]
            case rel =>
              have hn := HN.out _ _ (by assumption) (by first | omega | simp) (by first | omega | simp)
              clear HY HN
              generalize l ^^^ y = z at hn ⊢
              exact ⟨4, by omega, rfl, congrArg (Value.int .i64) (by omega), hX2.drewN _⟩
            case measure => simp [intOf]
          · go_upto_region 10 with (fail)
            go_quiet (fail)
            go_wp2
            all_goals go_roundw
            case rel =>
              have hn := HY.out _ _ (by assumption) (by first | omega | simp) (by first | omega | simp)
              clear HY HN
              generalize l ^^^ y = z at hn ⊢
              exact ⟨5, by omega, rfl, congrArg (Value.int .i64) (by omega), hX2.drewN _⟩
            case measure => simp [intOf]
            case rel =>
              have hn := HN.out _ _ (by assumption) (by first | omega | simp) (by first | omega | simp)
              clear HY HN
              generalize l ^^^ y = z at hn ⊢
              exact ⟨5, by omega, rfl, congrArg (Value.int .i64) (by omega), hX2.drewN _⟩
            case measure => simp [intOf]
          · go_upto_region 10 with (fail)
            go_quiet (fail)
            go_wp2
            all_goals go_roundw
            case rel =>
              have hn := HY.out _ _ (by assumption) (by first | omega | simp) (by first | omega | simp)
              clear HY HN
              generalize l ^^^ y = z at hn ⊢
              exact ⟨6, by omega, rfl, congrArg (Value.int .i64) (by omega), hX2.drewN _⟩
            case measure => simp [intOf]
            case rel =>
              have hn := HN.out _ _ (by assumption) (by first | omega | simp) (by first | omega | simp)
              clear HY HN
              generalize l ^^^ y = z at hn ⊢
              exact ⟨6, by omega, rfl, congrArg (Value.int .i64) (by omega), hX2.drewN _⟩
            case measure => simp [intOf]
          · go_upto_region 10 with (fail)
            go_quiet (fail)
            go_wp2
            all_goals go_roundw
            case rel =>
              have hn := HY.out _ _ (by assumption) (by first | omega | simp) (by first | omega | simp)
              clear HY HN
              generalize l ^^^ y = z at hn ⊢
              exact ⟨7, by omega, rfl, congrArg (Value.int .i64) (by omega), hX2.drewN _⟩
            case measure => simp [intOf]
            case rel =>
              have hn := HN.out _ _ (by assumption) (by first | omega | simp) (by first | omega | simp)
              clear HY HN
              generalize l ^^^ y = z at hn ⊢
              exact ⟨7, by omega, rfl, congrArg (Value.int .i64) (by omega), hX2.drewN _⟩
            case measure => simp [intOf]
          · go_upto_region 10 with (fail)
            go_quiet (fail)
            go_wp2
            all_goals go_roundw
            case rel =>
              have hn := HY.out _ _ (by assumption) (by first | omega | simp) (by first | omega | simp)
              clear HY HN
              generalize l ^^^ y = z at hn ⊢
              exact ⟨8, by omega, rfl, congrArg (Value.int .i64) (by omega), hX2.drewN _⟩
            case measure => simp [intOf]
            case rel =>
              have hn := HN.out _ _ (by assumption) (by first | omega | simp) (by first | omega | simp)
              clear HY HN
              generalize l ^^^ y = z at hn ⊢
              exact ⟨8, by omega, rfl, congrArg (Value.int .i64) (by omega), hX2.drewN _⟩
            case measure => simp [intOf]
        · obtain rfl : m = 8 := by omega
          have hz : (l ^^^ y) % 2 ^ 8 < 256 := Nat.mod_lt _ (by omega)
          have hls : l ≤ s := by have := HLI.out; omega
          generalize hq : (l ^^^ y) % 2 ^ 8 = q at hz E2 ⊢
          clear hq
          have HX2 := hd hX2
          clear c1 hX2
          go_wp2
          go_roundw
          case rel => exact ⟨k + 1, by omega, by go_num, by rw [E1.out, E2.out]; exact congrArg (Value.int .i64) (by omega), HX2.out⟩
          case measure => simp [intOf]; omega
    · go_wp2
      go_ret
      exact ⟨by rw [List.take_of_length_le (by rw [Hx.out]; omega)]; rfl, hX⟩

theorem val_snoc : ∀ (l : List UInt8) (x : UInt8), Pk.val (l ++ [x]) = Pk.val l + 256 ^ l.length * x.toNat
  | [], x => by simp [Pk.val]
  | b :: l, x => by
    rw [List.cons_append, Pk.val, Pk.val, val_snoc l x, List.length_cons, Nat.pow_succ, Nat.mul_add, ← Nat.mul_assoc, Nat.mul_comm (256 ^ l.length) 256]
    omega
theorem RVal_any (A : Option Addr) (n c : Nat) (xs : List UInt8) (w : World) (h : Rd w 1 A n (bv xs)) (hn : n ≤ 4) :
    Calls Try.prog 115 #[.slice A n c] w fun e w' => e = .returned (.int .i64 (Pk.val xs)) ∧ w = w' := by
  have hx : xs.length = n := by have := h.1; rw [bv_length] at this; omega
  have Hx := hd hx
  clear hx
  go_enter Try.func115, Try.ntmps115
  go_wp2
  go_loop [3, 4, 5] (fun v m i => ∃ k : Nat, k ≤ n ∧ i = .int .i64 k ∧ v = .int .i64 ((Pk.val (xs.take k) : Nat) : Int) ∧ m = .int .i64 ((256 ^ k : Nat) : Int)) (fun _ _ i => n - (intOf i).toNat)
  case atStart => exact ⟨0, by omega, rfl, rfl, rfl⟩
  case round =>
    obtain ⟨k, hk, rfl, rfl, rfl⟩ := hrel
    by_cases hlt : k < n
    · have e1 : (k : Int) < (n : Int) := by omega
      obtain ⟨b, o, rfl, hc⟩ := h.form (by omega) (by omega)
      have hkx : k < xs.length := by have := Hx.out; omega
      have c0 := hc _ _ (bv_get xs k hkx)
      clear hc
      have hb := xs[k].toNat_lt
      have hv : Pk.val (xs.take k) < 4294967296 := Pk.val_small _ (by rw [List.length_take]; omega)
      have HV := hd (show Pk.val (xs.take (k + 1)) = Pk.val (xs.take k) + 256 ^ k * xs[k].toNat by
        rw [List.take_succ_eq_append_getElem hkx, val_snoc, List.length_take, Nat.min_eq_left (by omega)])
      generalize xs[k].toNat = y at hb c0 HV
      generalize Pk.val (xs.take k) = v at hv HV ⊢
      obtain rfl | rfl | rfl | rfl : k = 0 ∨ k = 1 ∨ k = 2 ∨ k = 3 := by omega
      · rw [Nat.add_zero] at c0
        go_wp2
        go_round
        case rel => exact ⟨1, by omega, rfl, congrArg (Value.int .i64) (by have h8 : Pk.val (xs.take 1) = v + 256 ^ 0 * y := HV.out; omega), rfl⟩
        case measure => simp [intOf]; omega
      · go_wp2
        go_round
        case rel => exact ⟨2, by omega, rfl, congrArg (Value.int .i64) (by have h8 : Pk.val (xs.take 2) = v + 256 ^ 1 * y := HV.out; omega), rfl⟩
        case measure => simp [intOf]; omega
      · go_wp2
        go_round
        case rel => exact ⟨3, by omega, rfl, congrArg (Value.int .i64) (by have h8 : Pk.val (xs.take 3) = v + 256 ^ 2 * y := HV.out; omega), rfl⟩
        case measure => simp [intOf]; omega
      · go_wp2
        go_round
        case rel => exact ⟨4, by omega, rfl, congrArg (Value.int .i64) (by have h8 : Pk.val (xs.take 4) = v + 256 ^ 3 * y := HV.out; omega), rfl⟩
        case measure => simp [intOf]; omega
    · have e1 : ¬ (k : Int) < (n : Int) := by omega
      go_wp2
      go_ret
      exact ⟨by rw [List.take_of_length_le (by rw [Hx.out]; omega)]; rfl, rfl⟩

end Go.Proofs.Ytfcbedkidjclhaa
