/-
  The contracts of package code's number, left, unit, operation, chosen.
  Conditions: the lists can be read; two or four bytes.
-/
import Derived.Test.YtfcbedkidjclhaaCode9
import Derived.Test.YtfcbedkidjclhaaCode4
import Derived.StillTailTactics
namespace Go.Proofs.Ytfcbedkidjclhaa
open Go.RowKit
set_option maxRecDepth 100000
set_option linter.unusedSimpArgs false
set_option linter.unusedVariables false

/-- a signed number of two or four bytes -/
def half (n : Nat) : Int := if n = 2 then 32768 else 2147483648
theorem number_any (A : Option Addr) (n c : Nat) (xs : List UInt8) (w : World) (h : Rd w 1 A n (bv xs)) (hn : n = 2 ∨ n = 4) :
    Calls Try.prog 144 #[.slice A n c] w fun e w' => e = .returned (.int .i64 (Cd.sgn (half n) (Pk.val xs))) ∧ w = w' := by
  have hx : xs.length = n := by have := h.1; rw [bv_length] at this; omega
  have Hx := hd hx
  clear hx
  have HN := hd hn
  have hn4 : n ≤ 5 := by omega
  clear hn
  go_enter Try.func144, Try.ntmps144
  go_wp2
  go_loop [3, 4] (fun s i => ∃ k : Nat, k ≤ n ∧ i = .int .i64 ((k : Int) - 1) ∧ s = .int .i64 (Pk.val (xs.drop k))) (fun _ i => (intOf i + 1).toNat)
  case atStart => exact ⟨n, by omega, rfl, by rw [List.drop_of_length_le (by rw [Hx.out]; omega)]; rfl⟩
  case round =>
    obtain ⟨k, hk, rfl, rfl⟩ := hrel
    by_cases hlt : 0 < k
    · obtain ⟨j, rfl⟩ : ∃ j, k = j + 1 := ⟨k - 1, by omega⟩
      obtain ⟨b, o, rfl, hc⟩ := h.form (by omega) (by omega)
      have hkx : j < xs.length := by have := Hx.out; omega
      have c0 := hc _ _ (bv_get xs j hkx)
      clear hc
      have e0 : ((j + 1 : Nat) : Int) - 1 = (j : Int) := by omega
      have hb := xs[j].toNat_lt
      have hv : Pk.val (xs.drop (j + 1)) < 4294967296 := Pk.val_small _ (by rw [List.length_drop, Hx.out]; have := HN.out; omega)
      have E1 := hd (Pk.val_drop xs j hkx)
      have E2 := hd (int_or_byte (Pk.val (xs.drop (j + 1))) xs[j].toNat (by omega) (by omega))
      rw [e0]
      clear e0
      go_wp2
      go_round
      case rel => exact ⟨j, by omega, rfl, by rw [E1.out, ← E2.out]; rfl⟩
      case measure => simp [intOf]
    · have hk0 : k = 0 := by omega
      subst hk0
      have hv := Pk.val_lt xs
      rw [Hx.out] at hv
      rcases HN.out with rfl | rfl
      · go_wp2
        go_ret
        refine ⟨?_, rfl⟩
        have : wrap64 ((Pk.val xs : Int) * 281474976710656) / 281474976710656 = Cd.sgn (half 2) (Pk.val xs) := by
          unfold wrap64 Cd.sgn half
          split <;> split <;> omega
        rw [← this]
        rfl
      · go_wp2
        go_ret
        refine ⟨?_, rfl⟩
        have : wrap64 ((Pk.val xs : Int) * 4294967296) / 4294967296 = Cd.sgn (half 4) (Pk.val xs) := by
          unfold wrap64 Cd.sgn half
          split <;> split <;> omega
        rw [← this]
        rfl

/-- how many whole units are left -/
theorem left_any (g : Nat) (A : Option Addr) (N c p : Nat) (w : World) (hB : Blk w g 126 #[.slice A N c, .int .i64 p]) (hN : N ≤ 281474976710656) (hp : p ≤ 281474976710656) :
    Calls Try.prog 118 #[.pointer (some ⟨g, 0, none⟩)] w fun e w' => e = .returned (.int .i64 ((N / 8 : Nat) - p)) ∧ ∃ n, w' = w.drewN n := by
  obtain ⟨r0, r1⟩ := hB.c2
  go_enter Try.func118, Try.ntmps118
  go_upto_region 1 with (fail)
  go_quiet (fail)
  go_wp2
  go_ret
  exact ⟨rfl, _, rfl⟩

theorem and15_nat : ∀ c, c < 256 → c &&& 15 = c % 16 := by decide +kernel
theorem ofInt_u8 (a : Nat) (h : a < 256) : (BitVec.ofInt 8 (a : Int)).toNat = a := by
  rw [BitVec.toNat_ofInt]
  omega
theorem and15 (x : UInt8) : bits .and .u8 ((x.toNat : Nat) : Int) 15 = ((x.toNat % 16 : Nat) : Int) := by
  have h := x.toNat_lt
  show IntKind.u8.wrap ((BitVec.ofInt 8 ((x.toNat : Nat) : Int) &&& BitVec.ofInt 8 ((15 : Nat) : Int)).toNat : Int) = _
  rw [BitVec.toNat_and, ofInt_u8 _ h, ofInt_u8 _ (by omega), and15_nat _ h]
  rw [IntKind.wrap_u8]
  omega
theorem wrap_u8 (a : Nat) (h : a < 256) : IntKind.i64.wrap (a : Int) = (a : Int) := by
  rw [IntKind.wrap_i64]
  omega
theorem slice24 (b q d : Nat) (h : 8 ≤ d) (v : World) : Sem.run Try.prog (Instr.slice 22 (.slice (some ⟨b, q, none⟩) 8 d) (some (.int .i64 2)) (some (.int .i64 4)) none) v = .ok (.slice (some ⟨b, q + 2, none⟩) 2 (d - 2)) v := by
  have h1 : (4 : Int) ≤ d := by omega
  have h2 : ¬ d = 2 := by omega
  simp [go_sem, Try.underlying22, h1, h2]
theorem slice48 (b q d : Nat) (h : 8 ≤ d) (v : World) : Sem.run Try.prog (Instr.slice 22 (.slice (some ⟨b, q, none⟩) 8 d) (some (.int .i64 4)) (some (.int .i64 8)) none) v = .ok (.slice (some ⟨b, q + 4, none⟩) 4 (d - 4)) v := by
  have h1 : (8 : Int) ≤ d := by omega
  have h2 : ¬ d = 4 := by omega
  simp [go_sem, Try.underlying22, h1, h2]

/-- a unit's fields as cells -/
def fv (f : Cd.F) : Array Value := #[.int .i64 f.op, .int .i64 f.dst, .int .i64 f.src, .int .i64 f.off, .int .i64 f.imm]
theorem fields_eight (x0 x1 x2 x3 x4 x5 x6 x7 : UInt8) (tl : List UInt8) : Cd.fields (x0 :: x1 :: x2 :: x3 :: x4 :: x5 :: x6 :: x7 :: tl) = ⟨x0.toNat, x1.toNat % 16, x1.toNat / 16, Cd.sgn 32768 (Pk.val [x2, x3]), Cd.sgn 2147483648 (Pk.val [x4, x5, x6, x7])⟩ := rfl
theorem unit_any (g : Nat) (A : Option Addr) (N c p k : Nat) (bs : List UInt8) (w : World) (hB : Blk w g 126 #[.slice A N c, .int .i64 p]) (hR : Rd w 1 A N (bv bs)) (hk : 8 * k + 8 ≤ N) (hc : N ≤ c) (hN : N ≤ 281474976710656) :
    Calls Try.prog 119 #[.pointer (some ⟨g, 0, none⟩), .int .i64 k] w fun e w' => e = .returned (.agg (fv (Cd.fields (bs.drop (8 * k))))) ∧ Ext w w' := by
  have hl : bs.length = N := by have := hR.1; rw [bv_length] at this; omega
  obtain ⟨r0, r1⟩ := hB.c2
  obtain ⟨b, o, rfl, hcell⟩ := hR.form (by omega) (by omega)
  go_enter Try.func119, Try.ntmps119
  go_upto_region 1 with (fail)
  refine wp_world (fun W => Ext w W ∧ Blk W w.heap.size 161 #[.int .i64 0, .int .i64 0, .int .i64 0, .int .i64 0, .int .i64 0]) ⟨Ext.new _ _, Blk.new _ _ _⟩ ?_
  rintro W ⟨hX, hF⟩
  have r0' := hX.cell r0
  go_upto_region 2 with (fail)
  rw [show 8 * k + 8 - 8 * k = 8 by omega]
  have hd8 : 8 ≤ c - 8 * k := by omega
  have hdl : (bs.drop (8 * k)).length = N - 8 * k := by rw [List.length_drop, hl]
  have hce : ∀ j, ∀ x, (bs.drop (8 * k))[j]? = some x → W.cell? ⟨b, o + 8 * k + j, none⟩ = some (.int .u8 (x.toNat : Int)) := by
    intro j x hx
    rw [List.getElem?_drop] at hx
    have h1 := hcell (8 * k + j) (.int .u8 (x.toNat : Int)) (by simp [bv, hx])
    rw [← Nat.add_assoc] at h1
    exact hX.cell h1
  clear hcell hR r0' r0 r1 hB
  generalize c - 8 * k = d at hd8 ⊢
  generalize o + 8 * k = q at hce ⊢
  obtain ⟨x0, x1, x2, x3, x4, x5, x6, x7, tl, hE⟩ : ∃ x0 x1 x2 x3 x4 x5 x6 x7 tl, bs.drop (8 * k) = x0 :: x1 :: x2 :: x3 :: x4 :: x5 :: x6 :: x7 :: tl := by
    have h8 : 8 ≤ (bs.drop (8 * k)).length := by omega
    revert h8
    generalize bs.drop (8 * k) = ds
    intro h8
    match ds, h8 with
    | x0 :: x1 :: x2 :: x3 :: x4 :: x5 :: x6 :: x7 :: tl, _ => exact ⟨x0, x1, x2, x3, x4, x5, x6, x7, tl, rfl⟩
  rw [hE] at hce
  have HE := hd hE
  clear hE
  have c0 := hce 0 x0 rfl
  have c1 := hce 1 x1 rfl
  have R2 : Rd W 1 (some ⟨b, q + 2, none⟩) 2 (bv [x2, x3]) := by
    refine ⟨rfl, fun _ => ⟨_, rfl, ?_⟩⟩
    intro j u hu
    rw [show (⟨b, q + 2, none⟩ : Addr).add j = ⟨b, q + (2 + j), none⟩ by unfold Addr.add; split <;> simp_all [Nat.add_assoc]]
    match j, hu with
    | 0, hu => cases hu; exact hce 2 x2 rfl
    | 1, hu => cases hu; exact hce 3 x3 rfl
  have R4 : Rd W 1 (some ⟨b, q + 4, none⟩) 4 (bv [x4, x5, x6, x7]) := by
    refine ⟨rfl, fun _ => ⟨_, rfl, ?_⟩⟩
    intro j u hu
    rw [show (⟨b, q + 4, none⟩ : Addr).add j = ⟨b, q + (4 + j), none⟩ by unfold Addr.add; split <;> simp_all [Nat.add_assoc]]
    match j, hu with
    | 0, hu => cases hu; exact hce 4 x4 rfl
    | 1, hu => cases hu; exact hce 5 x5 rfl
    | 2, hu => cases hu; exact hce 6 x6 rfl
    | 3, hu => cases hu; exact hce 7 x7 rfl
  obtain ⟨f0, f1, f2, f3, f4⟩ := hF.f5
  obtain ⟨p0, p1, p2, p3, p4⟩ := hF.c5
  rw [Nat.add_zero] at c0
  clear hce hk hN hl hdl
  have hs2 := slice24 b q d hd8
  have hs4 := slice48 b q d hd8
  have N2 : Calls Try.prog 144 #[.slice (some ⟨b, q + 2, none⟩) 2 (d - 2)] W.drew (fun e w'' => e = .returned (.int .i64 (Cd.sgn (half 2) (Pk.val [x2, x3]))) ∧ w'' = W.drew) :=
    (number_any _ 2 _ _ _ R2.drew (.inl rfl)).mono (by rintro e w1 ⟨rfl, rfl⟩; exact ⟨rfl, rfl⟩)
  have N4 : Calls Try.prog 144 #[.slice (some ⟨b, q + 4, none⟩) 4 (d - 4)] W.drew (fun e w'' => e = .returned (.int .i64 (Cd.sgn (half 4) (Pk.val [x4, x5, x6, x7]))) ∧ w'' = W.drew) :=
    (number_any _ 4 _ _ _ R4.drew (.inr rfl)).mono (by rintro e w1 ⟨rfl, rfl⟩; exact ⟨rfl, rfl⟩)
  clear R2 R4
  refine wp_region_still_tail 21 (by kernel_rfl) (by kernel_rfl) ?_
  simp only [List.take_succ_cons, List.take_zero, List.drop_succ_cons, List.drop_zero]
  repeat still_step
  still_call N2
  repeat still_step
  still_call N4
  repeat still_step
  try refine wpStill_nil ?_
  change wpList _ _ _ _ _ W.drew
  rw [and15 x1, wrap_u8 x0.toNat x0.toNat_lt, wrap_u8 (x1.toNat % 16) (by omega), show ((x1.toNat : Nat) : Int) / 16 = ((x1.toNat / 16 : Nat) : Int) by omega, wrap_u8 (x1.toNat / 16) (by have := x1.toNat_lt; omega)]
  go_wp2_with ((with_reducible refine wl_store161 _ _ _ ?_ ?_ hF.drew ?_ ?_); exact rfl; exact ⟨_, _, _, _, _, rfl⟩; exact rfl; intro cells hcells; obtain rfl := Value.agg.inj hcells; clear hcells)
  refine bodyPost_ret (results_cell_row rfl _ _ w.heap.size 161 _ (0, 0) _ rfl (hF.drew.row _) Try.underlying161 rfl (by kernel_rfl)) rfl ⟨?_, hX.drew.row (Nat.le_refl _) _⟩
  rw [HE.out, fields_eight, show half 2 = 32768 from rfl, show half 4 = 2147483648 from rfl]
  simp only [fv]

end Go.Proofs.Ytfcbedkidjclhaa
