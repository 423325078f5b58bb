/-
  The contracts of the document's signed and read.
  Condition: the bytes can be read; where a row has a second unit, there are two.
-/
import Derived.Test.YtfcbedkidjclhaaRef1
import Derived.Test.YtfcbedkidjclhaaRefN
namespace Go.Proofs.Ytfcbedkidjclhaa
open Go.RowKit
set_option maxRecDepth 100000
set_option linter.unusedSimpArgs false
set_option linter.unusedVariables false

theorem val_take {l : List UInt8} : ∀ {k : Nat}, k < l.length → Pk.val (l.take (k + 1)) = Pk.val (l.take k) + 256 ^ k * (l.getD k 0).toNat := by
  induction l with
  | nil => intro k h; simp at h
  | cons a l ih =>
    intro k h
    cases k with
    | zero => simp [Pk.val]
    | succ k =>
      have := ih (k := k) (by simpa using h)
      simp only [List.take_succ_cons, Pk.val, List.getD_cons_succ] at this ⊢
      rw [this, Nat.pow_succ]
      grind

set_option maxHeartbeats 2000000 in
theorem signed_any (A : Option Addr) (n c : Nat) (bs : List UInt8) (H : Int) (w : World) (h : Rd w 1 A n (bv bs)) (hH : (n = 2 ∧ H = 32768) ∨ (n = 4 ∧ H = 2147483648)) :
    Calls Try.prog 129 #[.slice A n c] w fun e w' => e = .returned (.int .i64 (Cd.sgn H (Pk.val bs))) ∧ Ext w w' := by
  have hl : bs.length = n := by have := h.1; rw [bv_length] at this; omega
  have HL := hd hl
  obtain ⟨V, hV⟩ : ∃ V, Pk.val bs = V := ⟨_, rfl⟩
  have HV := hd hV
  have hVl := Pk.val_lt bs
  rw [hV, hl] at hVl
  rw [hV]
  clear hV
  obtain ⟨R, hR⟩ : ∃ R, Cd.sgn H (V : Int).toNat = R := ⟨_, rfl⟩
  rw [Int.toNat_natCast] at hR
  rw [hR]
  have HR := hd hR
  clear hR
  have hn4 : n ≤ 4 := by omega
  go_enter Try.func129, Try.ntmps129
  go_wp2
  go_loopw [3, 4, 5] (fun s u i wr => ∃ (k S : Nat) (U : Int), k ≤ n ∧ s = .int .i64 (S : Int) ∧ u = .int .i64 U ∧ i = .int .i64 k ∧ ((k = 0 ∧ U = 1) ∨ (k = 1 ∧ U = 256) ∨ (k = 2 ∧ U = 65536) ∨ (k = 3 ∧ U = 16777216) ∨ (k = 4 ∧ U = 4294967296)) ∧ Ext w wr ∧ Hid (Pk.val (bs.take k) = S)) (fun _ _ i _ => n - (intOf i).toNat)
  case atStart => exact ⟨0, 0, 1, by omega, rfl, rfl, rfl, .inl ⟨rfl, rfl⟩, Ext.refl _, hd rfl⟩
  case round =>
    obtain ⟨k, S, U, hk, rfl, rfl, rfl, hU, hX, HS⟩ := hrel
    have hS := Pk.val_lt (bs.take k)
    rw [HS.out, List.length_take, Nat.min_eq_left (by omega)] at hS
    by_cases hlt : k < n
    · obtain ⟨b, o, rfl, hc⟩ := (h.ext hX).form (by omega) (by omega)
      have hkl : k < bs.length := by have := HL.out; omega
      have hcell := hc k (.int .u8 (bs[k].toNat : Int)) (by simp [bv, hkl])
      have hvt := val_take hkl
      rw [HS.out, show bs.getD k 0 = bs[k] by simp [List.getD_eq_getElem?_getD, hkl]] at hvt
      obtain ⟨x, hx⟩ : ∃ x, bs[k].toNat = x := ⟨_, rfl⟩
      have hx8 : x < 256 := by have := bs[k].toNat_lt; omega
      rw [hx] at hcell hvt
      have HVT := hd hvt
      clear hc hx hvt
      obtain ⟨X, hX2⟩ : ∃ X : Int, (x : Int) = X := ⟨_, rfl⟩
      obtain ⟨Y, hY2⟩ : ∃ Y : Int, (S : Int) = Y := ⟨_, rfl⟩
      have hx0 : 0 ≤ X := by omega
      have hx1 : X < 256 := by omega
      have hy0 : 0 ≤ Y := by omega
      rw [hX2] at hcell
      rw [hY2]
      rcases hU with ⟨rfl, rfl⟩ | ⟨rfl, rfl⟩ | ⟨rfl, rfl⟩ | ⟨rfl, rfl⟩ | ⟨rfl, rfl⟩
      · have hy1 : Y < 1 := by omega
        rw [Nat.add_zero] at hcell
        go_wp2
        go_roundw
        case rel => exact ⟨1, S + 256 ^ 0 * x, 256, by omega, congrArg _ (by omega), rfl, by go_num, .inr (.inl ⟨rfl, rfl⟩), hX, HVT⟩
        case measure => simp [intOf]; omega
      · have hy1 : Y < 256 := by omega
        go_wp2
        go_roundw
        case rel => exact ⟨2, S + 256 ^ 1 * x, 65536, by omega, congrArg _ (by omega), rfl, by go_num, .inr (.inr (.inl ⟨rfl, rfl⟩)), hX, HVT⟩
        case measure => simp [intOf]; omega
      · have hy1 : Y < 65536 := by omega
        go_wp2
        go_roundw
        case rel => exact ⟨3, S + 256 ^ 2 * x, 16777216, by omega, congrArg _ (by omega), rfl, by go_num, .inr (.inr (.inr (.inl ⟨rfl, rfl⟩))), hX, HVT⟩
        case measure => simp [intOf]; omega
      · have hy1 : Y < 16777216 := by omega
        go_wp2
        go_roundw
        case rel => exact ⟨4, S + 256 ^ 3 * x, 4294967296, by omega, congrArg _ (by omega), rfl, by go_num, .inr (.inr (.inr (.inr ⟨rfl, rfl⟩))), hX, HVT⟩
        case measure => simp [intOf]; omega
      · omega
    · obtain rfl : k = n := by omega
      rw [List.take_of_length_le (by rw [HL.out]; omega), HV.out] at HS
      obtain rfl : V = S := HS.out
      obtain ⟨Y, hY2⟩ : ∃ Y : Int, (V : Int) = Y := ⟨_, rfl⟩
      have hy0 : 0 ≤ Y := by omega
      have hR := HR.out
      unfold Cd.sgn at hR
      rw [hY2] at hR
      clear HR
      rcases hH with ⟨rfl, rfl⟩ | ⟨rfl, rfl⟩
      · obtain rfl : U = 65536 := by omega
        have hy1 : Y < 65536 := by omega
        by_cases hlow : Y < 32768
        · rw [if_pos hlow] at hR
          have HR := hd hR
          clear hR
          go_wp2
          go_ret
          exact ⟨congrArg (fun z => Ending.returned (.int .i64 z)) HR.out, hX⟩
        · rw [if_neg hlow] at hR
          have HR := hd hR
          clear hR
          go_wp2
          go_ret
          exact ⟨congrArg (fun z => Ending.returned (.int .i64 z)) (by have := HR.out; omega), hX⟩
      · obtain rfl : U = 4294967296 := by omega
        have hy1 : Y < 4294967296 := by omega
        by_cases hlow : Y < 2147483648
        · rw [if_pos hlow] at hR
          have HR := hd hR
          clear hR
          go_wp2
          go_ret
          exact ⟨congrArg (fun z => Ending.returned (.int .i64 z)) HR.out, hX⟩
        · rw [if_neg hlow] at hR
          have HR := hd hR
          clear hR
          go_wp2
          go_ret
          exact ⟨congrArg (fun z => Ending.returned (.int .i64 z)) (by have := HR.out; omega), hX⟩

end Go.Proofs.Ytfcbedkidjclhaa
