/-
  The contract of the lender's Back: what was lent lies there still.
  Conditions: the bytes can be read; the room holds them, with the marks behind.
-/
import Derived.Test.YtfcbedkidjclhaaLend
import Derived.Test.YtfcbedkidjclhaaCopy
namespace Go.Proofs.Ytfcbedkidjclhaa
open Go.RowKit
set_option maxRecDepth 100000
set_option linter.unusedSimpArgs false
set_option linter.unusedVariables false

theorem take_get {l m : List UInt8} {k j : Nat} (h : l.take k = m) (hj : j < k) : l[j]? = m[j]? := by
  rw [← h, List.getElem?_take_of_lt hj]
theorem xor_u8K (a b : Int) : ∃ x : UInt8, bits .xor .u8 a b = ((x.toNat : Nat) : Int) := by
  refine ⟨Pk.byte (bits .xor .u8 a b), ?_⟩
  rw [Pk.byte_toNat]
  show IntKind.u8.wrap _ = IntKind.u8.wrap _ % 256
  rw [IntKind.wrap_u8]
  omega

def BackPost (g r m : Nat) (w : World) (e : Ending) (w' : World) : Prop :=
  e = .returned (.bool true) ∧ ∃ rs, rs.length = m ∧ LR w' g (some r) rs ∧ Kp (LS g (some r)) w w'

set_option maxHeartbeats 1000000 in
theorem Back_any (g r : Nat) (rs : List UInt8) (A : Option Addr) (n c : Nat) (bs : List UInt8) (w : World) (hL : LR w g (some r) rs) (hm : rs.take (2 * n + 70) = bs ++ mks (n + 70)) (h1 : 2 * n + 70 ≤ rs.length) (h2 : rs.length ≤ 1000000000)
    (hR : Rd w 1 A n (bv bs)) (hn : n ≤ 100000000) :
    Calls Try.prog 31 #[.pointer (some ⟨g, 0, none⟩), .slice A n c] w (BackPost g r rs.length w) := by
  have hl : bs.length = n := by have := hR.1; rw [bv_length] at this; omega
  have q0 := hL.1.c1
  have hsl := slice_lend r rs.length n (by omega) w
  have hR2 : Rd w 1 (some ⟨r, 0, none⟩) n (bv bs) := by
    have h3 := hL.rd.take (k := n) (by omega)
    rw [Nat.mul_one, bv_take] at h3
    have h4 : rs.take n = bs := by
      have h5 := congrArg (List.take n) hm
      rwa [List.take_take, Nat.min_eq_left (by omega), List.take_left' hl] at h5
    rwa [h4] at h3
  have hmk : ∀ k, k < n + 70 → rs[n + k]? = some (mk k) := fun k hk => by
    rw [take_get hm (by omega), List.getElem?_append_right (by omega), hl, Nat.add_sub_cancel_left]
    exact mks_get hk
  have HMK := hd hmk
  clear hmk hm
  go_enter Try.func31, Try.ntmps31
  go_upto_region 3 with (go_at_call 33; (with_reducible refine (SameBytes_any _ _ n n _ _ bs bs _ hR2 hR).mono ?_); rw [beq_self_eq_true]; rintro e v ⟨rfl, rfl⟩)
  clear hR hR2 hsl
  go_wp2
  go_loopw [6, 7] (fun ok i wr => ∃ (k : Nat), ok = .bool true ∧ i = .int .i64 k ∧ k ≤ n + 70 ∧ Ext w wr) (fun _ i _ => n + 70 - (intOf i).toNat)
  case atStart => exact ⟨0, rfl, rfl, by omega, Ext.refl _⟩
  case round =>
    obtain ⟨k, rfl, rfl, hk, hX⟩ := hrel
    obtain ⟨wq, hwq⟩ : ∃ wq, wq = wr := ⟨_, rfl⟩
    subst hwq
    have hLq := hL.ext hX
    have p0 := hLq.1.c1
    by_cases hlt : k < n + 70
    · have e1 : (k : Int) < (n : Int) + 70 := by omega
      have k0 := hLq.cell (HMK.out k hlt)
      have i0 : 0 ≤ (n : Int) + (k : Int) := by omega
      have i1 : (n : Int) + (k : Int) < (rs.length : Int) := by omega
      have i2 : ((n : Int) + (k : Int)).toNat = n + k := by omega
      go_upto_region 6 with (fail)
      go_quiet (first | (go_at_call 69; exact Calls.quiet_of_same ((behind_any k (by omega) _).mono (by rintro _ _ ⟨rfl, rfl⟩; exact ⟨rfl, rfl⟩))))
      go_wp2
      go_roundw
      case rel => exact ⟨k + 1, by simp, by go_num, by omega, hX.drewN _⟩
      case measure => simp [intOf]; omega
    · have e1 : ¬ (k : Int) < (n : Int) + 70 := by omega
      go_wp2
      go_loopw [8] (fun i wr => ∃ (k : Nat) (rs2 : List UInt8), i = .int .i64 k ∧ k ≤ n ∧ rs2.length = rs.length ∧ LR wr g (some r) rs2 ∧ Kp (LS g (some r)) w wr) (fun i _ => n - (intOf i).toNat)
      case atStart => exact ⟨0, rs, rfl, by omega, rfl, hLq, Kp.of_ext hX⟩
      case round =>
        obtain ⟨j, rs2, rfl, hj, hlen, hLR, hKp⟩ := hrel
        have q1 := hLR.1.c1
        rw [hlen] at q1
        by_cases hlt2 : j < n
        · have e2 : (j : Int) < (n : Int) := by omega
          obtain ⟨cz, hcz⟩ : ∃ x, rs2[j]? = some x := ⟨_, List.getElem?_eq_getElem (by omega)⟩
          have k0 := hLR.cell hcz
          have fz := hLR.2.free j
          have i1 : (j : Int) < (rs.length : Int) := by omega
          obtain ⟨y, hy⟩ := xor_u8K ((cz.toNat : Nat) : Int) 90
          go_upto_region 10 with (fail)
          refine wp_region_still_tail 14 (by kernel_rfl) (by kernel_rfl) ?_
          simp only [List.take_succ_cons, List.take_zero, List.drop_succ_cons, List.drop_zero]
          repeat still_step
          try refine wpStill_nil ?_
          change wpList _ _ _ _ _ wr.drew
          go_wp2
          go_roundw
          case rel => exact ⟨j + 1, rs2.set j y, by go_num, by omega, by rw [List.length_set]; exact hlen, hLR.put y, hKp.drew.set ⟨r, j, none⟩ (.inl (.inr rfl)) _⟩
          case measure => simp [intOf]; omega
        · have e2 : ¬ (j : Int) < (n : Int) := by omega
          go_wp2
          go_ret
          exact ⟨rfl, rs2, hlen, hLR, hKp⟩

end Go.Proofs.Ytfcbedkidjclhaa
