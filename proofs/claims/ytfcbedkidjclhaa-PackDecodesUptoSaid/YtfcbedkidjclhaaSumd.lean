/-
  The contract of the statement's summed: as many bytes, in new memory.
  Conditions: the bytes can be read, no more than may be handed in.
-/
import Derived.Test.YtfcbedkidjclhaaRd1
import Derived.Test.YtfcbedkidjclhaaLent
import Derived.Test.YtfcbedkidjclhaaCopy
namespace Go.Proofs.Ytfcbedkidjclhaa
open Go.RowKit
set_option maxRecDepth 100000
set_option linter.unusedSimpArgs false
set_option linter.unusedVariables false

theorem set_u8 (l : List UInt8) (j : Nat) (V : Int) (h0 : 0 ≤ V) (h1 : V < 256) : ∃ l' : List UInt8, (bv l).set j (.int .u8 V) = bv l' :=
  ⟨l.set j (Pk.byte V), by rw [← bv_set, Pk.byte_toNat, Int.emod_eq_of_lt h0 h1]⟩

theorem own_u8 {w : World} {base n c g : Nat} {cs : List UInt8} (h : w.ownsRow base 5 1 (.slice (some ⟨g, 0, none⟩) n c) n (bv cs)) {j : Nat} (hj : j < n) {V : Int} (h0 : 0 ≤ V) (h1 : V < 256) :
    ∃ cs' : List UInt8, (w.setCell ⟨g, j, none⟩ (.int .u8 V)).ownsRow base 5 1 (.slice (some ⟨g, 0, none⟩) n c) n (bv cs') := by
  obtain ⟨l', hl⟩ := set_u8 cs j V h0 h1
  exact ⟨l', by rw [← hl]; exact own_put h hj _⟩
def SumdPost (n : Nat) (w : World) (e : Ending) (w' : World) : Prop := ∃ B d cs, e = .returned (.slice B n d) ∧ w'.ownsRow w.heap.size 5 1 (.slice B n d) n (bv cs) ∧ Ext w w'

set_option maxHeartbeats 1000000 in
theorem summed_any (A : Option Addr) (n c : Nat) (bs : List UInt8) (w : World) (hR : Rd w 1 A n (bv bs)) (hn : n ≤ 140737488355328) :
    Calls Try.prog 38 #[.slice A n c] w (SumdPost n w) := by
  go_enter Try.func38, Try.ntmps38
  go_upto_region 2 with (go_at_call 36; (with_reducible refine (CopyBytes_any A n c bs _ hR hn).mono ?_); rintro e w1 ⟨B, d, rfl, own1, hX1⟩)
  by_cases h4 : n < 4
  · have e1 : (n : Int) < 4 := by omega
    go_wp2
    go_ret
    exact ⟨B, d, bs, rfl, own1, hX1⟩
  by_cases h5 : 3000 < n
  · have e1 : ¬ (n : Int) < 4 := by omega
    have e2 : (3000 : Int) < (n : Int) := by omega
    go_wp2
    go_ret
    exact ⟨B, d, bs, rfl, own1, hX1⟩
  have e1 : ¬ (n : Int) < 4 := by omega
  have e2 : ¬ (3000 : Int) < (n : Int) := by omega
  obtain ⟨g, d', hv, hd1, hg⟩ := own_some own1 (by omega)
  injection hv with hv1 hv2 hv3
  subst hv1
  subst hv3
  clear hv2
  obtain ⟨N, hN⟩ : ∃ N, n - 4 = N := ⟨_, rfl⟩
  have hNn : N + 4 = n := by omega
  have hw5 : IntKind.i64.wrap ((n : Int) - 4) = (N : Int) := by rw [IntKind.wrap_i64]; omega
  have i0 : (n : Int) - 4 = (N : Int) := by omega
  have hsl := fun v => slice_to g n N d (by omega) v
  have hrd : Rd w1 1 (some ⟨g, 0, none⟩) N (bv (bs.take N)) := by
    have := (Rd.of_own own1).take (k := N) (by omega)
    rwa [Nat.mul_one, bv_take] at this
  go_upto_region 5 with (go_at_call 76; (with_reducible refine (RSum_any _ N d _ _ hrd (by omega)).mono ?_); rintro e w2 ⟨rfl, hX2⟩)
  have own2 := hX2.own own1
  have X2 := hX1.trans hX2
  clear hrd own1 hX1 hX2 hsl hN
  generalize Pk.sum (bs.take N) = s
  go_wp2
  go_loopw [5] (fun i wr => ∃ (k : Nat) (cs : List UInt8), i = .int .i64 (k : Int) ∧ k ≤ 4 ∧ wr.ownsRow w.heap.size 5 1 (.slice (some ⟨g, 0, none⟩) n d) n (bv cs) ∧ Ext w wr) (fun i _ => 4 - (intOf i).toNat)
  case atStart => exact ⟨0, bs, rfl, by omega, own2, X2⟩
  case round =>
    obtain ⟨k, cs, rfl, hk, hown, hX⟩ := hrel
    have hcell := (Rd.of_own hown).cells
    have hlen : (bv cs).length = n := by have := hown.1; omega
    have hfr : ∀ j, wr.frozen? ⟨g, j, none⟩ = false := fun j => by
      rcases hown.2 with ⟨h1, h0⟩ | ⟨g', cap, cur, hv, _, hh, _⟩
      · omega
      · injection hv with hv
        injection hv with hv
        injection hv with hv
        subst hv
        exact Blk.free (t := 5) hh j
    have hcl : ∀ j, j < n → ∃ u, wr.cell? ⟨g, j, none⟩ = some u := fun j hj => by
      refine ⟨(bv cs)[j], ?_⟩
      have := hcell j _ (List.getElem?_eq_getElem (by omega))
      rwa [show (⟨g, 0, none⟩ : Addr).add j = ⟨g, j, none⟩ by unfold Addr.add; split <;> simp_all] at this
    clear hcell
    by_cases hk4 : k < 4
    · have e3 : (k : Int) < 4 := by omega
      obtain ⟨u, hu⟩ := hcl (N + k) (by omega)
      have fz := hfr (N + k)
      have j0 : 0 ≤ (N : Int) + (k : Int) := by omega
      have j1 : (N : Int) + (k : Int) < (n : Int) := by omega
      have j2 : ((N : Int) + (k : Int)).toNat = N + k := by omega
      have j3 : IntKind.i64.wrap ((N : Int) + (k : Int)) = (N : Int) + (k : Int) := by rw [IntKind.wrap_i64]; omega
      have hp : N + k < n := by omega
      clear hcl hfr
      obtain rfl | rfl | rfl | rfl : k = 0 ∨ k = 1 ∨ k = 2 ∨ k = 3 := by omega
      all_goals push_cast at j0 j1 j2 j3
      all_goals try simp only [Nat.add_zero, Int.add_zero] at hu fz j0 j1 j2 j3 hp
      all_goals (
        go_wp2
        go_roundw
        case rel => first | (exact Exists.elim (own_u8 hown hp (by omega) (by omega)) fun cs' ho => ⟨1, cs', rfl, by omega, ho, hX.set (p := ⟨g, _, none⟩) hg _⟩) | (exact Exists.elim (own_u8 hown hp (by omega) (by omega)) fun cs' ho => ⟨2, cs', rfl, by omega, ho, hX.set (p := ⟨g, _, none⟩) hg _⟩) | (exact Exists.elim (own_u8 hown hp (by omega) (by omega)) fun cs' ho => ⟨3, cs', rfl, by omega, ho, hX.set (p := ⟨g, _, none⟩) hg _⟩) | (exact Exists.elim (own_u8 hown hp (by omega) (by omega)) fun cs' ho => ⟨4, cs', rfl, by omega, ho, hX.set (p := ⟨g, _, none⟩) hg _⟩)
        case measure => simp [intOf])
    · obtain rfl : k = 4 := by omega
      clear hcl hfr
      go_wp2
      go_ret
      exact ⟨_, d, cs, rfl, hown, hX⟩

end Go.Proofs.Ytfcbedkidjclhaa
