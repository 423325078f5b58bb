/-
  The contracts of warrantlaw02's same, sameBytes, sameInts, known.
  Conditions: the lists can be read.
-/
import Derived.Test.YtfcbedkidjclhaaCode16
import Derived.Test.YtfcbedkidjclhaaCode7
import Derived.Test.YtfcbedkidjclhaaCode8
import Derived.Test.YtfcbedkidjclhaaCodeK
namespace Go.Proofs.Ytfcbedkidjclhaa
open Go.RowKit
set_option maxRecDepth 100000
set_option linter.unusedSimpArgs false
set_option linter.unusedVariables false

theorem same_any (A B : Option Addr) (n m c d : Nat) (xs ys : List Cd.Ins) (w : World) (h : Rd w 8 A n (cv xs)) (h' : Rd w 8 B m (cv ys)) (hn : n * 56 ≤ 140737488355328) (hm : m * 56 ≤ 140737488355328) :
    Calls Try.prog 44 #[.slice A n c, .slice B m d] w fun e w' => ∃ r : Bool, (r = true ↔ xs = ys) ∧ e = .returned (.bool r) ∧ Ext w w' := by
  go_enter Try.func44, Try.ntmps44
  go_wp2_with (go_at_call 87; (with_reducible refine (SameCode_any A B n m c d xs ys _ h h' hn hm).mono ?_); rintro e v ⟨r, hr, rfl, hX⟩)
  go_ret
  exact ⟨r, hr, rfl, hX⟩
theorem sameBytes_any (A B : Option Addr) (n m c d : Nat) (xs ys : List UInt8) (w : World) (h : Rd w 1 A n (bv xs)) (h' : Rd w 1 B m (bv ys)) :
    Calls Try.prog 45 #[.slice A n c, .slice B m d] w fun e w' => e = .returned (.bool (xs == ys)) ∧ w = w' := by
  go_enter Try.func45, Try.ntmps45
  go_wp2_with (go_at_call 33; (with_reducible refine (SameBytes_any A B n m c d xs ys _ h h').mono ?_); rintro e v ⟨rfl, rfl⟩)
  go_ret
  exact ⟨rfl, rfl⟩
theorem sameInts_any (A B : Option Addr) (n m c d : Nat) (xs ys : List Int) (w : World) (h : Rd w 1 A n (iv xs)) (h' : Rd w 1 B m (iv ys)) (hn : n * 8 ≤ 140737488355328) (hm : m * 8 ≤ 140737488355328) :
    Calls Try.prog 55 #[.slice A n c, .slice B m d] w fun e w' => ∃ r : Bool, (r = true ↔ xs = ys) ∧ e = .returned (.bool r) ∧ Ext w w' := by
  go_enter Try.func55, Try.ntmps55
  go_wp2_with (go_at_call 101; (with_reducible refine (SameInts_any A B n m c d xs ys _ h h' hn hm).mono ?_); rintro e v ⟨r, hr, rfl, hX⟩)
  go_ret
  exact ⟨r, hr, rfl, hX⟩

theorem Rd.of_blk {w : World} {g n sz : Nat} {t : TypeId} {cs : Array Value} (h : Blk w g t cs) (hs : cs.size = n * sz) : Rd w sz (some ⟨g, 0, none⟩) n cs.toList := by
  refine ⟨by simpa using hs, fun _ => ⟨_, rfl, fun j u hu => ?_⟩⟩
  rw [show (⟨g, 0, none⟩ : Addr).add j = ⟨g, j, none⟩ by unfold Addr.add; split <;> simp_all, h.cell j]
  simpa using hu

theorem decode_length {bs : List UInt8} : (Cd.decode bs).1.length ≤ 4096 := by
  by_cases h : (Cd.decode bs).2.2 = 0
  · exact (Cd.decode_ok (l := (Cd.decode bs).1) (p := (Cd.decode bs).2.1) (by rw [← h])).2.2.2.2
  · rw [(Cd.decode_bad (l := (Cd.decode bs).1) (p := (Cd.decode bs).2.1) rfl h).1]
    simp

set_option maxHeartbeats 2000000 in
/-- the one small program is known -/
theorem known_any (w : World) : Calls Try.prog 40 #[] w fun e w' => e = .returned (.bool true) ∧ Ext w w' := by
  go_enter Try.func40, Try.ntmps40
  go_upto_region 2 with (fail)
  refine wp_world (fun W => Ext w W ∧ Rd W 8 (some ⟨w.heap.size, 0, none⟩) 3 (cv Cd.l0)) ⟨Ext.new _ _, Rd.of_blk (Blk.new _ _ _) rfl⟩ ?_
  rintro W ⟨hX, hL⟩
  go_upto_region 3 with (go_at_call 50; (with_reducible refine (CEncode_any _ 3 _ Cd.l0 _ hL (by omega)).mono ?_); rw [Cd.encode_l0]; rintro e w1 ⟨A1, c1, rfl, own1, hX1⟩)
  go_upto_region 4 with (fail)
  have X1 := hX.trans hX1
  refine wp_world (fun W => Ext w W ∧ Ext w1 W ∧ Rd W 1 (some ⟨w1.heap.size, 0, none⟩) 32 (bv Cd.want)) ⟨X1.trans (Ext.new _ _), Ext.new _ _, Rd.of_blk (Blk.new _ _ _) rfl⟩ ?_
  rintro W2 ⟨hX2, hX12, hB⟩
  have hL2 := hL.ext (hX1.trans hX12)
  have rE := Rd.of_own (hX12.own own1)
  go_upto_region 5 with (go_at_call 42; (with_reducible refine (CDecode_any _ 32 32 Cd.want _ hB (by omega) (by omega)).mono ?_); rw [Cd.decode_want]; rintro e w3 ⟨B3, n3, d3, rfl, rfl, own3, hX3⟩)
  have hB3 := (hB.ext hX3).take (k := 16) (by omega)
  rw [Nat.mul_one, bv_take] at hB3
  go_upto_region 6 with (go_at_call 42; (with_reducible refine (CDecode_any _ 16 32 (Cd.want.take 16) _ hB3 (by omega) (by omega)).mono ?_); rw [Cd.decode_want16]; rintro e w4 ⟨B4, n4, d4, rfl, rfl, own4, hX4⟩)
  have hX34 := hX3.trans hX4
  have hL4 := hL2.ext hX34
  have rE4 := rE.ext hX34
  have hB4 := hB.ext hX34
  have rD4 := (Rd.of_own own3).ext hX4
  have X4 := hX2.trans hX34
  clear hB3 own1 own3 own4 hX3 hX4 rE hB hL2 hL hX hX1 X1 hX2 hX12 hX34
  have hI : ∀ v : World, Rd (v.alloc (.cells #[.int .i64 0, .int .i64 1, .int .i64 3, .int .i64 4] 3)) 1 (some ⟨v.heap.size, 0, none⟩) 4 (iv [0, 1, 3, 4]) := fun v => Rd.of_blk (Blk.new v 3 _) rfl
  go_wp2_with (first | (go_at_call 45; (with_reducible refine (sameBytes_any _ _ _ _ _ _ Cd.want Cd.want _ rE4 hB4).mono ?_); rw [beq_self_eq_true]; rintro e v ⟨rfl, rfl⟩) | (go_at_call 44; (with_reducible refine (same_any _ _ 3 _ _ _ Cd.l0 Cd.l0 _ hL4 rD4 (by omega) (by simp [Cd.l0])).mono ?_); rintro e w5 ⟨r, hr, rfl, hX5⟩; obtain rfl : r = true := hr.mpr rfl) | (go_at_call 51; (with_reducible refine (Units_any _ 3 _ Cd.l0 _ (hL4.ext hX5) (by omega)).mono ?_); rw [Cd.units_l0]; rintro e w6 ⟨B6, d6, rfl, own6, hX6⟩) | (go_at_call 55; (with_reducible refine (sameInts_any _ _ 4 4 _ _ [0, 1, 3, 4] [0, 1, 3, 4] _ ((Rd.of_own own6).alloc _) (hI _) (by omega) (by omega)).mono ?_); rintro e w7 ⟨r, hr, rfl, hX7⟩; obtain rfl : r = true := hr.mpr rfl))
  go_ret
  exact ⟨rfl, ((X4.trans (hX5.trans hX6)).alloc _).trans hX7⟩

end Go.Proofs.Ytfcbedkidjclhaa
