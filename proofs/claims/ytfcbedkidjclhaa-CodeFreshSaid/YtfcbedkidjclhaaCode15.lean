/-
  The contracts of the function that package code's Decode defers: nothing to recover; a reader that gave up.
  Conditions: the results' boxes lie there.
-/
import Derived.Test.YtfcbedkidjclhaaCode13
import Derived.Recover
namespace Go.Proofs.Ytfcbedkidjclhaa
open Go.RowKit
set_option maxRecDepth 100000
set_option linter.unusedSimpArgs false
set_option linter.unusedVariables false

theorem catch_idle (a b c : Addr) (w : World) : CallsD Try.prog 83 #[.pointer (some a), .pointer (some b), .pointer (some c)] .returning w fun e u' w' => e = .returned (.tuple #[]) ∧ u' = .returning ∧ w' = w := by
  refine callsD_of_wpS Try.func83 rfl fun c₀ cs hu => ?_
  apply wpS_seq
  apply wpS_region
  simp [wpOpsS, go_sem, recoverD, hu, Try.ntmps83, Exit.thenS]
  refine wpS_of_wp ?_
  go_wp2
  cases c₀
  simp_all [bodyPostS, results, Try.results83]

theorem run_assert128 (v : Value) (W : World) : (Instr.typeAssert (.iface 128 v) 20 128 true).run Try.prog W = .ok (.tuple #[v, .bool true]) W := by
  unfold Instr.typeAssert
  simp [go_sem, Try.underlying128]

set_option maxHeartbeats 1000000 in
/-- what the deferred function does when a reader gave up -/
theorem catch_stop (l q r : Nat) (sl : Value) (pv ev : Int) (p : Nat) (er : Int) (w : World) (hL : Blk w l 57 #[sl]) (hQ : Blk w q 3 #[.int .i64 pv]) (hE : Blk w r 36 #[.int .i64 ev]) (h1 : l < q) (h2 : q < r) (base : Nat) (hb : base ≤ l) :
    CallsD Try.prog 83 #[.pointer (some ⟨l, 0, none⟩), .pointer (some ⟨q, 0, none⟩), .pointer (some ⟨r, 0, none⟩)] (.panicking [{ v := .iface 128 (.agg #[.int .i64 p, .int .i64 er]), recovered := false }]) w fun e u' w' =>
      e = .returned (.tuple #[]) ∧ u' = .panicking [{ v := .iface 128 (.agg #[.int .i64 p, .int .i64 er]), recovered := true }] ∧ (∀ w0, w0.heap.size ≤ base → Ext w0 w → Ext w0 w') ∧ Blk w' l 57 #[.slice none 0 0] ∧ Blk w' q 3 #[.int .i64 p] ∧ Blk w' r 36 #[.int .i64 er] := by
  refine callsD_of_wpS Try.func83 rfl fun c₀ cs hu => ?_
  apply wpS_seq
  apply wpS_region
  simp [wpOpsS, go_sem, recoverD, hu, Try.ntmps83, Exit.thenS]
  refine wpS_of_wp ?_
  have hact : ∀ x y z v : Value, (#[x, y, z] ++ (Array.replicate 13 undef).setIfInBounds 3 v : Array Value) = #[x, y, z, undef, undef, undef, v, undef, undef, undef, undef, undef, undef, undef, undef, undef] := fun _ _ _ _ => rfl
  rw [hact]
  have hta := fun v => run_assert128 v w
  go_upto_region 7 with (fail)
  refine wp_world (fun W => Ext w W ∧ Blk W l 57 #[sl] ∧ Blk W q 3 #[.int .i64 pv] ∧ Blk W r 36 #[.int .i64 ev] ∧ Blk W w.heap.size 128 #[.int .i64 p, .int .i64 er]) ⟨Ext.new _ _, hL.alloc _, hQ.alloc _, hE.alloc _, Blk.new _ _ _⟩ ?_
  have hlr := hE.lt
  clear hL hQ hE hta hact
  rintro W ⟨hX, hL, hQ, hE, hS⟩
  have c1 := hL.c1
  have c2 := hQ.c1
  have c3 := hE.c1
  have f1 := hL.free 0
  have f2 := hQ.free 0
  have f3 := hE.free 0
  obtain ⟨s0, s1⟩ := hS.c2
  go_region
  go_wp2
  have hq : l ≠ q := by omega
  have hr : l ≠ r := by omega
  have hqr : q ≠ r := by omega
  have A1 : ∀ w0 : World, w0.heap.size ≤ base → Ext w0 w → Ext w0 (((W.setCell ⟨l, 0, none⟩ (.slice none 0 0)).setCell ⟨q, 0, none⟩ (.int .i64 p)).setCell ⟨r, 0, none⟩ (.int .i64 er)).drew := fun w0 h0 h =>
    ((((h.trans hX).set (p := ⟨l, 0, none⟩) (by simp only; omega) _).set (p := ⟨q, 0, none⟩) (by simp only; omega) _).set (p := ⟨r, 0, none⟩) (by simp only; omega) _).drew
  have A2 : Blk (((W.setCell ⟨l, 0, none⟩ (.slice none 0 0)).setCell ⟨q, 0, none⟩ (.int .i64 p)).setCell ⟨r, 0, none⟩ (.int .i64 er)).drew l 57 #[.slice none 0 0] :=
    (((hL.set_ 0 _).far (p := ⟨q, 0, none⟩) hq _).far (p := ⟨r, 0, none⟩) hr _).drew
  have A3 : Blk (((W.setCell ⟨l, 0, none⟩ (.slice none 0 0)).setCell ⟨q, 0, none⟩ (.int .i64 p)).setCell ⟨r, 0, none⟩ (.int .i64 er)).drew q 3 #[.int .i64 p] :=
    (((hQ.far (p := ⟨l, 0, none⟩) (Ne.symm hq) _).set_ 0 _).far (p := ⟨r, 0, none⟩) hqr _).drew
  have A4 : Blk (((W.setCell ⟨l, 0, none⟩ (.slice none 0 0)).setCell ⟨q, 0, none⟩ (.int .i64 p)).setCell ⟨r, 0, none⟩ (.int .i64 er)).drew r 36 #[.int .i64 er] :=
    (((hE.far (p := ⟨l, 0, none⟩) (Ne.symm hr) _).far (p := ⟨q, 0, none⟩) (Ne.symm hqr) _).set_ 0 _).drew
  generalize (((W.setCell ⟨l, 0, none⟩ (.slice none 0 0)).setCell ⟨q, 0, none⟩ (.int .i64 p)).setCell ⟨r, 0, none⟩ (.int .i64 er)).drew = WW at A1 A2 A3 A4 ⊢
  exact ⟨rfl, _, rfl, _, results_none rfl _ _ _, rfl, rfl, A1, A2, A3, A4⟩

end Go.Proofs.Ytfcbedkidjclhaa
