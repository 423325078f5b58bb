/-
  The contracts of the statements' lent and whole: bytes in new memory, three marks behind them.
  Conditions: the bytes can be read, no more than may be handed in.
-/
import Derived.Test.YtfcbedkidjclhaaKeep
namespace Go.Proofs.Ytfcbedkidjclhaa
open Go.RowKit
set_option maxRecDepth 100000
set_option linter.unusedSimpArgs false
set_option linter.unusedVariables false

def marks3 : List UInt8 := [161, 162, 163]
/-- bytes that are lent: where, how many, the row's capacity -/
structure Lent (w : World) (base g n c : Nat) (bs : List UInt8) : Prop where
  own : w.ownsRow base 5 1 (.slice (some ⟨g, 0, none⟩) (n + 3) c) (n + 3) (bv (bs ++ marks3))
  len : bs.length = n

theorem Rd.three (w : World) (x y z : Value) (t : TypeId) : Rd (w.alloc (.cells #[x, y, z] t)) 1 (some ⟨w.heap.size, 0, none⟩) 3 [x, y, z] :=
  ⟨rfl, fun _ => ⟨_, rfl, fun j u hu => by
    have e : (⟨w.heap.size, 0, none⟩ : Addr).add j = ⟨w.heap.size, j, none⟩ := by unfold Addr.add; split <;> simp_all
    rw [e, (Blk.new w t #[x, y, z]).cell j]
    simpa using hu⟩⟩
theorem own_some {w : World} {base n : Nat} {e : TypeId} {sz : Nat} {v : Value} {xs : List Value} (h : w.ownsRow base e sz v n xs) (hn : 0 < n) : ∃ g c, v = .slice (some ⟨g, 0, none⟩) n c ∧ n ≤ c ∧ base ≤ g := by
  rcases h.2 with ⟨h1, h0⟩ | ⟨g, cap, cur, hv, h2, h3, h4, _⟩
  · omega
  · exact ⟨g, cap, hv, h4, h2⟩
theorem slice_to (g n m c : Nat) (hm : m ≤ c) (v : World) :
    Sem.run Try.prog (Instr.slice 22 (.slice (some ⟨g, 0, none⟩) n c) none (some (.int .i64 (m : Int))) none) v = .ok (.slice (some ⟨g, 0, none⟩) m c) v := by
  have h1 : (m : Int) ≤ (c : Int) := by omega
  simp [go_sem, Try.underlying22, h1]

theorem lent_any (A : Option Addr) (n c : Nat) (bs : List UInt8) (w : World) (hR : Rd w 1 A n (bv bs)) (hn : n ≤ 140737488355328) :
    Calls Try.prog 41 #[.slice A n c] w fun e w' => ∃ g d, e = .returned (.slice (some ⟨g, 0, none⟩) n d) ∧ Lent w' w.heap.size g n d bs ∧ Ext w w' := by
  have hl : bs.length = n := by have := hR.1; rw [bv_length] at this; omega
  obtain ⟨i0, hi0, hz0, hz1, hz2⟩ := info_parts info5
  go_enter Try.func41, Try.ntmps41
  go_upto_region 2 with (refine wl_appendK (.tmp 4) (.tmp 5) 22 w.heap.size 5 i0 _ 1 1 Try.underlying22 hi0 hz0 hz1 hz2 rfl (by omega) _ 0 [] rfl (own_emptyK w 5 1) A n c (bv bs) rfl (hR.alloc _) (bv_one _) (by omega) (by omega) (by simp) ?_; intro v1 w1 own1 hg1)
  have hE1 : Ext w w1 := (Ext.new w _).grown_own (own_emptyK w 5 1) hg1 (Nat.le_refl _)
  rw [Nat.zero_add, List.nil_append] at own1
  clear hg1
  go_upto_region 3 with (refine wl_appendK (.tmp 7) (.tmp 8) 22 w.heap.size 5 i0 _ 1 1 Try.underlying22 hi0 hz0 hz1 hz2 rfl (by omega) v1 n _ rfl ((Ext.new w1 _).own own1) _ 3 3 [.int .u8 161, .int .u8 162, .int .u8 163] rfl (Rd.three w1 _ _ _ 5) (by simp [Value.oneCell']) (by omega) (by omega) (by have := hE1.size; simp; omega) ?_; intro v2 w2 own2 hg2)
  have hE2 : Ext w w2 := (hE1.alloc _).grown_own ((Ext.new w1 _).own own1) hg2 (Nat.le_refl _)
  have hbv : bv bs ++ [Value.int .u8 161, .int .u8 162, .int .u8 163] = bv (bs ++ marks3) := by simp [bv, marks3]
  rw [hbv] at own2
  obtain ⟨g, d, rfl, hd1, -⟩ := own_some own2 (by omega)
  clear hg2
  have hsl := slice_to g (n + 3) n d (by omega) w2
  go_wp2
  go_ret
  exact ⟨g, d, rfl, ⟨own2, hl⟩, hE2⟩

theorem whole_any (base g n c : Nat) (bs : List UInt8) (w : World) (h : Lent w base g n c bs) (hn : n ≤ 140737488355328) :
    Calls Try.prog 46 #[.slice (some ⟨g, 0, none⟩) n c] w fun e w' => e = .returned (.bool true) ∧ w = w' := by
  have hl := h.len
  have hc := (Rd.of_own h.own).cells
  have hcap : n + 3 ≤ c := by
    obtain ⟨g', c', e, h1, _⟩ := own_some h.own (by omega)
    injection e with _ _ e
    omega
  have k0 := hc n (.int .u8 161) (by simp [bv, marks3, hl])
  have k1 := hc (n + 1) (.int .u8 162) (by simp [bv, marks3, hl])
  have k2 := hc (n + 2) (.int .u8 163) (by simp [bv, marks3, hl])
  have ea : ∀ j, (⟨g, 0, none⟩ : Addr).add j = ⟨g, j, none⟩ := fun j => by unfold Addr.add; split <;> simp_all
  rw [ea] at k0 k1 k2
  clear hc h ea
  have hsl := slice_to g n (n + 3) c hcap w
  go_enter Try.func46, Try.ntmps46
  go_wp2
  go_ret
  exact ⟨rfl, rfl⟩

end Go.Proofs.Ytfcbedkidjclhaa
