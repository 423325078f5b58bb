/-
  The contracts of the document's Sizes, beyond, Units.
  Conditions: the lists can be read, no more than may be handed in.
-/
import Derived.Test.YtfcbedkidjclhaaDoorPack2
import Derived.Test.YtfcbedkidjclhaaDoorKeep
import Derived.Test.YtfcbedkidjclhaaDoorProgM
import Derived.Test.YtfcbedkidjclhaaDoorCode6
namespace Go.Proofs.YtfcbedkidjclhaaDoor
open Go.RowKit
set_option maxRecDepth 100000
set_option linter.unusedSimpArgs false
set_option linter.unusedVariables false

theorem any_next {α : Type} {p : α → Bool} {l : List α} {k : Nat} (h : k < l.length) (h0 : (l.take k).any p = false) (h1 : p l[k] = false) : (l.take (k + 1)).any p = false := by
  rw [List.take_succ_eq_append_getElem h, List.any_append, h0]
  simp [h1]
theorem any_here {α : Type} {p : α → Bool} {l : List α} {k : Nat} (h : k < l.length) (h1 : p l[k] = true) : l.any p = true := by
  rw [List.any_eq_true]
  exact ⟨l[k], List.getElem_mem h, h1⟩

set_option maxHeartbeats 1000000 in
theorem RUnits_any (A : Option Addr) (n c : Nat) (l : List Cd.Ins) (w : World) (h : Rd w 8 A n (cv l)) (hn : n * 56 ≤ 140737488355328) :
    Calls Tryd.prog 16 #[.slice A n c] w fun e w' => ∃ B d, e = .returned (.slice B (n + 1) d) ∧ w'.ownsRow w.heap.size 3 1 (.slice B (n + 1) d) (n + 1) (nv (Cd.units l)) ∧ Ext w w' := by
  have hl : l.length = n := by have := h.1; rw [cv_length] at this; omega
  have HL := hd hl
  clear hl
  obtain ⟨i0, hi0, hz0, hz1, hz2⟩ := info_parts info3
  go_enter Tryd.func16, Tryd.ntmps16
  go_wp2
  refine wp_world (fun W => Ext w W ∧ W.ownsRow w.heap.size 3 1 (.slice (some ⟨w.heap.size, 0, none⟩) 1 1) 1 (nv [0])) ⟨Ext.new _ _, ?_⟩ ?_
  · exact ⟨by simp [nv, iv], .inr ⟨w.heap.size, 1, #[.int .i64 0], rfl, Nat.le_refl _, Blk.new _ _ _, Nat.le_refl _, by decide, rfl, rfl⟩⟩
  rintro W ⟨hXW, hown0⟩
  go_loopw [3, 4, 5] (fun nn out i wr => ∃ (k m : Nat) (B : Option Addr) (d : Nat) (don : List Nat), k ≤ n ∧ m ≤ 2 * k ∧ i = .int .i64 k ∧ nn = .int .i64 m ∧ out = .slice B (k + 1) d ∧ wr.ownsRow w.heap.size 3 1 (.slice B (k + 1) d) (k + 1) (nv don) ∧ Ext w wr ∧ Hid (Cd.units l = don ++ (Cd.unitsFrom m (l.drop k)).tail)) (fun _ _ i _ => n - (intOf i).toNat)
  case atStart => exact ⟨0, 0, _, 1, [0], by omega, by omega, rfl, rfl, rfl, hown0, hXW, hd (by rw [List.drop_zero]; exact unitsFrom_head l 0)⟩
  case round =>
    obtain ⟨k, m, B, d, don, hk, hm, rfl, rfl, rfl, hown, hX, HE⟩ := hrel
    have hszr := hX.size
    by_cases hlt : k < n
    · obtain ⟨b, o, rfl, hc⟩ := (h.ext hX).form (by omega) (by omega)
      have hkl : k < l.length := by have := HL.out; omega
      obtain ⟨q0, q1, q2, q3, q4, q5, q6, q7⟩ := ins_cells hc hkl
      clear hc
      have HD := hd (show l.drop k = l[k] :: l.drop (k + 1) from List.drop_eq_getElem_cons hkl)
      obtain ⟨x, hx⟩ : ∃ x, l[k] = x := ⟨_, rfl⟩
      rw [hx] at q0 q1 q2 q3 q4 q5 q6 q7 HD
      clear hx
      obtain ⟨op, nr, rg, sz, ds, sr, of, im⟩ := x
      simp only at q0 q1 q2 q3 q4 q5 q6 q7
      have HE2 := hd (units_step (by rw [HE.out, HD.out] : Cd.units l = don ++ (Cd.unitsFrom m (⟨op, nr, rg, sz, ds, sr, of, im⟩ :: l.drop (k + 1))).tail))
      obtain ⟨a1, ha1⟩ : ∃ t, (op == 20) = t := ⟨_, rfl⟩
      obtain ⟨a2, ha2⟩ : ∃ t, (op == 21) = t := ⟨_, rfl⟩
      have hwd : Cd.wide op = (a1 || a2) := by rw [← ha1, ← ha2]; rfl
      have HWD := hd hwd
      clear hwd
      go_upto_region 7 with (fail)
      go_cut [28] from 15 to 28 (fun v W2 => v = .bool (a1 || a2) ∧ W2 = wr)
      case first =>
        cases a1 <;> cases a2
        all_goals go_wp2
        all_goals go_meet
        all_goals case rel => exact ⟨rfl, rfl⟩
      case rest =>
      obtain ⟨rfl, hwc⟩ := hcut
      rw [hwc]
      clear hwc ha1 ha2 q0 q1 q2 q3 q4 q5 q6 q7
      obtain ⟨a12, ha12⟩ : ∃ t, (a1 || a2) = t := ⟨_, rfl⟩
      rw [ha12] at HWD ⊢
      clear ha12
      cases a12 with
      | false =>
        have HW := hd (show Cd.width ⟨op, nr, rg, sz, ds, sr, of, im⟩ = 1 by simp [Cd.width, HWD.out])
        go_wp2_with (first | (at_builtin; refine wpList_app _ rfl _ _ 40 rfl w.heap.size 3 i0 _ 1 8 Tryd.underlying40 hi0 hz0 hz1 hz2 rfl (by omega) (.slice B (k + 1) d) (k + 1) (nv don) rfl (hown.alloc _) (some ⟨wr.heap.size, 0, none⟩) 1 1 [.int .i64 ((m : Int) + 1)] rfl (Rd.one _ _ _) (oneCell_int _) (by omega) (by omega) (by simp; omega) ?_; intro v1 w2 hown1 hg1 hat1; have hX1 := (hX.alloc _).grown_own (hown.alloc _) hg1 (Nat.le_refl _); obtain ⟨A3, c3, rfl, _⟩ := own_form hown1))
        go_roundw
        case rel => exact ⟨k + 1, m + 1, A3, c3, don ++ [m + 1], by omega, by omega, by go_num, by go_num, rfl, by rw [← nv_snoc]; exact hown1, hX1, hd (by have := HE2.out; rw [HW.out] at this; exact this)⟩
        case measure => simp [intOf]; omega
      | true =>
        have HW := hd (show Cd.width ⟨op, nr, rg, sz, ds, sr, of, im⟩ = 2 by simp [Cd.width, HWD.out])
        go_wp2_with (first | (at_builtin; refine wpList_app _ rfl _ _ 40 rfl w.heap.size 3 i0 _ 1 8 Tryd.underlying40 hi0 hz0 hz1 hz2 rfl (by omega) (.slice B (k + 1) d) (k + 1) (nv don) rfl (hown.alloc _) (some ⟨wr.heap.size, 0, none⟩) 1 1 [.int .i64 ((m : Int) + 1 + 1)] rfl (Rd.one _ _ _) (oneCell_int _) (by omega) (by omega) (by simp; omega) ?_; intro v1 w2 hown1 hg1 hat1; have hX1 := (hX.alloc _).grown_own (hown.alloc _) hg1 (Nat.le_refl _); obtain ⟨A3, c3, rfl, _⟩ := own_form hown1))
        go_roundw
        case rel => exact ⟨k + 1, m + 2, A3, c3, don ++ [m + 2], by omega, by omega, by go_num, by go_num, rfl, by rw [← nv_snoc]; exact hown1, hX1, hd (by have := HE2.out; rw [HW.out] at this; exact this)⟩
        case measure => simp [intOf]; omega
    · obtain rfl : k = n := by omega
      have hlk := HL.out
      have e0 : l.drop k = [] := List.drop_eq_nil_of_le (by omega)
      have HU := hd (show Cd.units l = don by rw [HE.out, e0]; simp [Cd.unitsFrom])
      clear hlk e0
      go_wp2
      go_ret
      exact ⟨B, d, rfl, by rw [HU.out]; exact hown, hX⟩


theorem reach_hitK {l : List Cd.Ins} {m k : Nat} (h : k < l.length) (hno : (l.take k).any (Pk.reachB m) = false) (hf : Pk.reachB m l[k] = true) : Pk.reaches l m = some k := by
  unfold Pk.reaches
  rw [List.findIdx?_eq_some_iff_getElem]
  refine ⟨h, hf, fun j hj => ?_⟩
  have h1 : (l.take k).length = k := by rw [List.length_take]; omega
  have := (List.any_eq_false.mp hno) (l.take k)[j] (List.getElem_mem (by omega))
  simpa using this
theorem reach_noneK {l : List Cd.Ins} {m : Nat} (hno : l.any (Pk.reachB m) = false) : Pk.reaches l m = none := by
  unfold Pk.reaches
  rw [List.findIdx?_eq_none_iff]
  intro x hx
  have := (List.any_eq_false.mp hno) x hx
  simpa using this
/-- where the first of these stands, as a number -/
def reachN (r : Option Nat) : Int := match r with | some i => (i : Nat) | none => -1

end Go.Proofs.YtfcbedkidjclhaaDoor
