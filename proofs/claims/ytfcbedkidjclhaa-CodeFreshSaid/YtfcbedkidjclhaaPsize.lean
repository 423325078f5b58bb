/-
  The contracts of the document's Sizes, beyond, Units.
  Conditions: the lists can be read, no more than may be handed in.
-/
import Derived.Test.YtfcbedkidjclhaaPack2
import Derived.Test.YtfcbedkidjclhaaKeep
import Derived.Test.YtfcbedkidjclhaaProgM
import Derived.Test.YtfcbedkidjclhaaCode6
namespace Go.Proofs.Ytfcbedkidjclhaa
open Go.RowKit
set_option maxRecDepth 100000
set_option linter.unusedSimpArgs false
set_option linter.unusedVariables false

theorem any_next {α : Type} {p : α → Bool} {l : List α} {k : Nat} (h : k < l.length) (h0 : (l.take k).any p = false) (h1 : p l[k] = false) : (l.take (k + 1)).any p = false := by
  rw [List.take_succ_eq_append_getElem h, List.any_append, h0]
  simp [h1]
theorem any_here {α : Type} {p : α → Bool} {l : List α} {k : Nat} (h : k < l.length) (h1 : p l[k] = true) : l.any p = true := by
  rw [List.any_eq_true]
  exact ⟨l[k], List.getElem_mem h, h1⟩

set_option maxHeartbeats 1000000 in
theorem RSizes_any (lo hi : Int) (A B : Option Addr) (n m c d : Nat) (ts : List (Int × Int)) (w : World) (h : Rd w 2 B m (tv ts)) (hn : n ≤ 9000000000000000000) (hm : m * 16 ≤ 140737488355328) :
    Calls Try.prog 74 #[.int .i64 lo, .int .i64 hi, .slice A n c, .slice B m d] w fun e w' => e = .returned (.int .i64 (Pk.sizes lo hi n ts)) ∧ Ext w w' := by
  have hx : ts.length = m := by have := h.1; rw [tv_length] at this; omega
  obtain ⟨S, hS⟩ : ∃ S, Pk.sizes lo hi n ts = S := ⟨_, rfl⟩
  rw [hS]
  unfold Pk.sizes at hS
  by_cases h0 : lo < 0 ∨ hi < lo ∨ 65535 < hi
  · rw [if_pos h0] at hS
    subst hS
    clear h hx
    go_enter Try.func74, Try.ntmps74
    rcases h0 with h0 | h0 | h0
    · go_wp2
      all_goals go_ret
      all_goals first | exact ⟨rfl, Ext.refl _⟩ | omega
    · go_wp2
      all_goals go_ret
      all_goals first | exact ⟨rfl, Ext.refl _⟩ | omega
    · go_wp2
      all_goals go_ret
      all_goals first | exact ⟨rfl, Ext.refl _⟩ | omega
  · rw [if_neg h0] at hS
    have l0 : ¬ lo < 0 := by omega
    have l1 : ¬ hi < lo := by omega
    have l2 : ¬ 65535 < hi := by omega
    clear h0
    have HS := hd hS
    clear hS
    by_cases h8 : 8 < m
    · have h8' : (8 : Int) < (m : Int) := by omega
      have hS := HS.out
      rw [if_pos (.inl (by omega))] at hS
      subst hS
      clear HS
      go_enter Try.func74, Try.ntmps74
      go_wp2
      go_ret
      exact ⟨rfl, Ext.refl _⟩
    · have h8' : ¬ (8 : Int) < (m : Int) := by omega
      go_enter Try.func74, Try.ntmps74
      go_wp2
      go_loopw [9] (fun i wr => ∃ (k : Nat), i = .int .i64 k ∧ k ≤ m ∧ Hid ((ts.take k).any Pk.wrongB = false) ∧ Ext w wr) (fun i _ => m - (intOf i).toNat)
      case atStart => exact ⟨0, rfl, by omega, hd (by simp), Ext.refl _⟩
      case round =>
        obtain ⟨k, rfl, hk, HN, hX⟩ := hrel
        by_cases hlt : k < m
        · have e1 : (k : Int) < (m : Int) := by omega
          obtain ⟨b, o, rfl, hc⟩ := (h.ext hX).form (by omega) (by omega)
          have hkl : k < ts.length := by omega
          have q0 := hc _ _ (tv_get0 ts k hkl)
          have q1 := hc _ _ (tv_get1 ts k hkl)
          rw [← Nat.add_assoc] at q1
          have HHERE := hd (fun hw => any_here (p := Pk.wrongB) hkl hw)
          have HNEXT := hd (fun hw => any_next (p := Pk.wrongB) hkl HN.out hw)
          obtain ⟨t, ht⟩ : ∃ t, ts[k] = t := ⟨_, rfl⟩
          rw [ht] at q0 q1 HHERE HNEXT
          obtain ⟨t1, t2⟩ := t
          simp only at q0 q1
          clear ht hc
          go_upto_region 9 with (fail)
          refine wp_world (fun W => Ext wr W ∧ Blk W wr.heap.size 54 #[.int .i64 t1, .int .i64 t2]) ⟨?_, ?_⟩ ?_
          · exact Ext.new _ _
          · exact Blk.new _ _ _
          rintro W ⟨hX2, hB⟩
          obtain ⟨p0, p1⟩ := hB.c2
          obtain ⟨wb, hwb⟩ : ∃ wb, Pk.wrongB (t1, t2) = wb := ⟨_, rfl⟩
          have hwe : wb = (decide (t1 < 1) || decide (64 < t1) || decide (t2 < 1) || decide (64 < t2)) := by rw [← hwb]; rfl
          have HWB := hd hwb
          have HWE := hd hwe
          clear hwb hwe q0 q1
          obtain ⟨a1, ha1⟩ : ∃ t, decide (t1 < 1) = t := ⟨_, rfl⟩
          obtain ⟨a2, ha2⟩ : ∃ t, decide (64 < t1) = t := ⟨_, rfl⟩
          obtain ⟨a3, ha3⟩ : ∃ t, decide (t2 < 1) = t := ⟨_, rfl⟩
          obtain ⟨a4, ha4⟩ : ∃ t, decide (64 < t2) = t := ⟨_, rfl⟩
          have hwe2 := HWE.out
          rw [ha1, ha2, ha3, ha4] at hwe2
          have HWE2 := hd hwe2
          clear hwe2 HWE
          go_cut [52] from 35 to 52 (fun v W2 => v = .bool wb ∧ W2 = W)
          case first =>
            cases a1 <;> cases a2 <;> cases a3 <;> cases a4
            all_goals go_wp2
            all_goals go_meet
            all_goals case rel => exact ⟨congrArg Value.bool (by rw [HWE2.out]; rfl), rfl⟩
          case rest =>
          obtain ⟨rfl, hwc⟩ := hcut
          rw [hwc]
          clear hwc ha1 ha2 ha3 ha4 HWE2 p0 p1
          cases wb with
          | true =>
            have hS := HS.out
            rw [if_pos (.inr (HHERE.out HWB.out))] at hS
            subst hS
            clear HS HHERE HNEXT HN
            go_wp2
            go_ret
            exact ⟨rfl, hX.trans hX2⟩
          | false =>
            go_wp2
            go_roundw
            case rel => exact ⟨k + 1, by go_num, by omega, hd (HNEXT.out HWB.out), hX.trans hX2⟩
            case measure => simp [intOf]; omega
        · obtain rfl : k = m := by omega
          have hno := HN.out
          rw [List.take_of_length_le (by omega)] at hno
          have hS := HS.out
          rw [if_neg (by rw [hno]; simp; omega)] at hS
          have e1 : ¬ (k : Int) < (k : Int) := by omega
          clear HS HN hno
          by_cases h4 : 4096 < n
          · have h4' : (4096 : Int) < (n : Int) := by omega
            rw [if_pos h4] at hS
            subst hS
            go_wp2
            go_ret
            exact ⟨rfl, hX⟩
          · have h4' : ¬ (4096 : Int) < (n : Int) := by omega
            rw [if_neg h4] at hS
            subst hS
            go_wp2
            go_ret
            exact ⟨rfl, hX⟩

set_option maxHeartbeats 1000000 in
theorem RUnits_any (A : Option Addr) (n c : Nat) (l : List Cd.Ins) (w : World) (h : Rd w 8 A n (cv l)) (hn : n * 56 ≤ 140737488355328) :
    Calls Try.prog 54 #[.slice A n c] w fun e w' => ∃ B d, e = .returned (.slice B (n + 1) d) ∧ w'.ownsRow w.heap.size 3 1 (.slice B (n + 1) d) (n + 1) (nv (Cd.units l)) ∧ Ext w w' := by
  have hl : l.length = n := by have := h.1; rw [cv_length] at this; omega
  have HL := hd hl
  clear hl
  obtain ⟨i0, hi0, hz0, hz1, hz2⟩ := info_parts info3
  go_enter Try.func54, Try.ntmps54
  go_wp2
  refine wp_world (fun W => Ext w W ∧ W.ownsRow w.heap.size 3 1 (.slice (some ⟨w.heap.size, 0, none⟩) 1 1) 1 (nv [0])) ⟨Ext.new _ _, ?_⟩ ?_
  · exact ⟨by simp [nv, iv], .inr ⟨w.heap.size, 1, #[.int .i64 0], rfl, Nat.le_refl _, Blk.new _ _ _, Nat.le_refl _, by decide, rfl, rfl⟩⟩
  rintro W ⟨hXW, hown0⟩
  go_loopw [3, 4, 5] (fun nn out i wr => ∃ (k m : Nat) (B : Option Addr) (d : Nat) (don : List Nat), k ≤ n ∧ m ≤ 2 * k ∧ i = .int .i64 k ∧ nn = .int .i64 m ∧ out = .slice B (k + 1) d ∧ wr.ownsRow w.heap.size 3 1 (.slice B (k + 1) d) (k + 1) (nv don) ∧ Ext w wr ∧ Hid (Cd.units l = don ++ (Cd.unitsFrom m (l.drop k)).tail)) (fun _ _ i _ => n - (intOf i).toNat)
  case atStart => exact ⟨0, 0, _, 1, [0], by omega, by omega, rfl, rfl, rfl, hown0, hXW, hd (by rw [List.drop_zero]; exact unitsFrom_head l 0)⟩
  case round =>
    obtain ⟨k, m, B, d, don, hk, hm, rfl, rfl, rfl, hown, hX, HE⟩ := hrel
    have hszr := hX.size
    by_cases hlt : k < n
    · obtain ⟨b, o, rfl, hc⟩ := (h.ext hX).form (by omega) (by omega)
      have hkl : k < l.length := by have := HL.out; omega
      obtain ⟨q0, q1, q2, q3, q4, q5, q6, q7⟩ := ins_cells hc hkl
      clear hc
      have HD := hd (show l.drop k = l[k] :: l.drop (k + 1) from List.drop_eq_getElem_cons hkl)
      obtain ⟨x, hx⟩ : ∃ x, l[k] = x := ⟨_, rfl⟩
      rw [hx] at q0 q1 q2 q3 q4 q5 q6 q7 HD
      clear hx
      obtain ⟨op, nr, rg, sz, ds, sr, of, im⟩ := x
      simp only at q0 q1 q2 q3 q4 q5 q6 q7
      have HE2 := hd (units_step (by rw [HE.out, HD.out] : Cd.units l = don ++ (Cd.unitsFrom m (⟨op, nr, rg, sz, ds, sr, of, im⟩ :: l.drop (k + 1))).tail))
      obtain ⟨a1, ha1⟩ : ∃ t, (op == 20) = t := ⟨_, rfl⟩
      obtain ⟨a2, ha2⟩ : ∃ t, (op == 21) = t := ⟨_, rfl⟩
      have hwd : Cd.wide op = (a1 || a2) := by rw [← ha1, ← ha2]; rfl
      have HWD := hd hwd
      clear hwd
      go_upto_region 7 with (fail)
      go_cut [28] from 15 to 28 (fun v W2 => v = .bool (a1 || a2) ∧ W2 = wr)
      case first =>
        cases a1 <;> cases a2
        all_goals go_wp2
        all_goals go_meet
        all_goals case rel => exact ⟨rfl, rfl⟩
      case rest =>
      obtain ⟨rfl, hwc⟩ := hcut
      rw [hwc]
      clear hwc ha1 ha2 q0 q1 q2 q3 q4 q5 q6 q7
      obtain ⟨a12, ha12⟩ : ∃ t, (a1 || a2) = t := ⟨_, rfl⟩
      rw [ha12] at HWD ⊢
      clear ha12
      cases a12 with
      | false =>
        have HW := hd (show Cd.width ⟨op, nr, rg, sz, ds, sr, of, im⟩ = 1 by simp [Cd.width, HWD.out])
        go_wp2_with (first | (at_builtin; refine wpList_app _ rfl _ _ 31 rfl w.heap.size 3 i0 _ 1 8 Try.underlying31 hi0 hz0 hz1 hz2 rfl (by omega) (.slice B (k + 1) d) (k + 1) (nv don) rfl (hown.alloc _) (some ⟨wr.heap.size, 0, none⟩) 1 1 [.int .i64 ((m : Int) + 1)] rfl (Rd.one _ _ _) (oneCell_int _) (by omega) (by omega) (by simp; omega) ?_; intro v1 w2 hown1 hg1 hat1; have hX1 := (hX.alloc _).grown_own (hown.alloc _) hg1 (Nat.le_refl _); obtain ⟨A3, c3, rfl, _⟩ := own_form hown1))
        go_roundw
        case rel => exact ⟨k + 1, m + 1, A3, c3, don ++ [m + 1], by omega, by omega, by go_num, by go_num, rfl, by rw [← nv_snoc]; exact hown1, hX1, hd (by have := HE2.out; rw [HW.out] at this; exact this)⟩
        case measure => simp [intOf]; omega
      | true =>
        have HW := hd (show Cd.width ⟨op, nr, rg, sz, ds, sr, of, im⟩ = 2 by simp [Cd.width, HWD.out])
        go_wp2_with (first | (at_builtin; refine wpList_app _ rfl _ _ 31 rfl w.heap.size 3 i0 _ 1 8 Try.underlying31 hi0 hz0 hz1 hz2 rfl (by omega) (.slice B (k + 1) d) (k + 1) (nv don) rfl (hown.alloc _) (some ⟨wr.heap.size, 0, none⟩) 1 1 [.int .i64 ((m : Int) + 1 + 1)] rfl (Rd.one _ _ _) (oneCell_int _) (by omega) (by omega) (by simp; omega) ?_; intro v1 w2 hown1 hg1 hat1; have hX1 := (hX.alloc _).grown_own (hown.alloc _) hg1 (Nat.le_refl _); obtain ⟨A3, c3, rfl, _⟩ := own_form hown1))
        go_roundw
        case rel => exact ⟨k + 1, m + 2, A3, c3, don ++ [m + 2], by omega, by omega, by go_num, by go_num, rfl, by rw [← nv_snoc]; exact hown1, hX1, hd (by have := HE2.out; rw [HW.out] at this; exact this)⟩
        case measure => simp [intOf]; omega
    · obtain rfl : k = n := by omega
      have hlk := HL.out
      have e0 : l.drop k = [] := List.drop_eq_nil_of_le (by omega)
      have HU := hd (show Cd.units l = don by rw [HE.out, e0]; simp [Cd.unitsFrom])
      clear hlk e0
      go_wp2
      go_ret
      exact ⟨B, d, rfl, by rw [HU.out]; exact hown, hX⟩


theorem reach_hitK {l : List Cd.Ins} {m k : Nat} (h : k < l.length) (hno : (l.take k).any (Pk.reachB m) = false) (hf : Pk.reachB m l[k] = true) : Pk.reaches l m = some k := by
  unfold Pk.reaches
  rw [List.findIdx?_eq_some_iff_getElem]
  refine ⟨h, hf, fun j hj => ?_⟩
  have h1 : (l.take k).length = k := by rw [List.length_take]; omega
  have := (List.any_eq_false.mp hno) (l.take k)[j] (List.getElem_mem (by omega))
  simpa using this
theorem reach_noneK {l : List Cd.Ins} {m : Nat} (hno : l.any (Pk.reachB m) = false) : Pk.reaches l m = none := by
  unfold Pk.reaches
  rw [List.findIdx?_eq_none_iff]
  intro x hx
  have := (List.any_eq_false.mp hno) x hx
  simpa using this
/-- where the first of these stands, as a number -/
def reachN (r : Option Nat) : Int := match r with | some i => (i : Nat) | none => -1

set_option maxHeartbeats 1000000 in
theorem RBeyond_any (A : Option Addr) (n c : Nat) (l : List Cd.Ins) (m : Nat) (w : World) (h : Rd w 8 A n (cv l)) (hn : n * 56 ≤ 140737488355328) :
    Calls Try.prog 110 #[.slice A n c, .int .i64 (m : Int)] w fun e w' => e = .returned (.int .i64 (reachN (Pk.reaches l m))) ∧ Ext w w' := by
  have hl : l.length = n := by have := h.1; rw [cv_length] at this; omega
  obtain ⟨X, hX⟩ : ∃ X, reachN (Pk.reaches l m) = X := ⟨_, rfl⟩
  rw [hX]
  have HX := hd hX
  clear hX
  go_enter Try.func110, Try.ntmps110
  go_wp2
  go_loopw [5] (fun i wr => ∃ (k : Nat), i = .int .i64 k ∧ k ≤ n ∧ Hid ((l.take k).any (Pk.reachB m) = false) ∧ wr = w) (fun i _ => n - (intOf i).toNat)
  case atStart => exact ⟨0, rfl, by omega, hd (by simp), rfl⟩
  case round =>
    obtain ⟨k, rfl, hk, HN, rfl⟩ := hrel
    by_cases hlt : k < n
    · have e1 : (k : Int) < (n : Int) := by omega
      obtain ⟨b, o, rfl, hc⟩ := h.form (by omega) (by omega)
      have hkl : k < l.length := by omega
      obtain ⟨q0, q1, q2, q3, q4, q5, q6, q7⟩ := ins_cells hc hkl
      have HHERE := hd (fun hw => reach_hitK (m := m) hkl HN.out hw)
      have HNEXT := hd (fun hw => any_next (p := Pk.reachB m) hkl HN.out hw)
      obtain ⟨x, hx⟩ : ∃ x, l[k] = x := ⟨_, rfl⟩
      rw [hx] at q0 q1 q2 q3 q4 q5 q6 q7 HHERE HNEXT
      clear hx hc
      obtain ⟨op, nr, rg, sz, ds, sr, of, im⟩ := x
      simp only at q0 q1 q2 q3 q4 q5 q6 q7
      obtain ⟨a1, ha1⟩ : ∃ t, (op == 21) = t := ⟨_, rfl⟩
      obtain ⟨a2, ha2⟩ : ∃ t, decide ((m : Int) < im) = t := ⟨_, rfl⟩
      have hrb : Pk.reachB m ⟨op, nr, rg, sz, ds, sr, of, im⟩ = (a1 && a2) := by rw [← ha1, ← ha2]; rfl
      rw [hrb] at HHERE HNEXT
      clear hrb
      go_upto_region 4 with (fail)
      go_cut [26] from 12 to 26 (fun v W2 => v = .bool (a1 && a2) ∧ W2 = wr)
      case first =>
        cases a1 <;> cases a2
        all_goals go_wp2
        all_goals go_meet
        all_goals case rel => exact ⟨rfl, rfl⟩
      case rest =>
      obtain ⟨rfl, hwc⟩ := hcut
      rw [hwc]
      clear hwc ha1 ha2 q0 q1 q2 q3 q4 q5 q6 q7
      obtain ⟨a12, ha12⟩ : ∃ t, (a1 && a2) = t := ⟨_, rfl⟩
      rw [ha12] at HHERE HNEXT ⊢
      clear ha12
      cases a12 with
      | true =>
        have HXE := hd (show X = (k : Int) by rw [← HX.out, HHERE.out rfl]; rfl)
        clear HX HHERE HNEXT
        go_wp2
        go_ret
        exact ⟨by rw [HXE.out]; rfl, Ext.refl _⟩
      | false =>
        go_wp2
        go_roundw
        case rel => exact ⟨k + 1, by go_num, by omega, hd (HNEXT.out rfl), by first | exact trivial | rfl⟩
        case measure => simp [intOf]; omega
    · obtain rfl : k = n := by omega
      have hno := HN.out
      rw [List.take_of_length_le (by omega)] at hno
      have HXE := hd (show X = -1 by rw [← HX.out, reach_noneK hno]; rfl)
      have e1 : ¬ (k : Int) < (k : Int) := by omega
      clear HX HN hno
      go_wp2
      go_ret
      exact ⟨by rw [HXE.out]; rfl, Ext.refl _⟩

end Go.Proofs.Ytfcbedkidjclhaa
