/-
  The contracts of the document's Sizes, beyond, Units.
  Conditions: the lists can be read, no more than may be handed in.
  The contract of the document's Program.
  Conditions: each slice reads as a list and takes no more than 2^47 bytes.
-/
import Derived.Test.YtfcbedkidjclhaaPack2
import Derived.Test.YtfcbedkidjclhaaKeep
import Derived.Test.YtfcbedkidjclhaaProgM
import Derived.Test.YtfcbedkidjclhaaCode6
import Derived.Test.YtfcbedkidjclhaaPPg
import Derived.Test.YtfcbedkidjclhaaRef9
namespace Go.Proofs.Ytfcbedkidjclhaa
open Go.RowKit
set_option maxRecDepth 100000
set_option linter.unusedSimpArgs false
set_option linter.unusedVariables false

theorem any_next {α : Type} {p : α → Bool} {l : List α} {k : Nat} (h : k < l.length) (h0 : (l.take k).any p = false) (h1 : p l[k] = false) : (l.take (k + 1)).any p = false := by
  rw [List.take_succ_eq_append_getElem h, List.any_append, h0]
  simp [h1]
theorem any_here {α : Type} {p : α → Bool} {l : List α} {k : Nat} (h : k < l.length) (h1 : p l[k] = true) : l.any p = true := by
  rw [List.any_eq_true]
  exact ⟨l[k], List.getElem_mem h, h1⟩

set_option maxHeartbeats 1000000 in
theorem RSizes_any (lo hi : Int) (A B : Option Addr) (n m c d : Nat) (ts : List (Int × Int)) (w : World) (h : Rd w 2 B m (tv ts)) (hn : n ≤ 9000000000000000000) (hm : m * 16 ≤ 140737488355328) :
    Calls Try.prog 74 #[.int .i64 lo, .int .i64 hi, .slice A n c, .slice B m d] w fun e w' => e = .returned (.int .i64 (Pk.sizes lo hi n ts)) ∧ Ext w w' := by
  have hx : ts.length = m := by have := h.1; rw [tv_length] at this; omega
  obtain ⟨S, hS⟩ : ∃ S, Pk.sizes lo hi n ts = S := ⟨_, rfl⟩
  rw [hS]
  unfold Pk.sizes at hS
  by_cases h0 : lo < 0 ∨ hi < lo ∨ 65535 < hi
  · rw [if_pos h0] at hS
    subst hS
    clear h hx
    go_enter Try.func74, Try.ntmps74
    rcases h0 with h0 | h0 | h0
    · go_wp2
      all_goals go_ret
      all_goals first | exact ⟨rfl, Ext.refl _⟩ | omega
    · go_wp2
      all_goals go_ret
      all_goals first | exact ⟨rfl, Ext.refl _⟩ | omega
    · go_wp2
      all_goals go_ret
      all_goals first | exact ⟨rfl, Ext.refl _⟩ | omega
  · rw [if_neg h0] at hS
    have l0 : ¬ lo < 0 := by omega
    have l1 : ¬ hi < lo := by omega
    have l2 : ¬ 65535 < hi := by omega
    clear h0
    have HS := hd hS
    clear hS
    by_cases h8 : 8 < m
    · have h8' : (8 : Int) < (m : Int) := by omega
      have hS := HS.out
      rw [if_pos (.inl (by omega))] at hS
      subst hS
      clear HS
      go_enter Try.func74, Try.ntmps74
      go_wp2
      go_ret
      exact ⟨rfl, Ext.refl _⟩
    · have h8' : ¬ (8 : Int) < (m : Int) := by omega
      go_enter Try.func74, Try.ntmps74
      go_wp2
      go_loopw [9] (fun i wr => ∃ (k : Nat), i = .int .i64 k ∧ k ≤ m ∧ Hid ((ts.take k).any Pk.wrongB = false) ∧ Ext w wr) (fun i _ => m - (intOf i).toNat)
      case atStart => exact ⟨0, rfl, by omega, hd (by simp), Ext.refl _⟩
      case round =>
        obtain ⟨k, rfl, hk, HN, hX⟩ := hrel
        by_cases hlt : k < m
        · have e1 : (k : Int) < (m : Int) := by omega
          obtain ⟨b, o, rfl, hc⟩ := (h.ext hX).form (by omega) (by omega)
          have hkl : k < ts.length := by omega
          have q0 := hc _ _ (tv_get0 ts k hkl)
          have q1 := hc _ _ (tv_get1 ts k hkl)
          rw [← Nat.add_assoc] at q1
          have HHERE := hd (fun hw => any_here (p := Pk.wrongB) hkl hw)
          have HNEXT := hd (fun hw => any_next (p := Pk.wrongB) hkl HN.out hw)
          obtain ⟨t, ht⟩ : ∃ t, ts[k] = t := ⟨_, rfl⟩
          rw [ht] at q0 q1 HHERE HNEXT
          obtain ⟨t1, t2⟩ := t
          simp only at q0 q1
          clear ht hc
          go_upto_region 9 with (fail)
          refine wp_world (fun W => Ext wr W ∧ Blk W wr.heap.size 54 #[.int .i64 t1, .int .i64 t2]) ⟨?_, ?_⟩ ?_
          · exact Ext.new _ _
          · exact Blk.new _ _ _
          rintro W ⟨hX2, hB⟩
          obtain ⟨p0, p1⟩ := hB.c2
          obtain ⟨wb, hwb⟩ : ∃ wb, Pk.wrongB (t1, t2) = wb := ⟨_, rfl⟩
          have hwe : wb = (decide (t1 < 1) || decide (64 < t1) || decide (t2 < 1) || decide (64 < t2)) := by rw [← hwb]; rfl
          have HWB := hd hwb
          have HWE := hd hwe
          clear hwb hwe q0 q1
          obtain ⟨a1, ha1⟩ : ∃ t, decide (t1 < 1) = t := ⟨_, rfl⟩
          obtain ⟨a2, ha2⟩ : ∃ t, decide (64 < t1) = t := ⟨_, rfl⟩
          obtain ⟨a3, ha3⟩ : ∃ t, decide (t2 < 1) = t := ⟨_, rfl⟩
          obtain ⟨a4, ha4⟩ : ∃ t, decide (64 < t2) = t := ⟨_, rfl⟩
          have hwe2 := HWE.out
          rw [ha1, ha2, ha3, ha4] at hwe2
          have HWE2 := hd hwe2
          clear hwe2 HWE
          go_cut [52] from 35 to 52 (fun v W2 => v = .bool wb ∧ W2 = W)
          case first =>
            cases a1 <;> cases a2 <;> cases a3 <;> cases a4
            all_goals go_wp2
            all_goals go_meet
            all_goals case rel => exact ⟨congrArg Value.bool (by rw [HWE2.out]; rfl), rfl⟩
          case rest =>
          obtain ⟨rfl, hwc⟩ := hcut
          rw [hwc]
          clear hwc ha1 ha2 ha3 ha4 HWE2 p0 p1
          cases wb with
          | true =>
            have hS := HS.out
            rw [if_pos (.inr (HHERE.out HWB.out))] at hS
            subst hS
            clear HS HHERE HNEXT HN
            go_wp2
            go_ret
            exact ⟨rfl, hX.trans hX2⟩
          | false =>
            go_wp2
            go_roundw
            case rel => exact ⟨k + 1, by go_num, by omega, hd (HNEXT.out HWB.out), hX.trans hX2⟩
            case measure => simp [intOf]; omega
        · obtain rfl : k = m := by omega
          have hno := HN.out
          rw [List.take_of_length_le (by omega)] at hno
          have hS := HS.out
          rw [if_neg (by rw [hno]; simp; omega)] at hS
          have e1 : ¬ (k : Int) < (k : Int) := by omega
          clear HS HN hno
          by_cases h4 : 4096 < n
          · have h4' : (4096 : Int) < (n : Int) := by omega
            rw [if_pos h4] at hS
            subst hS
            go_wp2
            go_ret
            exact ⟨rfl, hX⟩
          · have h4' : ¬ (4096 : Int) < (n : Int) := by omega
            rw [if_neg h4] at hS
            subst hS
            go_wp2
            go_ret
            exact ⟨rfl, hX⟩

set_option maxHeartbeats 1000000 in
theorem RUnits_any (A : Option Addr) (n c : Nat) (l : List Cd.Ins) (w : World) (h : Rd w 8 A n (cv l)) (hn : n * 56 ≤ 140737488355328) :
    Calls Try.prog 54 #[.slice A n c] w fun e w' => ∃ B d, e = .returned (.slice B (n + 1) d) ∧ w'.ownsRow w.heap.size 3 1 (.slice B (n + 1) d) (n + 1) (nv (Cd.units l)) ∧ Ext w w' := by
  have hl : l.length = n := by have := h.1; rw [cv_length] at this; omega
  have HL := hd hl
  clear hl
  obtain ⟨i0, hi0, hz0, hz1, hz2⟩ := info_parts info3
  go_enter Try.func54, Try.ntmps54
  go_wp2
  refine wp_world (fun W => Ext w W ∧ W.ownsRow w.heap.size 3 1 (.slice (some ⟨w.heap.size, 0, none⟩) 1 1) 1 (nv [0])) ⟨Ext.new _ _, ?_⟩ ?_
  · exact ⟨by simp [nv, iv], .inr ⟨w.heap.size, 1, #[.int .i64 0], rfl, Nat.le_refl _, Blk.new _ _ _, Nat.le_refl _, by decide, rfl, rfl⟩⟩
  rintro W ⟨hXW, hown0⟩
  go_loopw [3, 4, 5] (fun nn out i wr => ∃ (k m : Nat) (B : Option Addr) (d : Nat) (don : List Nat), k ≤ n ∧ m ≤ 2 * k ∧ i = .int .i64 k ∧ nn = .int .i64 m ∧ out = .slice B (k + 1) d ∧ wr.ownsRow w.heap.size 3 1 (.slice B (k + 1) d) (k + 1) (nv don) ∧ Ext w wr ∧ Hid (Cd.units l = don ++ (Cd.unitsFrom m (l.drop k)).tail)) (fun _ _ i _ => n - (intOf i).toNat)
  case atStart => exact ⟨0, 0, _, 1, [0], by omega, by omega, rfl, rfl, rfl, hown0, hXW, hd (by rw [List.drop_zero]; exact unitsFrom_head l 0)⟩
  case round =>
    obtain ⟨k, m, B, d, don, hk, hm, rfl, rfl, rfl, hown, hX, HE⟩ := hrel
    have hszr := hX.size
    by_cases hlt : k < n
    · obtain ⟨b, o, rfl, hc⟩ := (h.ext hX).form (by omega) (by omega)
      have hkl : k < l.length := by have := HL.out; omega
      obtain ⟨q0, q1, q2, q3, q4, q5, q6, q7⟩ := ins_cells hc hkl
      clear hc
      have HD := hd (show l.drop k = l[k] :: l.drop (k + 1) from List.drop_eq_getElem_cons hkl)
      obtain ⟨x, hx⟩ : ∃ x, l[k] = x := ⟨_, rfl⟩
      rw [hx] at q0 q1 q2 q3 q4 q5 q6 q7 HD
      clear hx
      obtain ⟨op, nr, rg, sz, ds, sr, of, im⟩ := x
      simp only at q0 q1 q2 q3 q4 q5 q6 q7
      have HE2 := hd (units_step (by rw [HE.out, HD.out] : Cd.units l = don ++ (Cd.unitsFrom m (⟨op, nr, rg, sz, ds, sr, of, im⟩ :: l.drop (k + 1))).tail))
      obtain ⟨a1, ha1⟩ : ∃ t, (op == 20) = t := ⟨_, rfl⟩
      obtain ⟨a2, ha2⟩ : ∃ t, (op == 21) = t := ⟨_, rfl⟩
      have hwd : Cd.wide op = (a1 || a2) := by rw [← ha1, ← ha2]; rfl
      have HWD := hd hwd
      clear hwd
      go_upto_region 7 with (fail)
      go_cut [28] from 15 to 28 (fun v W2 => v = .bool (a1 || a2) ∧ W2 = wr)
      case first =>
        cases a1 <;> cases a2
        all_goals go_wp2
        all_goals go_meet
        all_goals case rel => exact ⟨rfl, rfl⟩
      case rest =>
      obtain ⟨rfl, hwc⟩ := hcut
      rw [hwc]
      clear hwc ha1 ha2 q0 q1 q2 q3 q4 q5 q6 q7
      obtain ⟨a12, ha12⟩ : ∃ t, (a1 || a2) = t := ⟨_, rfl⟩
      rw [ha12] at HWD ⊢
      clear ha12
      cases a12 with
      | false =>
        have HW := hd (show Cd.width ⟨op, nr, rg, sz, ds, sr, of, im⟩ = 1 by simp [Cd.width, HWD.out])
        go_wp2_with (first | (at_builtin; refine wpList_app _ rfl _ _ 31 rfl w.heap.size 3 i0 _ 1 8 Try.underlying31 hi0 hz0 hz1 hz2 rfl (by omega) (.slice B (k + 1) d) (k + 1) (nv don) rfl (hown.alloc _) (some ⟨wr.heap.size, 0, none⟩) 1 1 [.int .i64 ((m : Int) + 1)] rfl (Rd.one _ _ _) (oneCell_int _) (by omega) (by omega) (by simp; omega) ?_; intro v1 w2 hown1 hg1 hat1; have hX1 := (hX.alloc _).grown_own (hown.alloc _) hg1 (Nat.le_refl _); obtain ⟨A3, c3, rfl, _⟩ := own_form hown1))
        go_roundw
        case rel => exact ⟨k + 1, m + 1, A3, c3, don ++ [m + 1], by omega, by omega, by go_num, by go_num, rfl, by rw [← nv_snoc]; exact hown1, hX1, hd (by have := HE2.out; rw [HW.out] at this; exact this)⟩
        case measure => simp [intOf]; omega
      | true =>
        have HW := hd (show Cd.width ⟨op, nr, rg, sz, ds, sr, of, im⟩ = 2 by simp [Cd.width, HWD.out])
        go_wp2_with (first | (at_builtin; refine wpList_app _ rfl _ _ 31 rfl w.heap.size 3 i0 _ 1 8 Try.underlying31 hi0 hz0 hz1 hz2 rfl (by omega) (.slice B (k + 1) d) (k + 1) (nv don) rfl (hown.alloc _) (some ⟨wr.heap.size, 0, none⟩) 1 1 [.int .i64 ((m : Int) + 1 + 1)] rfl (Rd.one _ _ _) (oneCell_int _) (by omega) (by omega) (by simp; omega) ?_; intro v1 w2 hown1 hg1 hat1; have hX1 := (hX.alloc _).grown_own (hown.alloc _) hg1 (Nat.le_refl _); obtain ⟨A3, c3, rfl, _⟩ := own_form hown1))
        go_roundw
        case rel => exact ⟨k + 1, m + 2, A3, c3, don ++ [m + 2], by omega, by omega, by go_num, by go_num, rfl, by rw [← nv_snoc]; exact hown1, hX1, hd (by have := HE2.out; rw [HW.out] at this; exact this)⟩
        case measure => simp [intOf]; omega
    · obtain rfl : k = n := by omega
      have hlk := HL.out
      have e0 : l.drop k = [] := List.drop_eq_nil_of_le (by omega)
      have HU := hd (show Cd.units l = don by rw [HE.out, e0]; simp [Cd.unitsFrom])
      clear hlk e0
      go_wp2
      go_ret
      exact ⟨B, d, rfl, by rw [HU.out]; exact hown, hX⟩


theorem reach_hitK {l : List Cd.Ins} {m k : Nat} (h : k < l.length) (hno : (l.take k).any (Pk.reachB m) = false) (hf : Pk.reachB m l[k] = true) : Pk.reaches l m = some k := by
  unfold Pk.reaches
  rw [List.findIdx?_eq_some_iff_getElem]
  refine ⟨h, hf, fun j hj => ?_⟩
  have h1 : (l.take k).length = k := by rw [List.length_take]; omega
  have := (List.any_eq_false.mp hno) (l.take k)[j] (List.getElem_mem (by omega))
  simpa using this
theorem reach_noneK {l : List Cd.Ins} {m : Nat} (hno : l.any (Pk.reachB m) = false) : Pk.reaches l m = none := by
  unfold Pk.reaches
  rw [List.findIdx?_eq_none_iff]
  intro x hx
  have := (List.any_eq_false.mp hno) x hx
  simpa using this
/-- where the first of these stands, as a number -/
def reachN (r : Option Nat) : Int := match r with | some i => (i : Nat) | none => -1

set_option maxHeartbeats 1000000 in
theorem RBeyond_any (A : Option Addr) (n c : Nat) (l : List Cd.Ins) (m : Nat) (w : World) (h : Rd w 8 A n (cv l)) (hn : n * 56 ≤ 140737488355328) :
    Calls Try.prog 110 #[.slice A n c, .int .i64 (m : Int)] w fun e w' => e = .returned (.int .i64 (reachN (Pk.reaches l m))) ∧ Ext w w' := by
  have hl : l.length = n := by have := h.1; rw [cv_length] at this; omega
  obtain ⟨X, hX⟩ : ∃ X, reachN (Pk.reaches l m) = X := ⟨_, rfl⟩
  rw [hX]
  have HX := hd hX
  clear hX
  go_enter Try.func110, Try.ntmps110
  go_wp2
  go_loopw [5] (fun i wr => ∃ (k : Nat), i = .int .i64 k ∧ k ≤ n ∧ Hid ((l.take k).any (Pk.reachB m) = false) ∧ wr = w) (fun i _ => n - (intOf i).toNat)
  case atStart => exact ⟨0, rfl, by omega, hd (by simp), rfl⟩
  case round =>
    obtain ⟨k, rfl, hk, HN, rfl⟩ := hrel
    by_cases hlt : k < n
    · have e1 : (k : Int) < (n : Int) := by omega
      obtain ⟨b, o, rfl, hc⟩ := h.form (by omega) (by omega)
      have hkl : k < l.length := by omega
      obtain ⟨q0, q1, q2, q3, q4, q5, q6, q7⟩ := ins_cells hc hkl
      have HHERE := hd (fun hw => reach_hitK (m := m) hkl HN.out hw)
      have HNEXT := hd (fun hw => any_next (p := Pk.reachB m) hkl HN.out hw)
      obtain ⟨x, hx⟩ : ∃ x, l[k] = x := ⟨_, rfl⟩
      rw [hx] at q0 q1 q2 q3 q4 q5 q6 q7 HHERE HNEXT
      clear hx hc
      obtain ⟨op, nr, rg, sz, ds, sr, of, im⟩ := x
      simp only at q0 q1 q2 q3 q4 q5 q6 q7
      obtain ⟨a1, ha1⟩ : ∃ t, (op == 21) = t := ⟨_, rfl⟩
      obtain ⟨a2, ha2⟩ : ∃ t, decide ((m : Int) < im) = t := ⟨_, rfl⟩
      have hrb : Pk.reachB m ⟨op, nr, rg, sz, ds, sr, of, im⟩ = (a1 && a2) := by rw [← ha1, ← ha2]; rfl
      rw [hrb] at HHERE HNEXT
      clear hrb
      go_upto_region 4 with (fail)
      go_cut [26] from 12 to 26 (fun v W2 => v = .bool (a1 && a2) ∧ W2 = wr)
      case first =>
        cases a1 <;> cases a2
        all_goals go_wp2
        all_goals go_meet
        all_goals case rel => exact ⟨rfl, rfl⟩
      case rest =>
      obtain ⟨rfl, hwc⟩ := hcut
      rw [hwc]
      clear hwc ha1 ha2 q0 q1 q2 q3 q4 q5 q6 q7
      obtain ⟨a12, ha12⟩ : ∃ t, (a1 && a2) = t := ⟨_, rfl⟩
      rw [ha12] at HHERE HNEXT ⊢
      clear ha12
      cases a12 with
      | true =>
        have HXE := hd (show X = (k : Int) by rw [← HX.out, HHERE.out rfl]; rfl)
        clear HX HHERE HNEXT
        go_wp2
        go_ret
        exact ⟨by rw [HXE.out]; rfl, Ext.refl _⟩
      | false =>
        go_wp2
        go_roundw
        case rel => exact ⟨k + 1, by go_num, by omega, hd (HNEXT.out rfl), by first | exact trivial | rfl⟩
        case measure => simp [intOf]; omega
    · obtain rfl : k = n := by omega
      have hno := HN.out
      rw [List.take_of_length_le (by omega)] at hno
      have HXE := hd (show X = -1 by rw [← HX.out, reach_noneK hno]; rfl)
      have e1 : ¬ (k : Int) < (k : Int) := by omega
      clear HX HN hno
      go_wp2
      go_ret
      exact ⟨by rw [HXE.out]; rfl, Ext.refl _⟩

end Go.Proofs.Ytfcbedkidjclhaa
namespace Go.Proofs.Ytfcbedkidjclhaa
open Go.RowKit
set_option maxRecDepth 100000
set_option linter.unusedSimpArgs false
set_option linter.unusedVariables false

set_option maxHeartbeats 4000000 in
theorem RProg_any (lo hi : Int) (A1 A2 A3 : Option Addr) (n1 n2 n3 c1 c2 c3 : Nat) (data code : List UInt8) (ts : List (Int × Int)) (w : World)
    (h1 : Rd w 1 A1 n1 (bv data)) (h2 : Rd w 2 A2 n2 (tv ts)) (h3 : Rd w 1 A3 n3 (bv code))
    (hn1 : n1 ≤ 140737488355328) (hn2 : n2 * 16 ≤ 140737488355328) (hn3 : n3 ≤ 140737488355328) (hc3 : n3 ≤ c3) :
    Calls Try.prog 67 #[.agg #[.int .i64 lo, .int .i64 hi, .slice A1 n1 c1, .slice A2 n2 c2, .slice A3 n3 c3]] w (PProgPost (Pk.pprog ⟨lo, hi, data, ts, code⟩) w) := by
  have hd1 : data.length = n1 := by have := h1.1; rw [bv_length] at this; omega
  obtain ⟨X, hX⟩ : ∃ X, Pk.pprog ⟨lo, hi, data, ts, code⟩ = X := ⟨_, rfl⟩
  obtain ⟨s, hs⟩ : ∃ s, Pk.sizes lo hi n1 ts = s := ⟨_, rfl⟩
  obtain ⟨l, i, e, hdc⟩ : ∃ l i e, Cd.decode code = (l, i, e) := ⟨_, _, _, rfl⟩
  rw [hX]
  have hX' := hX
  unfold Pk.pprog at hX'
  simp only [hd1, hs, hdc] at hX'
  have HS : Hid (∀ W : World, Rd W 2 A2 n2 (tv ts) → Calls Try.prog 74 #[.int .i64 lo, .int .i64 hi, .slice A1 n1 c1, .slice A2 n2 c2] W fun e w' => e = .returned (.int .i64 s) ∧ Ext W w') := hd fun W h => by
    have := RSizes_any lo hi A1 A2 n1 n2 c1 c2 ts W h (by omega) hn2
    rw [hs] at this
    exact this
  have HD := hd hdc
  have HX := hd hX'
  have HL := hd (decode_lenP hdc)
  clear hX hX' hs hd1
  go_enter Try.func67, Try.ntmps67
  go_upto_region 1 with (fail)
  refine wp_world (fun W => Ext w W ∧ Blk W w.heap.size 25 #[.int .i64 lo, .int .i64 hi, .slice A1 n1 c1, .slice A2 n2 c2, .slice A3 n3 c3] ∧ Blk W (w.heap.size + 1) 90 #[.int .i64 0, .int .i64 0, .slice none 0 0, .slice none 0 0, .slice none 0 0])
    ⟨(Ext.new _ _).alloc _, (Blk.new _ _ _).alloc _, by simpa using Blk.new (w.alloc _) 90 _⟩ ?_
  rintro W ⟨hX, hP, hR⟩
  have hsz := hP.lt
  have hsz2 := hR.lt
  obtain ⟨p0, p1, p2, p3, p4⟩ := hP.c5
  have HX1 := HX.out
  clear HX
  by_cases h0 : s = 0
  · subst h0
    rw [if_neg (by decide)] at HX1
    by_cases h4 : e = 0
    · subst h4
      rw [if_neg (by decide)] at HX1
      by_cases h5 : l = []
      · subst h5
        rw [if_pos rfl] at HX1
        have HXE := hd HX1.symm
        clear HX1
        go_upto_region 8 with (first | (go_at_call 74; (with_reducible refine (HS.out _ (h2.ext hX)).mono ?_); rintro e' v1 ⟨rfl, hX1⟩; obtain ⟨q0, q1, q2, q3, q4⟩ := (hP.ext hX1).c5) | (go_at_call 43; (with_reducible refine (RDecode_any A3 n3 c3 code _ (h3.ext (hX.trans hX1)) hc3 (by omega)).mono ?_); rw [HD.out]; rintro e' v2 ⟨B4, n4, d4, hn4, rfl, own4, hX2⟩))
        obtain ⟨f0, f1, f2, f3, f4⟩ := (hR.ext (hX1.trans hX2)).f5
        obtain ⟨g0, g1, g2, g3, g4⟩ := (hR.ext (hX1.trans hX2)).c5
        go_wp2
        obtain ⟨q0, q1, q2, q3, q4⟩ := ((hR.ext (hX1.trans hX2)).s5 (.int .i64 0) (.int .i64 0) (.slice none 0 0) (.slice none 0 0) (.slice none 0 0)).c5
        refine bodyPost_ret (v := .tuple #[.agg #[.int .i64 0, .int .i64 0, .slice none 0 0, .slice none 0 0, .slice none 0 0], .int .i64 ((0 : Nat) : Int), .int .i64 26]) (by simp [results, Try.results67, go_sem, q0, q1, q2, q3, q4]) rfl ?_
        rw [HXE.out]
        exact PProgPost.err ((hX.trans (hX1.trans hX2)).s5 (by omega) _ _ _ _ _)
      · rw [if_neg h5] at HX1
        have e5 : ((l.length : Int) == 0) = false := by simpa using h5
        cases hr : Pk.reaches l n1 with
        | some j =>
          have hj := (Pk.reaches_lt hr).1
          rw [hr] at HX1
          have HXE := hd HX1.symm
          have HR := hd hr
          clear HX1 hr h5
          go_upto_region 9 with (first | (go_at_call 74; (with_reducible refine (HS.out _ (h2.ext hX)).mono ?_); rintro e' v1 ⟨rfl, hX1⟩; obtain ⟨q0, q1, q2, q3, q4⟩ := (hP.ext hX1).c5) | (go_at_call 43; (with_reducible refine (RDecode_any A3 n3 c3 code _ (h3.ext (hX.trans hX1)) hc3 (by omega)).mono ?_); rw [HD.out]; rintro e' v2 ⟨B4, n4, d4, hn4, rfl, own4, hX2⟩))
          obtain ⟨r0, r1, r2, r3, r4⟩ := (hP.ext (hX1.trans hX2)).c5
          obtain rfl : n4 = l.length := hn4
          have HU : Hid ((nv (Cd.units l))[j]? = some (.int .i64 (((Cd.units l).getD j 0 : Nat) : Int))) := hd (by
            have hul := Cd.units_length l
            have : j < (Cd.units l).length := by omega
            simp [nv, iv, List.getD_eq_getElem?_getD, this])
          have j0 : (0 : Int) ≤ (j : Int) := by omega
          have j1 : (j : Int) < (l.length : Int) + 1 := by omega
          go_upto_region 11 with (go_at_call 110; (with_reducible refine (RBeyond_any B4 l.length d4 l n1 _ (Rd.of_own own4) (by have := HL.out; omega)).mono ?_); rw [HR.out]; rintro e' v3 ⟨rfl, hX3⟩; simp only [reachN])
          have hX13 := (hX1.trans hX2).trans hX3
          have hE := hX.trans hX13
          have hP2 := hP.ext hX13
          have hR2 := hR.ext hX13
          have hz1 := (hX.trans hX1).size
          have hz := hE.size
          have own4' := hX3.own own4
          clear p0 p1 p2 p3 p4 r0 r1 r2 r3 r4 hP hR
          have hX := hE
          have hP := hP2
          have hR := hR2
          clear hE hP2 hR2
          go_region_law (first | (go_simp; go_at_call 54; with_reducible refine (RUnits_any B4 l.length d4 l _ ((Rd.of_own own4').ext (Ext.refl _).drew) (by have := HL.out; omega)).mono ?_; rintro e' w5 ⟨B5, d5, rfl, own5, hX5⟩; have hY5 := hX5.of_drew; have own5s := own_s5 own5 (own_blk_ne own5 (hR.ext hY5) (by decide)) (.int .i64 0) (.int .i64 0) (.slice none 0 0) (.slice none 0 0) (.slice none 0 0); obtain ⟨b5, o5, rfl, hc5⟩ := (Rd.of_own own5).form (by omega) (by omega); obtain ⟨_, _, heq, hc6⟩ := (Rd.of_own own5s).form (by omega) (by omega); cases heq; have cu := hc5 _ _ HU.out; have cu2 := hc6 _ _ HU.out; clear hc5 hc6; obtain ⟨f0, f1, f2, f3, f4⟩ := (hR.ext hY5).f5; obtain ⟨g0, g1, g2, g3, g4⟩ := (hR.ext hY5).c5))
          all_goals go_wp2
          all_goals (
            obtain ⟨q0, q1, q2, q3, q4⟩ := ((hR.ext hY5).s5 (.int .i64 0) (.int .i64 0) (.slice none 0 0) (.slice none 0 0) (.slice none 0 0)).c5
            refine bodyPost_ret (v := .tuple #[.agg #[.int .i64 0, .int .i64 0, .slice none 0 0, .slice none 0 0, .slice none 0 0], .int .i64 (((Cd.units l).getD j 0 : Nat) : Int), .int .i64 123]) (by simp [results, Try.results67, go_sem, q0, q1, q2, q3, q4]) rfl ?_
            rw [HXE.out]
            exact PProgPost.err ((hX.trans hY5).s5 (by omega) _ _ _ _ _))
        | none =>
          rw [hr] at HX1
          have HXE := hd HX1.symm
          have HR := hd hr
          clear HX1 hr h5
          go_upto_region 9 with (first | (go_at_call 74; (with_reducible refine (HS.out _ (h2.ext hX)).mono ?_); rintro e' v1 ⟨rfl, hX1⟩; obtain ⟨q0, q1, q2, q3, q4⟩ := (hP.ext hX1).c5) | (go_at_call 43; (with_reducible refine (RDecode_any A3 n3 c3 code _ (h3.ext (hX.trans hX1)) hc3 (by omega)).mono ?_); rw [HD.out]; rintro e' v2 ⟨B4, n4, d4, hn4, rfl, own4, hX2⟩))
          obtain ⟨r0, r1, r2, r3, r4⟩ := (hP.ext (hX1.trans hX2)).c5
          obtain rfl : n4 = l.length := hn4
          go_upto_region 12 with (go_at_call 110; (with_reducible refine (RBeyond_any B4 l.length d4 l n1 _ (Rd.of_own own4) (by have := HL.out; omega)).mono ?_); rw [HR.out]; rintro e' v3 ⟨rfl, hX3⟩; simp only [reachN])
          have hX13 := (hX1.trans hX2).trans hX3
          have hE := hX.trans hX13
          have hP2 := hP.ext hX13
          have hR2 := hR.ext hX13
          have hz1 := (hX.trans hX1).size
          have hz13 := hX13.size
          have hz := hE.size
          have own4' := hX3.own own4
          clear p0 p1 p2 p3 p4 r0 r1 r2 r3 r4 hP hR
          have hX := hE
          have hP := hP2
          have hR := hR2
          clear hE hP2 hR2
          obtain ⟨r0, r1, r2, r3, r4⟩ := hP.c5
          obtain ⟨i5, hi5, hz5, hs5, hb5⟩ := info_parts info5
          obtain ⟨i54, hi54, hz54, hs54, hb54⟩ := info_parts info54
          go_upto_region 13 with (fail)
          refine wp_world (fun W' => Ext v3 W' ∧ Blk W' v3.heap.size 90 #[.int .i64 lo, .int .i64 hi, .slice none 0 0, .slice none 0 0, .slice B4 l.length d4]) ⟨?_, ?_⟩ ?_
          · exact Ext.new _ _
          · exact Blk.new _ _ _
          obtain ⟨gp, hgp⟩ : ∃ gp, v3.heap.size = gp := ⟨_, rfl⟩
          rw [hgp]
          rintro W4 ⟨hX4, hB4⟩
          have hP4 := hP.ext hX4
          have hR4 := hR.ext hX4
          have own4'' := hX4.own own4'
          have hv3 := hX.size
          clear r0 r1 r2 r3 r4 hP hR own4'
          obtain ⟨r0, r1, r2, r3, r4⟩ := hP4.c5
          obtain ⟨t0, t1, t2, t3, t4⟩ := hB4.c5
          obtain ⟨u0, u1, u2, u3, u4⟩ := hB4.f5
          go_upto_region 14 with (refine wl_appendK (.tmp 60) (.tmp 62) 22 W4.heap.size 5 i5 _ 1 1 Try.underlying22 hi5 hz5 hs5 hb5 rfl (by omega) _ 0 [] rfl (World.ownsRow_nil _ _ _ _) A1 n1 c1 (bv data) rfl (h1.ext (hX.trans hX4)) (bv_one _) (by omega) (by omega) (Nat.le_refl _) ?_; intro v5 W5 own5 hg5; rw [Nat.zero_add, List.nil_append] at own5; have hX5 : Ext W4 W5 := (Ext.refl W4).grown_own (World.ownsRow_nil W4 W4.heap.size 5 1) hg5 (Nat.le_refl _); obtain ⟨D5, e5', rfl, -⟩ := own_form own5; obtain ⟨y0, y1, y2, y3, y4⟩ := (hB4.ext hX5).c5; obtain ⟨z0, z1, z2, z3, z4⟩ := (hB4.ext hX5).f5)
          have hB5 := (hB4.ext hX5).set_ 2 (.slice D5 n1 e5')
          refine wp_world (fun W' => Kp (fun b => b = gp) W4 W' ∧ Blk W' gp 90 #[.int .i64 lo, .int .i64 hi, .slice D5 n1 e5', .slice none 0 0, .slice B4 l.length d4] ∧ W'.ownsRow W4.heap.size 5 1 (.slice D5 n1 e5') n1 (bv data)) ⟨Kp.set (S := fun b => b = gp) (Kp.of_ext hX5) ⟨gp, 2, none⟩ (.inl rfl) _, hB5, own_set own5 (p := ⟨gp, 2, none⟩) (own_blk_ne own5 (hB4.ext hX5) (by decide)) _⟩ ?_
          rintro W6 ⟨hK6, hB6, own6⟩
          clear y0 y1 y2 y3 y4 z0 z1 z2 z3 z4 t0 t1 t2 t3 t4 u0 u1 u2 u3 u4 hB5 own5 hX5 hg5 r0 r1 r2 r3 r4
          have hgpW : w.heap.size ≤ gp := by omega
          have hX6 : Ext w W6 := hK6.ext (hX.trans hX4) (fun k e => by omega)
          have nP : w.heap.size ≠ gp := by have := hsz; have := hz13; omega
          have nR : w.heap.size + 1 ≠ gp := by have := hsz2; have := hz13; omega
          have hP6 := hK6.blk hP4 nP
          have hR6 := hK6.blk hR4 nR
          have own46 := hK6.own own4'' (fun k e1 e2 => own_blk_ne own4'' hB4 (by decide) (by rw [e1, e2]))
          obtain ⟨r0, r1, r2, r3, r4⟩ := hP6.c5
          obtain ⟨t0, t1, t2, t3, t4⟩ := hB6.c5
          go_upto_region 15 with (refine wl_appendK (.tmp 66) (.tmp 68) 23 W6.heap.size 54 i54 _ 2 16 Try.underlying23 hi54 hz54 hs54 hb54 rfl (by omega) _ 0 [] rfl (World.ownsRow_nil _ _ _ _) A2 n2 c2 (tv ts) rfl (h2.ext hX6) (tv_one _) (by omega) (by omega) (Nat.le_refl _) ?_; intro v7 W7 own7 hg7; rw [Nat.zero_add, List.nil_append] at own7; have hX7 : Ext W6 W7 := (Ext.refl W6).grown_own (World.ownsRow_nil W6 W6.heap.size 54 2) hg7 (Nat.le_refl _); obtain ⟨D7, e7', rfl, -⟩ := own_form own7; obtain ⟨y0, y1, y2, y3, y4⟩ := (hB6.ext hX7).c5; obtain ⟨z0, z1, z2, z3, z4⟩ := (hB6.ext hX7).f5)
          have hB7 := (hB6.ext hX7).set_ 3 (.slice D7 n2 e7')
          refine wp_world (fun W' => Kp (fun b => b = gp) W6 W' ∧ Blk W' gp 90 #[.int .i64 lo, .int .i64 hi, .slice D5 n1 e5', .slice D7 n2 e7', .slice B4 l.length d4] ∧ W'.ownsRow W6.heap.size 54 2 (.slice D7 n2 e7') n2 (tv ts)) ⟨Kp.set (S := fun b => b = gp) (Kp.of_ext hX7) ⟨gp, 3, none⟩ (.inl rfl) _, hB7, own_set own7 (p := ⟨gp, 3, none⟩) (own_blk_ne own7 (hB6.ext hX7) (by decide)) _⟩ ?_
          rintro W8 ⟨hK8, hB8, own8⟩
          clear y0 y1 y2 y3 y4 z0 z1 z2 z3 z4 t0 t1 t2 t3 t4 hB7 own7 hX7 hg7 r0 r1 r2 r3 r4
          have hX8 : Ext w W8 := hK8.ext hX6 (fun k e => by omega)
          have hR8 := hK8.blk hR6 nR
          have own48 := hK8.own own46 (fun k e1 e2 => own_blk_ne own46 hB6 (by decide) (by rw [e1, e2]))
          have own58 := hK8.own own6 (fun k e1 e2 => own_blk_ne own6 hB6 (by decide) (by rw [e1, e2]))
          have hs4 := (hX.trans hX4).size
          have hs6 := hX6.size
          clear hR6 hP6 hP4 hR4 own46 own6 own4'' hK6 hK8
          obtain ⟨t0, t1, t2, t3, t4⟩ := hB8.c5
          obtain ⟨f0, f1, f2, f3, f4⟩ := hR8.f5
          obtain ⟨g0, g1, g2, g3, g4⟩ := hR8.c5
          go_wp2
          obtain ⟨q0, q1, q2, q3, q4⟩ := (hR8.s5 (.int .i64 lo) (.int .i64 hi) (.slice D5 n1 e5') (.slice D7 n2 e7') (.slice B4 l.length d4)).c5
          refine bodyPost_ret (v := .tuple #[.agg #[.int .i64 lo, .int .i64 hi, .slice D5 n1 e5', .slice D7 n2 e7', .slice B4 l.length d4], .int .i64 0, .int .i64 0]) (by simp [results, Try.results67, go_sem, q0, q1, q2, q3, q4]) rfl ?_
          rw [HXE.out]
          exact ⟨D5, n1, e5', D7, n2, e7', B4, l.length, d4, rfl, hX8.s5 (by omega) _ _ _ _ _,
            own_s5 (own_base own58 hs4) (own_blk_ne own58 hR8 (by decide)) _ _ _ _ _,
            own_s5 (own_base own8 hs6) (own_blk_ne own8 hR8 (by decide)) _ _ _ _ _,
            own_s5 (own_base own48 (by omega)) (own_blk_ne own48 hR8 (by decide)) _ _ _ _ _⟩
    · have e4 : (e != 0) = true := by simpa using h4
      rw [if_pos h4] at HX1
      have HXE := hd HX1.symm
      clear HX1 h4
      go_upto_region 6 with (first | (go_at_call 74; (with_reducible refine (HS.out _ (h2.ext hX)).mono ?_); rintro e' v1 ⟨rfl, hX1⟩; obtain ⟨q0, q1, q2, q3, q4⟩ := (hP.ext hX1).c5) | (go_at_call 43; (with_reducible refine (RDecode_any A3 n3 c3 code _ (h3.ext (hX.trans hX1)) hc3 (by omega)).mono ?_); rw [HD.out]; rintro e' v2 ⟨B4, n4, d4, hn4, rfl, own4, hX2⟩))
      obtain ⟨f0, f1, f2, f3, f4⟩ := (hR.ext (hX1.trans hX2)).f5
      obtain ⟨g0, g1, g2, g3, g4⟩ := (hR.ext (hX1.trans hX2)).c5
      go_wp2
      obtain ⟨q0, q1, q2, q3, q4⟩ := ((hR.ext (hX1.trans hX2)).s5 (.int .i64 0) (.int .i64 0) (.slice none 0 0) (.slice none 0 0) (.slice none 0 0)).c5
      refine bodyPost_ret (v := .tuple #[.agg #[.int .i64 0, .int .i64 0, .slice none 0 0, .slice none 0 0, .slice none 0 0], .int .i64 (i : Int), .int .i64 e]) (by simp [results, Try.results67, go_sem, q0, q1, q2, q3, q4]) rfl ?_
      rw [HXE.out]
      exact PProgPost.err ((hX.trans (hX1.trans hX2)).s5 (by omega) _ _ _ _ _)
  · have e0 : (s != 0) = true := by simpa using h0
    rw [if_pos h0] at HX1
    have HXE := hd HX1.symm
    clear HX1 h0
    go_upto_region 3 with (go_at_call 74; (with_reducible refine (HS.out _ (h2.ext hX)).mono ?_); rintro e' v1 ⟨rfl, hX1⟩; obtain ⟨q0, q1, q2, q3, q4⟩ := (hP.ext hX1).c5)
    obtain ⟨f0, f1, f2, f3, f4⟩ := (hR.ext hX1).f5
    obtain ⟨g0, g1, g2, g3, g4⟩ := (hR.ext hX1).c5
    go_wp2
    obtain ⟨q0, q1, q2, q3, q4⟩ := ((hR.ext hX1).s5 (.int .i64 0) (.int .i64 0) (.slice none 0 0) (.slice none 0 0) (.slice none 0 0)).c5
    refine bodyPost_ret (v := .tuple #[.agg #[.int .i64 0, .int .i64 0, .slice none 0 0, .slice none 0 0, .slice none 0 0], .int .i64 ((0 : Nat) : Int), .int .i64 s]) (by simp [results, Try.results67, go_sem, q0, q1, q2, q3, q4]) rfl ?_
    rw [HXE.out]
    exact PProgPost.err ((hX.trans hX1).s5 (by omega) _ _ _ _ _)

end Go.Proofs.Ytfcbedkidjclhaa
