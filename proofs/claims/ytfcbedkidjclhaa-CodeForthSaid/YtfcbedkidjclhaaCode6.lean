/-
  Lists of instructions in memory; the contracts of package code's Check and Units.
  Conditions: the instructions read as a list, their bytes within what may be handed in.
-/
import Derived.Test.YtfcbedkidjclhaaCode3
namespace Go.Proofs.Ytfcbedkidjclhaa
open Go.RowKit
set_option maxRecDepth 100000
set_option linter.unusedSimpArgs false
set_option linter.unusedVariables false

def cv (l : List Cd.Ins) : List Value := l.flatMap fun i => (insC i).toList
theorem insC_size (i : Cd.Ins) : (insC i).toList.length = 8 := rfl
theorem cv_length (l : List Cd.Ins) : (cv l).length = l.length * 8 := by
  induction l with
  | nil => rfl
  | cons a l ih => simp only [cv, List.flatMap_cons, List.length_append, insC_size, List.length_cons] at ih ⊢; omega
theorem cv_append (a b : List Cd.Ins) : cv (a ++ b) = cv a ++ cv b := by simp [cv]
theorem cv_get : ∀ (l : List Cd.Ins) (k j : Nat) (h : k < l.length), j < 8 → (cv l)[k * 8 + j]? = (insC l[k])[j]?
  | [], k, j, h, _ => by simp at h
  | a :: l, 0, j, _, hj => by
    have e : cv (a :: l) = (insC a).toList ++ cv l := rfl
    rw [e, List.getElem?_append_left (by rw [insC_size]; omega)]
    simp
  | a :: l, k + 1, j, h, hj => by
    have e : cv (a :: l) = (insC a).toList ++ cv l := rfl
    rw [e, List.getElem?_append_right (by rw [insC_size]; omega), insC_size]
    have := cv_get l k j (by simpa using h) hj
    rw [show (k + 1) * 8 + j - 8 = k * 8 + j by omega, this]
    simp

/-- the cells of one instruction of a list -/
theorem ins_cells {w : World} {b o k : Nat} {l : List Cd.Ins} (hc : ∀ j u, (cv l)[j]? = some u → w.cell? ⟨b, o + j, none⟩ = some u) (h : k < l.length) :
    w.cell? ⟨b, o + k * 8, none⟩ = some (.int .i64 l[k].op) ∧ w.cell? ⟨b, o + k * 8 + 1, none⟩ = some (.bool l[k].narrow) ∧ w.cell? ⟨b, o + k * 8 + 2, none⟩ = some (.bool l[k].reg) ∧ w.cell? ⟨b, o + k * 8 + 3, none⟩ = some (.int .i64 l[k].size) ∧
    w.cell? ⟨b, o + k * 8 + 4, none⟩ = some (.int .i64 l[k].dst) ∧ w.cell? ⟨b, o + k * 8 + 5, none⟩ = some (.int .i64 l[k].src) ∧ w.cell? ⟨b, o + k * 8 + 6, none⟩ = some (.int .i64 l[k].off) ∧ w.cell? ⟨b, o + k * 8 + 7, none⟩ = some (.int .i64 l[k].imm) := by
  refine ⟨hc _ _ (cv_get l k 0 h (by omega)), hc (k * 8 + 1) _ (cv_get l k 1 h (by omega)), hc (k * 8 + 2) _ (cv_get l k 2 h (by omega)), hc (k * 8 + 3) _ (cv_get l k 3 h (by omega)), hc (k * 8 + 4) _ (cv_get l k 4 h (by omega)), hc (k * 8 + 5) _ (cv_get l k 5 h (by omega)), hc (k * 8 + 6) _ (cv_get l k 6 h (by omega)), hc (k * 8 + 7) _ (cv_get l k 7 h (by omega))⟩

theorem ret_check {p : Nat × Int} {k : Nat} {q r : Int} (h : p = (k, r)) (hq : q = (k : Int)) : Ending.returned (.tuple #[.int .i64 q, .int .i64 r]) = .returned (.tuple #[.int .i64 (p.1 : Int), .int .i64 p.2]) := by
  subst h
  subst hq
  rfl

set_option maxHeartbeats 1000000 in
theorem Check_any (A : Option Addr) (n c : Nat) (l : List Cd.Ins) (w : World) (h : Rd w 8 A n (cv l)) (hn : n * 56 ≤ 140737488355328) :
    Calls Try.prog 49 #[.slice A n c] w fun e w' => e = .returned (.tuple #[.int .i64 ((Cd.check l).1 : Int), .int .i64 (Cd.check l).2]) ∧ Ext w w' := by
  have hl : l.length = n := by have := h.1; rw [cv_length] at this; omega
  have HL := hd hl
  clear hl
  go_enter Try.func49, Try.ntmps49
  go_wp2
  go_loopw [9] (fun i wr => ∃ k : Nat, k ≤ n ∧ i = .int .i64 k ∧ Ext w wr ∧ Hid (Cd.check l = Cd.checkFrom k (l.drop k))) (fun i _ => n - (intOf i).toNat)
  case atStart => exact ⟨0, by omega, rfl, Ext.refl _, hd rfl⟩
  case round =>
    obtain ⟨k, hk, rfl, hX, HE⟩ := hrel
    by_cases hlt : k < n
    · obtain ⟨b, o, rfl, hc⟩ := (h.ext hX).form (by omega) (by omega)
      have hkl : k < l.length := by have := HL.out; omega
      obtain ⟨q0, q1, q2, q3, q4, q5, q6, q7⟩ := ins_cells hc hkl
      clear hc
      have HD := hd (show l.drop k = l[k] :: l.drop (k + 1) from List.drop_eq_getElem_cons hkl)
      obtain ⟨x, hx⟩ : ∃ x, l[k] = x := ⟨_, rfl⟩
      rw [hx] at q0 q1 q2 q3 q4 q5 q6 q7 HD
      clear hx
      obtain ⟨op, nr, rg, sz, ds, sr, of, im⟩ := x
      simp only at q0 q1 q2 q3 q4 q5 q6 q7
      by_cases hm : k = 4096
      · have hb : ((k : Int) == 4096) = true := by simp; omega
        have HM := hd hm
        clear hm
        go_wp2
        go_ret2
        exact ⟨ret_check (by rw [HE.out, HD.out, Cd.checkFrom, if_pos HM.out]) rfl, hX.alloc _⟩
      · have hb : ((k : Int) == 4096) = false := by simp; omega
        have HM := hd hm
        clear hm
        obtain ⟨r, hr⟩ : ∃ r, Cd.right ⟨op, nr, rg, sz, ds, sr, of, im⟩ = r := ⟨_, rfl⟩
        have HR := hd hr
        clear hr
        by_cases hz : r = 0
        · have hzb : (r != 0) = false := by simpa using hz
          have HZ := hd hz
          clear hz
          go_wp2_with (go_at_call 93; (with_reducible refine (right_any _ _ _ _ _ _ _ _ _).mono ?_); rw [HR.out]; rintro e w3 ⟨rfl, hX3⟩)
          go_roundw
          case rel => exact ⟨k + 1, by omega, by go_num, (hX.alloc _).trans hX3, hd (by rw [HE.out, HD.out, Cd.checkFrom, if_neg HM.out, if_neg (by rw [HR.out, HZ.out]; simp)])⟩
          case measure => simp [intOf]; omega
        · have hzb : (r != 0) = true := by simpa using hz
          have HZ := hd hz
          clear hz
          go_wp2_with (go_at_call 93; (with_reducible refine (right_any _ _ _ _ _ _ _ _ _).mono ?_); rw [HR.out]; rintro e w3 ⟨rfl, hX3⟩)
          go_ret2
          exact ⟨ret_check (by rw [HE.out, HD.out, Cd.checkFrom, if_neg HM.out, if_pos (by rw [HR.out]; exact HZ.out), HR.out]) rfl, (hX.alloc _).trans hX3⟩
    · go_wp2
      go_ret2
      exact ⟨ret_check (k := 0) (by rw [HE.out, List.drop_eq_nil_of_le (by have := HL.out; omega)]; rfl) rfl, hX⟩

theorem info3 : (Try.prog.info? 3).map (fun i => (i.zero, i.size, i.bytes)) = some (some (.int .i64 0), 1, 8) := by kernel_rfl
/-- numbers as a list of ints -/
def nv (l : List Nat) : List Value := iv (l.map fun (n : Nat) => (n : Int))
theorem nv_snoc (l : List Nat) (n : Nat) : nv l ++ [Value.int IntKind.i64 (n : Int)] = nv (l ++ [n]) := by simp [nv, iv]

theorem unitsFrom_head : ∀ (l : List Cd.Ins) (m : Nat), Cd.unitsFrom m l = m :: (Cd.unitsFrom m l).tail
  | [], _ => rfl
  | _ :: _, _ => rfl
theorem units_step {u don : List Nat} {m : Nat} {x : Cd.Ins} {r : List Cd.Ins} (h : u = don ++ (Cd.unitsFrom m (x :: r)).tail) : u = (don ++ [m + Cd.width x]) ++ (Cd.unitsFrom (m + Cd.width x) r).tail := by
  rw [h]
  have e : (Cd.unitsFrom m (x :: r)).tail = Cd.unitsFrom (m + Cd.width x) r := rfl
  rw [e, unitsFrom_head r]
  simp
theorem Rd.one' (w : World) (o : Obj) (x : Value) (t : TypeId) : Rd ((w.alloc o).alloc (.cells #[x] t)) 1 (some ⟨w.heap.size + 1, 0, none⟩) 1 [x] := by
  have := Rd.one (w.alloc o) x t
  simpa using this
theorem oneCell_int (x : Int) : ∀ u ∈ [Value.int .i64 x], u.oneCell' = true := by
  intro u hu
  simp at hu
  subst hu
  rfl
theorem unitsFrom_length : ∀ (l : List Cd.Ins) (n : Nat), (Cd.unitsFrom n l).length = l.length + 1
  | [], _ => rfl
  | x :: l, n => by rw [Cd.unitsFrom, List.length_cons, unitsFrom_length l, List.length_cons]

set_option maxHeartbeats 1000000 in
theorem Units_any (A : Option Addr) (n c : Nat) (l : List Cd.Ins) (w : World) (h : Rd w 8 A n (cv l)) (hn : n * 56 ≤ 140737488355328) :
    Calls Try.prog 51 #[.slice A n c] w fun e w' => ∃ B d, e = .returned (.slice B (n + 1) d) ∧ w'.ownsRow w.heap.size 3 1 (.slice B (n + 1) d) (n + 1) (nv (Cd.units l)) ∧ Ext w w' := by
  have hl : l.length = n := by have := h.1; rw [cv_length] at this; omega
  have HL := hd hl
  clear hl
  obtain ⟨i0, hi0, hz0, hz1, hz2⟩ := info_parts info3
  go_enter Try.func51, Try.ntmps51
  go_wp2
  refine wp_world (fun W => Ext w W ∧ W.ownsRow w.heap.size 3 1 (.slice (some ⟨w.heap.size, 0, none⟩) 1 1) 1 (nv [0])) ⟨Ext.new _ _, ?_⟩ ?_
  · exact ⟨by simp [nv, iv], .inr ⟨w.heap.size, 1, #[.int .i64 0], rfl, Nat.le_refl _, Blk.new _ _ _, Nat.le_refl _, by decide, rfl, rfl⟩⟩
  rintro W ⟨hXW, hown0⟩
  go_loopw [3, 4, 10] (fun out nn i wr => ∃ (k m : Nat) (B : Option Addr) (d : Nat) (don : List Nat), k ≤ n ∧ m ≤ 2 * k ∧ i = .int .i64 k ∧ nn = .int .i64 m ∧ out = .slice B (k + 1) d ∧ wr.ownsRow w.heap.size 3 1 (.slice B (k + 1) d) (k + 1) (nv don) ∧ Ext w wr ∧ Hid (Cd.units l = don ++ (Cd.unitsFrom m (l.drop k)).tail)) (fun _ _ i _ => n - (intOf i).toNat)
  case atStart => exact ⟨0, 0, _, 1, [0], by omega, by omega, rfl, rfl, rfl, hown0, hXW, hd (by rw [List.drop_zero]; exact unitsFrom_head l 0)⟩
  case round =>
    obtain ⟨k, m, B, d, don, hk, hm, rfl, rfl, rfl, hown, hX, HE⟩ := hrel
    have hszr := hX.size
    by_cases hlt : k < n
    · obtain ⟨b, o, rfl, hc⟩ := (h.ext hX).form (by omega) (by omega)
      have hkl : k < l.length := by have := HL.out; omega
      obtain ⟨q0, q1, q2, q3, q4, q5, q6, q7⟩ := ins_cells hc hkl
      clear hc
      have HD := hd (show l.drop k = l[k] :: l.drop (k + 1) from List.drop_eq_getElem_cons hkl)
      obtain ⟨x, hx⟩ : ∃ x, l[k] = x := ⟨_, rfl⟩
      rw [hx] at q0 q1 q2 q3 q4 q5 q6 q7 HD
      clear hx
      obtain ⟨op, nr, rg, sz, ds, sr, of, im⟩ := x
      simp only at q0 q1 q2 q3 q4 q5 q6 q7
      have HE2 := hd (units_step (by rw [HE.out, HD.out] : Cd.units l = don ++ (Cd.unitsFrom m (⟨op, nr, rg, sz, ds, sr, of, im⟩ :: l.drop (k + 1))).tail))
      cases hw : Cd.wide op with
      | false =>
        have HW := hd (show Cd.width ⟨op, nr, rg, sz, ds, sr, of, im⟩ = 1 by simp [Cd.width, hw])
        go_wp2_with (first | (go_at_call 96; (with_reducible refine (wide_any _ _).mono ?_); rw [hw]; rintro e v ⟨rfl, rfl⟩) | (at_builtin; refine wpList_app _ rfl _ _ 31 rfl w.heap.size 3 i0 _ 1 8 Try.underlying31 hi0 hz0 hz1 hz2 rfl (by omega) (.slice B (k + 1) d) (k + 1) (nv don) rfl ((hown.alloc _).alloc _) (some ⟨wr.heap.size + 1, 0, none⟩) 1 1 [.int .i64 ((m : Int) + 1)] rfl (Rd.one' _ _ _ _) (oneCell_int _) (by omega) (by omega) (by simp; omega) ?_; intro v1 w2 hown1 hg1 hat1; have hX1 := ((hX.alloc _).alloc _).grown_own ((hown.alloc _).alloc _) hg1 (Nat.le_refl _); obtain ⟨A3, c3, rfl, _⟩ := own_form hown1))
        go_roundw
        case rel => exact ⟨k + 1, m + 1, A3, c3, don ++ [m + 1], by omega, by omega, by go_num, by go_num, rfl, by rw [← nv_snoc]; exact hown1, hX1, hd (by have := HE2.out; rw [HW.out] at this; exact this)⟩
        case measure => simp [intOf]; omega
      | true =>
        have HW := hd (show Cd.width ⟨op, nr, rg, sz, ds, sr, of, im⟩ = 2 by simp [Cd.width, hw])
        go_wp2_with (first | (go_at_call 96; (with_reducible refine (wide_any _ _).mono ?_); rw [hw]; rintro e v ⟨rfl, rfl⟩) | (at_builtin; refine wpList_app _ rfl _ _ 31 rfl w.heap.size 3 i0 _ 1 8 Try.underlying31 hi0 hz0 hz1 hz2 rfl (by omega) (.slice B (k + 1) d) (k + 1) (nv don) rfl ((hown.alloc _).alloc _) (some ⟨wr.heap.size + 1, 0, none⟩) 1 1 [.int .i64 ((m : Int) + 1 + 1)] rfl (Rd.one' _ _ _ _) (oneCell_int _) (by omega) (by omega) (by simp; omega) ?_; intro v1 w2 hown1 hg1 hat1; have hX1 := ((hX.alloc _).alloc _).grown_own ((hown.alloc _).alloc _) hg1 (Nat.le_refl _); obtain ⟨A3, c3, rfl, _⟩ := own_form hown1))
        go_roundw
        case rel => exact ⟨k + 1, m + 2, A3, c3, don ++ [m + 2], by omega, by omega, by go_num, by go_num, rfl, by rw [← nv_snoc]; exact hown1, hX1, hd (by have := HE2.out; rw [HW.out] at this; exact this)⟩
        case measure => simp [intOf]; omega
    · obtain rfl : k = n := by omega
      have hlk := HL.out
      have e0 : l.drop k = [] := List.drop_eq_nil_of_le (by omega)
      have HU := hd (show Cd.units l = don by rw [HE.out, e0]; simp [Cd.unitsFrom])
      clear hlk e0
      go_wp2
      go_ret
      exact ⟨B, d, rfl, by rw [HU.out]; exact hown, hX⟩

end Go.Proofs.Ytfcbedkidjclhaa
