/-
  The contracts of the document's Check, low and bytes of instructions.
  Conditions: the instructions read as a list, their bytes within what may be handed in; the row of bytes is the call's own.
-/
import Derived.Test.YtfcbedkidjclhaaRef5
import Derived.Test.YtfcbedkidjclhaaRef3
import Derived.Test.YtfcbedkidjclhaaRefE
import Derived.Test.YtfcbedkidjclhaaCode7
namespace Go.Proofs.Ytfcbedkidjclhaa
open Go.RowKit
set_option maxRecDepth 100000
set_option linter.unusedSimpArgs false
set_option linter.unusedVariables false

theorem refRight_cells (op sz ds sr of im : Int) (nr rg : Bool) (A : Option Addr) (N c : Nat) (w : World) (hr : Rd w 11 A N (rv Rf.rows)) (hN : N ≤ 1000) :
    Calls Try.prog 47 #[.slice A N c, .agg #[.int .i64 op, .bool nr, .bool rg, .int .i64 sz, .int .i64 ds, .int .i64 sr, .int .i64 of, .int .i64 im]] w fun e w' => e = .returned (.int .i64 (Cd.right ⟨op, nr, rg, sz, ds, sr, of, im⟩)) ∧ Ext w w' := by
  rw [← Rf.right_eq]
  exact refRight_any ⟨op, nr, rg, sz, ds, sr, of, im⟩ A N c w hr hN

set_option maxHeartbeats 1000000 in
theorem RCheck_any (A : Option Addr) (n c : Nat) (l : List Cd.Ins) (w : World) (h : Rd w 8 A n (cv l)) (hn : n * 56 ≤ 140737488355328) :
    Calls Try.prog 99 #[.slice A n c] w fun e w' => e = .returned (.tuple #[.int .i64 ((Cd.check l).1 : Int), .int .i64 (Cd.check l).2]) ∧ Ext w w' := by
  have hl : l.length = n := by have := h.1; rw [cv_length] at this; omega
  have HL := hd hl
  clear hl
  go_enter Try.func99, Try.ntmps99
  go_upto_region 2 with (go_at_call 48; (with_reducible refine (refRows_any _).mono ?_); rintro e W ⟨vr, rfl, hT⟩)
  obtain ⟨Ar, cr, rfl, -⟩ := own_form hT.own
  have hE := hT.app
  have hrr := Rd.of_own hT.own
  clear hT
  go_wp2
  go_loopw [5] (fun i wr => ∃ k : Nat, k ≤ n ∧ i = .int .i64 k ∧ Ext W wr ∧ Hid (Cd.check l = Cd.checkFrom k (l.drop k))) (fun i _ => n - (intOf i).toNat)
  case atStart => exact ⟨0, by omega, rfl, Ext.refl _, hd rfl⟩
  case round =>
    obtain ⟨k, hk, rfl, hX, HE⟩ := hrel
    have hXw := hE.trans hX
    by_cases hlt : k < n
    · obtain ⟨b, o, rfl, hc⟩ := (h.ext hXw).form (by omega) (by omega)
      have hkl : k < l.length := by have := HL.out; omega
      obtain ⟨q0, q1, q2, q3, q4, q5, q6, q7⟩ := ins_cells hc hkl
      clear hc
      have HD := hd (show l.drop k = l[k] :: l.drop (k + 1) from List.drop_eq_getElem_cons hkl)
      obtain ⟨x, hx⟩ : ∃ x, l[k] = x := ⟨_, rfl⟩
      rw [hx] at q0 q1 q2 q3 q4 q5 q6 q7 HD
      clear hx
      obtain ⟨op, nr, rg, sz, ds, sr, of, im⟩ := x
      simp only at q0 q1 q2 q3 q4 q5 q6 q7
      by_cases hm : k = 4096
      · have hb : ((k : Int) == 4096) = true := by simp; omega
        have HM := hd hm
        clear hm
        go_wp2
        go_ret2
        exact ⟨ret_check (by rw [HE.out, HD.out, Cd.checkFrom, if_pos HM.out]) rfl, hXw⟩
      · have hb : ((k : Int) == 4096) = false := by simp; omega
        have HM := hd hm
        clear hm
        obtain ⟨r, hr⟩ : ∃ r, Cd.right ⟨op, nr, rg, sz, ds, sr, of, im⟩ = r := ⟨_, rfl⟩
        have HR := hd hr
        clear hr
        by_cases hz : r = 0
        · have hzb : (r != 0) = false := by simpa using hz
          have HZ := hd hz
          clear hz
          go_wp2_with (go_at_call 47; (with_reducible refine (refRight_cells _ _ _ _ _ _ _ _ Ar 139 cr _ (hrr.ext hX) (by omega)).mono ?_); rw [HR.out]; rintro e w3 ⟨rfl, hX3⟩)
          go_roundw
          case rel => exact ⟨k + 1, by omega, by go_num, hX.trans hX3, hd (by rw [HE.out, HD.out, Cd.checkFrom, if_neg HM.out, if_neg (by rw [HR.out, HZ.out]; simp)])⟩
          case measure => simp [intOf]; omega
        · have hzb : (r != 0) = true := by simpa using hz
          have HZ := hd hz
          clear hz
          go_wp2_with (go_at_call 47; (with_reducible refine (refRight_cells _ _ _ _ _ _ _ _ Ar 139 cr _ (hrr.ext hX) (by omega)).mono ?_); rw [HR.out]; rintro e w3 ⟨rfl, hX3⟩)
          go_ret2
          exact ⟨ret_check (by rw [HE.out, HD.out, Cd.checkFrom, if_neg HM.out, if_pos (by rw [HR.out]; exact HZ.out), HR.out]) rfl, hXw.trans hX3⟩
    · go_wp2
      go_ret2
      exact ⟨ret_check (k := 0) (by rw [HE.out, List.drop_eq_nil_of_le (by have := HL.out; omega)]; rfl) rfl, hXw⟩

theorem and255 (v : Int) : bits .and .i64 v 255 = v % 256 := by
  show IntKind.i64.wrap ((BitVec.ofInt 64 v &&& BitVec.ofInt 64 255).toNat : Int) = _
  rw [BitVec.toNat_and, show (BitVec.ofInt 64 255).toNat = 2 ^ 8 - 1 from rfl, Nat.and_two_pow_sub_one_eq_mod, BitVec.toNat_ofInt, IntKind.wrap_i64]
  omega

/-- a number's lowest bytes, appended -/
theorem rlow_any (A : Option Addr) (n c s : Nat) (s' v : Int) (xs : List UInt8) (base : Nat) (w : World) (h : w.ownsRow base 5 1 (.slice A n c) n (bv xs)) (hb : base ≤ w.heap.size) (hn : n ≤ 140737488000000) (hs : s ≤ 8) (es : s' = (s : Int)) :
    Calls Try.prog 139 #[.slice A n c, .int .i64 v, .int .i64 s'] w fun e w' => ∃ A' c', e = .returned (.slice A' (n + s) c') ∧ w'.ownsRow base 5 1 (.slice A' (n + s) c') (n + s) (bv (xs ++ Pk.low s v)) ∧ App w w' (.slice A n c) (.slice A' (n + s) c') := by
  subst es
  obtain ⟨i0, hi0, hz0, hz1, hz2⟩ := info_parts info5
  go_enter Try.func139, Try.ntmps139
  go_wp2
  go_loopw [0, 1, 7] (fun b u i wr => ∃ (k : Nat) (v' : Int) (A' : Option Addr) (c' : Nat) (don : List UInt8), k ≤ s ∧ i = .int .i64 k ∧ u = .int .i64 v' ∧ b = .slice A' (n + k) c' ∧
      Hid (Pk.low s v = don ++ Pk.low (s - k) v') ∧ wr.ownsRow base 5 1 (.slice A' (n + k) c') (n + k) (bv (xs ++ don)) ∧ App w wr (.slice A n c) (.slice A' (n + k) c'))
    (fun _ _ i _ => s - (intOf i).toNat)
  case atStart => exact ⟨0, v, A, c, [], by omega, rfl, rfl, rfl, hd (by simp), by simpa using h, App.refl _ _⟩
  case round =>
    obtain ⟨k, v', A', c', don, hk, rfl, rfl, rfl, hlow, hown, happ⟩ := hrel
    by_cases hlt : k < s
    · have hsz := happ.size
      have h255 := and255 v'
      go_wp2_with (at_builtin; refine wpList_app _ rfl _ _ 22 rfl base 5 i0 _ 1 1 Try.underlying22 hi0 hz0 hz1 hz2 rfl (by omega) (.slice A' (n + k) c') (n + k) (bv (xs ++ don)) rfl (hown.alloc _) (some ⟨wr.heap.size, 0, none⟩) 1 1 [.int .u8 (v' % 256)] rfl (Rd.one _ _ _) (oneCell_one _ _) (by omega) (by omega) (by simp; omega) ?_; intro v1 w1 hown1 hg1 hat1; have hX := (happ.then_ext (Ext.new wr _)).trans (App.of_law hg1 hat1); obtain ⟨A2, c2, rfl, _⟩ := own_form hown1; clear hg1 hat1 happ hown)
      rw [bv_snoc] at hown1
      go_roundw
      case rel => exact ⟨k + 1, v' / 256, A2, c2, don ++ [Pk.byte v'], by omega, by go_num, rfl, rfl, hd (Pk.low_step hlt hlow.out), by rw [← List.append_assoc]; exact hown1, hX⟩
      case measure => simp [intOf]; omega
    · have hks : k = s := by omega
      subst hks
      have hl := hlow.out
      simp only [Nat.sub_self, Pk.low, List.append_nil] at hl
      have Hl := hd hl
      clear hl
      go_wp2
      go_ret
      exact ⟨A', c', rfl, by rw [Hl.out]; exact hown, happ⟩

end Go.Proofs.Ytfcbedkidjclhaa
