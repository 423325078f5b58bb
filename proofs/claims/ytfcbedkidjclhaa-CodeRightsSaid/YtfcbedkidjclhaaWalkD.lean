/-
  The walk of CodeAlone: it answers true.
  Conditions: the list can be read, no more than may be handed in.
-/
import Derived.Test.YtfcbedkidjclhaaWalkB
namespace Go.Proofs.Ytfcbedkidjclhaa
open Go.RowKit
set_option maxRecDepth 100000
set_option linter.unusedSimpArgs false
set_option linter.unusedVariables false

/-- what the loop knows of the list's own answer: at a place ahead of the fault -/
def AloneAt (l : List Cd.Ins) (i : Nat) (e : Int) (k : Nat) : Prop :=
  (e = 0 ∧ i = 0 ∧ Cd.AllRight l ∧ l.length ≤ 4096) ∨ (e ≠ 0 ∧ k ≤ i ∧ i < l.length ∧ ((i = 4096 ∧ e = 25) ∨ (i < 4096 ∧ ∃ x, l[i]? = some x ∧ Cd.right x = e)) ∧ Cd.AllRight (l.take i))

theorem alone_start (l : List Cd.Ins) : AloneAt l (Cd.check l).1 (Cd.check l).2 0 := by
  by_cases h : (Cd.check l).2 = 0
  · obtain ⟨h1, h2⟩ := Cd.check_ok.mp h
    exact .inl ⟨h, by rw [Cd.check_zero h1 h2], h1, h2⟩
  · obtain ⟨h1, h2, h3⟩ := Cd.check_bad (i := (Cd.check l).1) (e := (Cd.check l).2) rfl h
    exact .inr ⟨h, Nat.zero_le _, h1, h3, h2⟩
/-- one instruction by itself -/
theorem encode_one (x : Cd.Ins) : (Cd.right x = 0 ∧ Cd.encode [x] = (Cd.bytes x, 0, 0)) ∨ (Cd.right x ≠ 0 ∧ Cd.encode [x] = ([], 0, Cd.right x)) := by
  by_cases h : Cd.right x = 0
  · refine .inl ⟨h, ?_⟩
    rw [Cd.encode_ok (l := [x]) (by intro y hy; rw [List.mem_singleton.mp hy]; exact h) (by simp), Cd.flat_cons, Cd.flat_nil, List.append_nil]
  · refine .inr ⟨h, ?_⟩
    refine Cd.encode_bad (i := 0) ?_ h
    unfold Cd.check
    rw [Cd.checkFrom, if_neg (by decide), if_pos h]

theorem alone_many {l : List Cd.Ins} {i : Nat} {e : Int} (h : AloneAt l i e 4096) (hk : 4096 < l.length) : e = 25 ∧ i = 4096 := by
  rcases h with ⟨_, _, _, h4⟩ | ⟨_, h1, _, h3 | ⟨h3, _⟩, _⟩
  · omega
  · exact ⟨h3.2, h3.1⟩
  · omega
theorem alone_end {l : List Cd.Ins} {i : Nat} {e : Int} {k : Nat} (h : AloneAt l i e k) (hk : l.length ≤ k) : e = 0 ∧ i = 0 := by
  rcases h with ⟨h1, h2, _⟩ | ⟨_, h1, h2, _⟩
  · exact ⟨h1, h2⟩
  · omega
theorem alone_good {l : List Cd.Ins} {i : Nat} {e : Int} {k : Nat} (h : AloneAt l i e k) (hk : k < l.length) (k4 : k < 4096) (hx : Cd.right l[k] = 0) : AloneAt l i e (k + 1) := by
  rcases h with h | ⟨h0, h1, h2, h3, h5⟩
  · exact .inl h
  · refine .inr ⟨h0, ?_, h2, h3, h5⟩
    rcases Nat.lt_or_ge k i with h | h
    · exact h
    · exfalso
      obtain rfl : i = k := by omega
      rcases h3 with h3 | ⟨_, y, hy, hr⟩
      · omega
      · rw [List.getElem?_eq_getElem hk] at hy
        injection hy with hy
        rw [hy] at hx
        exact h0 (hr.symm.trans hx)
theorem alone_bad {l : List Cd.Ins} {i : Nat} {e : Int} {k : Nat} (h : AloneAt l i e k) (hk : k < l.length) (k4 : k < 4096) (hx : Cd.right l[k] ≠ 0) : e = Cd.right l[k] ∧ i = k ∧ e ≠ 0 := by
  rcases h with ⟨_, _, h3, _⟩ | ⟨h0, h1, h2, h3, h5⟩
  · exact absurd (h3 _ (List.getElem_mem hk)) hx
  · have hik : i = k := by
      rcases Nat.lt_or_ge k i with h | h
      · exfalso
        apply hx
        apply h5
        rw [List.mem_take_iff_getElem]
        exact ⟨k, by omega, rfl⟩
      · omega
    subst hik
    rcases h3 with h3 | ⟨_, y, hy, hr⟩
    · omega
    · rw [List.getElem?_eq_getElem hk] at hy
      injection hy with hy
      rw [hy]
      exact ⟨hr.symm, rfl, h0⟩
theorem flat_take {l : List Cd.Ins} {k : Nat} (hk : k < l.length) : Cd.flat (l.take (k + 1)) = Cd.flat (l.take k) ++ Cd.bytes l[k] := by
  rw [List.take_succ_eq_append_getElem hk, Cd.flat_append, Cd.flat_cons, Cd.flat_nil, List.append_nil]

theorem all_snoc {l : List Cd.Ins} {k : Nat} (h : Cd.AllRight (l.take k)) (hk : k < l.length) (hx : Cd.right l[k] = 0) : Cd.AllRight (l.take (k + 1)) := by
  rw [List.take_succ_eq_append_getElem hk]
  exact h.append (fun z hz => by rw [List.mem_singleton.mp hz]; exact hx)

set_option maxHeartbeats 2000000 in
theorem CodeAlone_any (A : Option Addr) (n c : Nat) (l : List Cd.Ins) (w : World) (hR : Rd w 8 A n (cv l)) (hn : n * 56 ≤ 140737488355328) :
    Calls Try.prog 15 #[.slice A n c] w fun e w' => e = .returned (.bool true) ∧ Ext w w' := by
  have hl : l.length = n := by have := hR.1; rw [cv_length] at this; omega
  subst hl
  obtain ⟨x, i, e, hE⟩ : ∃ x i e, Cd.encode l = (x, i, e) := ⟨_, _, _, rfl⟩
  have hA0 : AloneAt l i e 0 ∧ (e = 0 → x = Cd.flat l) ∧ (e ≠ 0 → x = []) := by
    have h0 := alone_start l
    by_cases h : (Cd.check l).2 = 0
    · obtain ⟨h1, h2⟩ := Cd.check_ok.mp h
      rw [Cd.encode_ok h1 h2] at hE
      rw [Cd.check_zero h1 h2] at h0
      injection hE with a b
      injection b with b d
      subst a b d
      exact ⟨h0, fun _ => rfl, fun h => absurd rfl h⟩
    · rw [Cd.encode_bad (i := (Cd.check l).1) (e := (Cd.check l).2) rfl h] at hE
      injection hE with a b
      injection b with b d
      subst a b d
      exact ⟨h0, fun hz => absurd hz h, fun _ => rfl⟩
  have HE := hd hE
  have HA0 := hd hA0
  clear hE hA0
  obtain ⟨i5, hi0, hz0, hz1, hz2⟩ := info_parts info5
  have HI : Hid (Try.prog.info? 5 = some i5 ∧ i5.zero = some (.int .u8 0) ∧ i5.size = 1 ∧ i5.bytes = 1) := hd ⟨hi0, hz0, hz1, hz2⟩
  clear hi0 hz0 hz1 hz2
  go_enter Try.func15, Try.ntmps15
  go_wp2_with (first | (go_at_call 40; (with_reducible refine (known_any _).mono ?_); rintro e v1 ⟨rfl, hX1⟩) | (go_at_call 50; (with_reducible refine (CEncode_any A l.length c l _ (hR.ext hX1) hn).mono ?_); rw [HE.out]; rintro e v2 ⟨A2, c2, rfl, own2, hX2⟩))
  have rd2 := Rd.of_own own2
  have X2 := hX1.trans hX2
  have hwv := X2.size
  go_loopw [6, 7] (fun b j wr => ∃ (k m : Nat) (B : Option Addr) (d : Nat), k ≤ l.length ∧ m ≤ 16 * k ∧ k ≤ 4096 ∧ j = .int .i64 k ∧ b = .slice B m d ∧ wr.ownsRow v2.heap.size 5 1 (.slice B m d) m (bv (Cd.flat (l.take k))) ∧ Ext v2 wr ∧ Hid (AloneAt l i e k ∧ Cd.AllRight (l.take k))) (fun _ j _ => l.length - (intOf j).toNat)
  case atStart => exact ⟨0, 0, none, 0, by omega, by omega, by omega, rfl, rfl, World.ownsRow_nil _ _ _ _, Ext.refl _, hd ⟨HA0.out.1, by simp [Cd.AllRight]⟩⟩
  case round =>
    obtain ⟨k, m, B, d, hk, hm, hk4, rfl, rfl, ownB, hXr, HF⟩ := hrel
    have XR := X2.trans hXr
    have rdr := rd2.ext hXr
    by_cases hlt : k < l.length
    · by_cases h96 : k = 4096
      · subst h96
        obtain ⟨q1, q2⟩ := alone_many HF.out.1 hlt
        have e1 : (e == 25) = true := by simpa using q1
        have e2 : ((i : Int) == 4096) = true := by simp; omega
        clear q1 q2
        go_wp2
        go_ret
        exact ⟨ret_bool (by simp), XR⟩
      · have b96 : ((k : Int) == 4096) = false := by simp; omega
        obtain ⟨b, o, rfl, hc⟩ := (hR.ext XR).form (by omega) (by omega)
        obtain ⟨i0, i1, i2, i3, i4, i5', i6, i7⟩ := ins_cells hc hlt
        obtain ⟨y, hy⟩ : ∃ y, l[k] = y := ⟨_, rfl⟩
        have HG := hd (fun h => alone_good HF.out.1 hlt (by omega) h : Cd.right l[k] = 0 → AloneAt l i e (k + 1))
        have HB := hd (fun h => alone_bad HF.out.1 hlt (by omega) h : Cd.right l[k] ≠ 0 → e = Cd.right l[k] ∧ i = k ∧ e ≠ 0)
        have HFT := hd (flat_take hlt)
        rw [hy] at i0 i1 i2 i3 i4 i5' i6 i7 HG HB HFT
        have HY := hd hy
        clear hc hy
        rcases encode_one y with ⟨hr, hE1⟩ | ⟨hr, hE1⟩
        · have HE1 := hd hE1
          have HGG := hd (HG.out hr)
          have HRR := hd hr
          clear hE1 HG HB hr
          have hI : ∀ v : World, Rd (v.alloc (.cells #[.int .i64 y.op, .bool y.narrow, .bool y.reg, .int .i64 y.size, .int .i64 y.dst, .int .i64 y.src, .int .i64 y.off, .int .i64 y.imm] 64)) 8 (some ⟨v.heap.size, 0, none⟩) 1 (cv [y]) := fun v => Rd.of_blk (Blk.new v 64 _) rfl
          have hby : (Cd.bytes y).length ≤ 16 := by rw [Cd.bytes_length]; unfold Cd.width; split <;> omega
          go_wp2_with (first | (go_at_call 50; (with_reducible refine (CEncode_any _ 1 1 [y] _ (hI _) (by omega)).mono ?_); rw [HE1.out]; rintro e' v3 ⟨A3, c3, rfl, own3, hX3⟩; have ownB3 := hX3.own (ownB.alloc (.cells #[.int .i64 y.op, .bool y.narrow, .bool y.reg, .int .i64 y.size, .int .i64 y.dst, .int .i64 y.src, .int .i64 y.off, .int .i64 y.imm] 64)); have X3 := (hXr.alloc (.cells #[.int .i64 y.op, .bool y.narrow, .bool y.reg, .int .i64 y.size, .int .i64 y.dst, .int .i64 y.src, .int .i64 y.off, .int .i64 y.imm] 64)).trans hX3) | (at_builtin; refine wpList_app _ rfl _ _ 22 rfl v2.heap.size 5 i5 _ 1 1 Try.underlying22 HI.out.1 HI.out.2.1 HI.out.2.2.1 HI.out.2.2.2 rfl (by omega) (.slice B m d) m (bv (Cd.flat (l.take k))) rfl ownB3 A3 (Cd.bytes y).length c3 (bv (Cd.bytes y)) rfl (Rd.of_own own3) (bv_one _) (by omega) (by omega) (by have := X3.size; omega) ?_; intro v4 w4 own4 hg4 hat4; have app4 := App.of_law hg4 hat4; have X4 := app4.ext_own X3 ownB3 (Nat.le_refl _); obtain ⟨B4, d4, rfl, _⟩ := own_form own4))
          go_roundw
          case rel => exact ⟨k + 1, m + (Cd.bytes y).length, B4, d4, by omega, by omega, by omega, by go_num, rfl, by rw [HFT.out, bv_append]; exact own4, X4, hd ⟨HGG.out, all_snoc HF.out.2 hlt (by rw [HY.out]; exact HRR.out)⟩⟩
          case measure => simp [intOf]; omega
        · obtain ⟨q1, q2, q3⟩ := HB.out hr
          have HE1 := hd hE1
          have e1 : (Cd.right y != 0) = true := by simpa using hr
          have e2 : (e == Cd.right y) = true := by simpa using q1
          have e3 : ((i : Int) == (k : Int)) = true := by simp; omega
          have hx0 := HA0.out.2.2 q3
          have e4 : ((x.length : Int) == 0) = true := by rw [hx0]; rfl
          have hI : ∀ v : World, Rd (v.alloc (.cells #[.int .i64 y.op, .bool y.narrow, .bool y.reg, .int .i64 y.size, .int .i64 y.dst, .int .i64 y.src, .int .i64 y.off, .int .i64 y.imm] 64)) 8 (some ⟨v.heap.size, 0, none⟩) 1 (cv [y]) := fun v => Rd.of_blk (Blk.new v 64 _) rfl
          clear hE1 HG HB hr q1 q2 q3 hx0
          go_wp2_with (go_at_call 50; (with_reducible refine (CEncode_any _ 1 1 [y] _ (hI _) (by omega)).mono ?_); rw [HE1.out]; rintro e' v3 ⟨A3, c3, rfl, own3, hX3⟩)
          go_ret
          exact ⟨ret_bool (by simp), (XR.alloc _).trans hX3⟩
    · obtain rfl : k = l.length := by omega
      obtain ⟨q1, q2⟩ := alone_end HF.out.1 (Nat.le_refl _)
      have hx0 := HA0.out.2.1 q1
      have HX0 := hd hx0
      have e1 : (e == 0) = true := by simpa using q1
      have e2 : ((i : Int) == 0) = true := by simp; omega
      clear q1 q2 hx0
      rw [List.take_length] at ownB
      go_wp2_with (go_at_call 45; (with_reducible refine (sameBytes_any _ _ _ _ _ _ x (Cd.flat l) _ rdr (Rd.of_own ownB)).mono ?_); rw [HX0.out, beq_self_eq_true]; rintro e' v3 ⟨rfl, rfl⟩)
      go_ret
      exact ⟨rfl, XR⟩

end Go.Proofs.Ytfcbedkidjclhaa
