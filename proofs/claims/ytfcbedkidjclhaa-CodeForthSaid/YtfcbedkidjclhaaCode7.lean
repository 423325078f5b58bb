/-
  The contract of package code's Encode.
  Conditions: the instructions read as a list, their bytes within what may be handed in.
-/
import Derived.Test.YtfcbedkidjclhaaCode5
import Derived.Test.YtfcbedkidjclhaaCode6
namespace Go.Proofs.Ytfcbedkidjclhaa
open Go.RowKit
set_option maxRecDepth 100000
set_option linter.unusedSimpArgs false
set_option linter.unusedVariables false

theorem two_cells (k k' : IntKind) (x y : Int) : ∀ u ∈ [Value.int k x, Value.int k' y], u.oneCell' = true := by
  intro u hu
  simp at hu
  rcases hu with rfl | rfl <;> rfl
theorem bv_two (l : List UInt8) (v u : Int) : bv l ++ [Value.int IntKind.u8 (v % 256), Value.int IntKind.u8 (u % 256)] = bv (l ++ [Pk.byte v, Pk.byte u]) := by
  rw [bv_append]
  congr 1
  simp only [bv, List.map_cons, List.map_nil, Pk.byte_toNat]

/-- what code.Encode answers -/
def CEncPost (x : List UInt8 × Nat × Int) (w : World) (e : Ending) (w' : World) : Prop :=
  ∃ A c, e = .returned (.tuple #[.slice A x.1.length c, .int .i64 (x.2.1 : Int), .int .i64 x.2.2]) ∧ w'.ownsRow w.heap.size 5 1 (.slice A x.1.length c) x.1.length (bv x.1) ∧ Ext w w'

set_option maxHeartbeats 1000000 in
theorem CEncode_bad (A : Option Addr) (n c : Nat) (l : List Cd.Ins) (w : World) (h : Rd w 8 A n (cv l)) (hn : n * 56 ≤ 140737488355328) (p : Nat) (r : Int) (hc : Cd.check l = (p, r)) (hr : r ≠ 0) :
    Calls Try.prog 50 #[.slice A n c] w (CEncPost ([], p, r) w) := by
  have HC := hd hc
  have hb : (r != 0) = true := by simpa using hr
  clear hc hr
  go_enter Try.func50, Try.ntmps50
  go_wp2_with (go_at_call 49; (with_reducible refine (Check_any A n c l _ h hn).mono ?_); rw [HC.out]; rintro e w1 ⟨rfl, hX1⟩)
  go_ret3
  exact ⟨none, 0, rfl, World.ownsRow_nil _ _ _ _, hX1⟩

theorem check_len : ∀ (l : List Cd.Ins) (k p : Nat), k ≤ 4096 → Cd.checkFrom k l = (p, 0) → k + l.length ≤ 4096
  | [], k, p, h0, h => by simp; omega
  | x :: l, k, p, h0, h => by
    rw [Cd.checkFrom] at h
    split at h
    · cases h
    · split at h
      · rename_i h2
        injection h with _ h3
        exact absurd h3 h2
      · have := check_len l (k + 1) p (by omega) h
        simp only [List.length_cons]
        omega
theorem bytes_len (x : Cd.Ins) : (Cd.bytes x).length = 8 * Cd.width x := by
  unfold Cd.bytes Cd.width
  split <;> simp [Pk.low_length]
theorem width_le (x : Cd.Ins) : Cd.width x ≤ 2 := by unfold Cd.width; split <;> omega
theorem or_dst (s d : Int) (hs0 : 0 ≤ s) (hs : s ≤ 15) (hd0 : 0 ≤ d) (hd1 : d ≤ 15) : bits .or .i64 (IntKind.i64.wrap (s * 16)) d = s * 16 + d := by
  have e1 : IntKind.i64.wrap (s * 16) = s * 16 := by rw [IntKind.wrap_i64]; omega
  rw [e1]
  obtain ⟨a, rfl⟩ : ∃ a : Nat, s = a := ⟨s.toNat, by omega⟩
  obtain ⟨b, rfl⟩ : ∃ b : Nat, d = b := ⟨d.toNat, by omega⟩
  have := int_or (a * 16) b (by omega) (by omega)
  rw [nat_join 4 (a * 16) b (by omega) (by omega)] at this
  have e2 : ((a * 16 : Nat) : Int) = (a : Int) * 16 := by omega
  rw [← e2, this]
  omega

theorem right_fields {x : Cd.Ins} (h : Cd.right x = 0) : 0 ≤ x.dst ∧ x.dst ≤ 10 ∧ 0 ≤ x.src ∧ x.src ≤ 10 := by
  unfold Cd.right Cd.isReg at h
  split at h
  · cases h
  · split at h
    · cases h
    · split at h
      · cases h
      · grind
theorem opcode_src {x : Cd.Ins} (h0 : 0 ≤ x.src) (h1 : x.src ≤ 10) : 0 ≤ (Cd.opcode x).2.1 ∧ (Cd.opcode x).2.1 ≤ 15 := by
  have hs : ∀ x : Cd.Ins, (Cd.opcode x).2.1 = if x.op = 20 then 0 else if x.op = 21 then 6 else x.src := by
    intro x
    simp only [Cd.opcode, apply_ite Prod.snd, apply_ite Prod.fst]
    repeat' split
    all_goals omega
  rw [hs]
  split
  · omega
  · split <;> omega
theorem check_right : ∀ (l : List Cd.Ins) (k p j : Nat) (h : j < l.length), Cd.checkFrom k l = (p, 0) → Cd.right l[j] = 0
  | [], _, _, _, h, _ => by simp at h
  | x :: l, k, p, j, h, hc => by
    rw [Cd.checkFrom] at hc
    split at hc
    · cases hc
    · split at hc
      · rename_i h2
        injection hc with _ h3
        exact absurd h3 h2
      · rename_i h2
        cases j with
        | zero => simpa using h2
        | succ j => exact check_right l (k + 1) p j (by simpa using h) hc

theorem or_dst' (s d : Int) (hs0 : 0 ≤ s) (hs : s ≤ 15) (hd0 : 0 ≤ d) (hd1 : d ≤ 15) : bits .or .i64 (wrap64 (s * 16)) d = s * 16 + d := by
  have h := or_dst s d hs0 hs hd0 hd1
  rwa [show IntKind.i64.wrap (s * 16) = wrap64 (s * 16) by rw [IntKind.wrap_i64, wrap64]] at h
theorem bytes_eq (x : Cd.Ins) (c s o i : Int) (h : Cd.opcode x = (c, s, o, i)) : Cd.bytes x = ([Pk.byte c, Pk.byte (s * 16 + x.dst)] ++ Pk.low 2 o ++ Pk.low 4 i) ++ (if Cd.wide x.op = true then Pk.low 4 0 ++ Pk.low 4 (Cd.high x) else []) := by
  unfold Cd.bytes
  rw [h]

set_option maxHeartbeats 2000000 in
theorem CEncode_good (A : Option Addr) (n c : Nat) (l : List Cd.Ins) (w : World) (h : Rd w 8 A n (cv l)) (hn : n ≤ 4096) (p : Nat) (hc : Cd.check l = (p, 0)) :
    Calls Try.prog 50 #[.slice A n c] w (CEncPost (l.flatMap Cd.bytes, 0, 0) w) := by
  have hl : l.length = n := by have := h.1; rw [cv_length] at this; omega
  have HL := hd hl
  have HC := hd hc
  clear hl hc
  obtain ⟨i0, hi0, hz0, hz1, hz2⟩ := info_parts info5
  go_enter Try.func50, Try.ntmps50
  go_wp2_with (go_at_call 49; (with_reducible refine (Check_any A n c l _ h (by omega)).mono ?_); rw [HC.out]; rintro e w1 ⟨rfl, hX1⟩)
  go_loopw [2, 25] (fun bb i wr => ∃ (k m : Nat) (B : Option Addr) (d : Nat) (don : List UInt8), k ≤ n ∧ m ≤ 16 * k ∧ i = .int .i64 k ∧ bb = .slice B m d ∧ wr.ownsRow w.heap.size 5 1 (.slice B m d) m (bv don) ∧ Ext w wr ∧ Hid ((l.take k).flatMap Cd.bytes = don)) (fun _ i _ => n - (intOf i).toNat)
  case atStart => exact ⟨0, 0, none, 0, [], by omega, by omega, rfl, rfl, World.ownsRow_nil _ _ _ _, hX1, hd rfl⟩
  case round =>
    obtain ⟨k, m, B, d, don, hk, hm, rfl, rfl, hown, hX, HE⟩ := hrel
    have hszr := hX.size
    by_cases hlt : k < n
    · obtain ⟨b, o, rfl, hc⟩ := (h.ext hX).form (by omega) (by omega)
      have hkl : k < l.length := by have := HL.out; omega
      obtain ⟨q0, q1, q2, q3, q4, q5, q6, q7⟩ := ins_cells hc hkl
      clear hc
      have HD := hd (show l.take (k + 1) = l.take k ++ [l[k]] from List.take_succ_eq_append_getElem hkl)
      have hr := check_right l 0 p k hkl HC.out
      obtain ⟨x, hx⟩ : ∃ x, l[k] = x := ⟨_, rfl⟩
      rw [hx] at q0 q1 q2 q3 q4 q5 q6 q7 HD hr
      clear hx
      obtain ⟨b0, b1, b2, b3⟩ := right_fields hr
      obtain ⟨b4, b5⟩ := opcode_src b2 b3
      obtain ⟨op, nr, rg, sz, ds, sr, of, im⟩ := x
      simp only at q0 q1 q2 q3 q4 q5 q6 q7 b0 b1 b2 b3
      obtain ⟨c0, s0, o0, v0, hp⟩ : ∃ c s o i, Cd.opcode ⟨op, nr, rg, sz, ds, sr, of, im⟩ = (c, s, o, i) := ⟨_, _, _, _, rfl⟩
      rw [hp] at b4 b5
      simp only at b4 b5
      have hor := or_dst s0 ds b4 b5 b0 (by omega)
      have hor' := or_dst' s0 ds b4 b5 b0 (by omega)
      have HB := hd (bytes_eq _ c0 s0 o0 v0 hp)
      have HP := hd hp
      clear hp hr b0 b1 b2 b3 b4 b5
      go_upto_region 7 with (fail)
      refine wp_box64 ?_
      intro W1 hX2 hV
      clear q0 q1 q2 q3 q4 q5 q6 q7
      obtain ⟨t0, t1, t2, t3, t4, t5, t6, t7⟩ := hV.c8
      go_upto_region 8 with (go_at_call 94; (with_reducible refine (opcode_any _ _ _ _ _ _ _ _ _).mono ?_); rw [HP.out]; rintro e w2 ⟨he, hX3⟩; simp only at he; subst he)
      clear t0 t1 t2 t3 t4 t5 t6 t7
      have hV2 := hV.ext hX3
      have X2 := (hX.trans hX2).trans hX3
      have own2 := hX3.own (hX2.own hown)
      have s2 := X2.size
      clear hown hX hX2 hX3 hV
      obtain ⟨t0, t1, t2, t3, t4, t5, t6, t7⟩ := hV2.c8
      go_upto_region 9 with (at_builtin; refine wpList_app _ rfl _ _ 22 rfl w.heap.size 5 i0 _ 1 1 Try.underlying22 hi0 hz0 hz1 hz2 rfl (by omega) (.slice B m d) m (bv don) rfl (own2.alloc _) (some ⟨w2.heap.size, 0, none⟩) 2 2 [.int .u8 (c0 % 256), .int .u8 ((s0 * 16 + ds) % 256)] rfl (Rd.two _ _ _ _) (two_cells _ _ _ _) (by omega) (by omega) (by simp; omega) ?_; intro v1 w3 own3 hg1 hat1; have app3 := (App.of_ext (Ext.new w2 _) _).trans (App.of_law hg1 hat1); have hV3 := app3.blk hV2 (own_blk_ne own2 hV2 (by decide)); have X3 := app3.ext_own X2 own2 (Nat.le_refl _); obtain ⟨B3, d3, rfl, _⟩ := own_form own3)
      rw [bv_two] at own3
      have s3 := X3.size
      clear own2 hV2 app3 X2 hat1 hg1 t0 t1 t2 t3 t4 t5 t6 t7 hor hor' s2
      go_upto_region 11 with (first | (go_at_call 95; (with_reducible refine (cput_any B3 (m + 2) d3 2 2 _ _ w.heap.size _ own3 s3 (by omega) (by omega) rfl).mono ?_); rintro e w4 ⟨B4, d4, rfl, own4, app4⟩; have hV4 := app4.blk hV3 (own_blk_ne own3 hV3 (by decide)); have X4 := app4.ext_own X3 own3 (Nat.le_refl _); have s4 := X4.size) | (go_at_call 95; (with_reducible refine (cput_any B4 (m + 2 + 2) d4 4 4 _ _ w.heap.size _ own4 s4 (by omega) (by omega) rfl).mono ?_); rintro e w5 ⟨B5, d5, rfl, own5, app5⟩; have hV5 := app5.blk hV4 (own_blk_ne own4 hV4 (by decide)); have X5 := app5.ext_own X4 own4 (Nat.le_refl _); have s5 := X5.size))
      clear own3 own4 hV3 hV4 X3 X4 app4 app5 s3 s4
      obtain ⟨t0, t1, t2, t3, t4, t5, t6, t7⟩ := hV5.c8
      cases hw : Cd.wide op with
      | false =>
        go_wp2_with (go_at_call 96; (with_reducible refine (wide_any _ _).mono ?_); rw [hw]; rintro e v ⟨rfl, rfl⟩)
        have HN := hd (show (l.take (k + 1)).flatMap Cd.bytes = don ++ [Pk.byte c0, Pk.byte (s0 * 16 + ds)] ++ Pk.low 2 o0 ++ Pk.low 4 v0 by
          have h1 := HB.out
          simp only [hw] at h1
          rw [HD.out, List.flatMap_append, HE.out, List.flatMap_cons, List.flatMap_nil, h1]
          simp)
        go_roundw
        case rel => exact ⟨k + 1, m + 2 + 2 + 4, B5, d5, _, by omega, by omega, by go_num, rfl, own5, X5, HN⟩
        case measure => simp [intOf]; omega
      | true =>
        by_cases h20 : op = 20
        · have hb20 : (op == 20) = true := by simpa using h20
          have HH := hd (show Cd.high ⟨op, nr, rg, sz, ds, sr, of, im⟩ = im / 4294967296 by simp [Cd.high, h20])
          clear h20
          go_wp2_with (first | (go_at_call 96; (with_reducible refine (wide_any _ _).mono ?_); rw [hw]; rintro e v ⟨rfl, rfl⟩) | (go_at_call 95; (with_reducible refine (cput_any B5 (m + 2 + 2 + 4) d5 4 4 _ _ w.heap.size _ own5 s5 (by omega) (by omega) rfl).mono ?_); rintro e w6 ⟨B6, d6, rfl, own6, app6⟩; have hV6 := app6.blk hV5 (own_blk_ne own5 hV5 (by decide)); have X6 := app6.ext_own X5 own5 (Nat.le_refl _); have s6 := X6.size; obtain ⟨t0, t1, t2, t3, t4, t5, t6, t7⟩ := hV6.c8) | (go_at_call 95; (with_reducible refine (cput_any B6 (m + 2 + 2 + 4 + 4) d6 4 4 _ _ w.heap.size _ own6 s6 (by omega) (by omega) rfl).mono ?_); rintro e w7 ⟨B7, d7, rfl, own7, app7⟩; have X7 := app7.ext_own X6 own6 (Nat.le_refl _)))
          have HN := hd (show (l.take (k + 1)).flatMap Cd.bytes = don ++ [Pk.byte c0, Pk.byte (s0 * 16 + ds)] ++ Pk.low 2 o0 ++ Pk.low 4 v0 ++ Pk.low 4 0 ++ Pk.low 4 (im / 4294967296) by
            have h1 := HB.out
            simp only [hw, HH.out] at h1
            rw [HD.out, List.flatMap_append, HE.out, List.flatMap_cons, List.flatMap_nil, h1]
            simp)
          go_roundw
          case rel => exact ⟨k + 1, m + 2 + 2 + 4 + 4 + 4, B7, d7, _, by omega, by omega, by go_num, rfl, own7, X7, HN⟩
          case measure => simp [intOf]; omega
        · have hb20 : (op == 20) = false := by simpa using h20
          have HH := hd (show Cd.high ⟨op, nr, rg, sz, ds, sr, of, im⟩ = im by simp [Cd.high, h20])
          clear h20
          go_wp2_with (first | (go_at_call 96; (with_reducible refine (wide_any _ _).mono ?_); rw [hw]; rintro e v ⟨rfl, rfl⟩) | (go_at_call 95; (with_reducible refine (cput_any B5 (m + 2 + 2 + 4) d5 4 4 _ _ w.heap.size _ own5 s5 (by omega) (by omega) rfl).mono ?_); rintro e w6 ⟨B6, d6, rfl, own6, app6⟩; have hV6 := app6.blk hV5 (own_blk_ne own5 hV5 (by decide)); have X6 := app6.ext_own X5 own5 (Nat.le_refl _); have s6 := X6.size; obtain ⟨t0, t1, t2, t3, t4, t5, t6, t7⟩ := hV6.c8) | (go_at_call 95; (with_reducible refine (cput_any B6 (m + 2 + 2 + 4 + 4) d6 4 4 _ _ w.heap.size _ own6 s6 (by omega) (by omega) rfl).mono ?_); rintro e w7 ⟨B7, d7, rfl, own7, app7⟩; have X7 := app7.ext_own X6 own6 (Nat.le_refl _)))
          have HN := hd (show (l.take (k + 1)).flatMap Cd.bytes = don ++ [Pk.byte c0, Pk.byte (s0 * 16 + ds)] ++ Pk.low 2 o0 ++ Pk.low 4 v0 ++ Pk.low 4 0 ++ Pk.low 4 (im) by
            have h1 := HB.out
            simp only [hw, HH.out] at h1
            rw [HD.out, List.flatMap_append, HE.out, List.flatMap_cons, List.flatMap_nil, h1]
            simp)
          go_roundw
          case rel => exact ⟨k + 1, m + 2 + 2 + 4 + 4 + 4, B7, d7, _, by omega, by omega, by go_num, rfl, own7, X7, HN⟩
          case measure => simp [intOf]; omega
    · obtain rfl : k = n := by omega
      have HU := hd (show l.flatMap Cd.bytes = don by have := HE.out; rwa [List.take_of_length_le (by have := HL.out; omega)] at this)
      have hm' : don.length = m := by have := (Rd.of_own hown).1; rw [bv_length] at this; omega
      have HM := hd hm'
      clear hm'
      go_wp2
      go_ret3
      refine ⟨B, d, ?_, ?_, hX⟩
      · rw [HU.out, HM.out]
        rfl
      · rw [HU.out, HM.out]
        exact hown

/-- Encode: the bytes, or where and which error, as Cd says -/
theorem CEncode_any (A : Option Addr) (n c : Nat) (l : List Cd.Ins) (w : World) (h : Rd w 8 A n (cv l)) (hn : n * 56 ≤ 140737488355328) :
    Calls Try.prog 50 #[.slice A n c] w (CEncPost (Cd.encode l) w) := by
  have hl : l.length = n := by have := h.1; rw [cv_length] at this; omega
  unfold Cd.encode
  obtain ⟨p, r, hc⟩ : ∃ p r, Cd.check l = (p, r) := ⟨_, _, rfl⟩
  rw [hc]
  by_cases hr : r = 0
  · subst hr
    have := check_len l 0 p (by omega) hc
    rw [if_neg (by simp)]
    exact CEncode_good A n c l w h (by omega) p hc
  · rw [if_pos (by simpa using hr)]
    exact CEncode_bad A n c l w h hn p r hc hr

end Go.Proofs.Ytfcbedkidjclhaa
