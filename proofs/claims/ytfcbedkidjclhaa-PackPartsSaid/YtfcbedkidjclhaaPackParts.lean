/-
  The walk of PackParts: where everything stands: it answers true.
  Conditions: the container's lists can be read, their bytes within what may be handed in.
-/
import Derived.Test.YtfcbedkidjclhaaPackSums
import Derived.Test.YtfcbedkidjclhaaPartsL
import Derived.StillTailTactics
namespace Go.Proofs.Ytfcbedkidjclhaa
open Go.RowKit
set_option maxRecDepth 100000
set_option linter.unusedSimpArgs false
set_option linter.unusedVariables false

theorem cell_byte {w : World} {b o i : Nat} {L : List UInt8} {x : UInt8} (hcc : ∀ j u, (bv L)[j]? = some u → w.cell? ⟨b, o + j, none⟩ = some u) (hi : i < L.length) (hx : L[i] = x) : w.cell? ⟨b, o + i, none⟩ = some (.int .u8 (x.toNat : Int)) := by
  subst hx
  exact hcc i _ (bv_get L i hi)

theorem index55_0 (A B C : Option Addr) (a b c d e f : Nat) (w : World) : (Instr.index 55 (.agg #[.slice A a b, .slice B c d, .slice C e f]) (.int .i64 0)).run Try.prog w = .ok (.slice A a b) w := by
  simp [go_sem, Instr.index, Try.underlying55]
theorem index55_1 (A B C : Option Addr) (a b c d e f : Nat) (w : World) : (Instr.index 55 (.agg #[.slice A a b, .slice B c d, .slice C e f]) (.int .i64 1)).run Try.prog w = .ok (.slice B c d) w := by
  simp [go_sem, Instr.index, Try.underlying55]
theorem index55_2 (A B C : Option Addr) (a b c d e f : Nat) (w : World) : (Instr.index 55 (.agg #[.slice A a b, .slice B c d, .slice C e f]) (.int .i64 2)).run Try.prog w = .ok (.slice C e f) w := by
  simp [go_sem, Instr.index, Try.underlying55]

set_option maxHeartbeats 4000000 in
theorem PackParts_bad (lo hi : Int) (A1 A2 A3 : Option Addr) (n1 n2 n3 c1 c2 c3 : Nat) (data code : List UInt8) (ts : List (Int × Int)) (w : World)
    (h1 : Rd w 1 A1 n1 (bv data)) (h2 : Rd w 2 A2 n2 (tv ts)) (h3 : Rd w 1 A3 n3 (bv code)) (hn1 : n1 ≤ 140737488355328) (hn2 : n2 * 16 ≤ 140737488355328) (hn3 : n3 ≤ 140737488355328)
    (n : Int) (hn : n ≠ 0) (hE : Pk.encode lo hi data ts code = ([], n)) :
    Calls Try.prog 7 #[.agg #[.int .i64 lo, .int .i64 hi, .slice A1 n1 c1, .slice A2 n2 c2, .slice A3 n3 c3]] w fun e w' => e = .returned (.bool true) ∧ Ext w w' := by
  have HE := hd hE
  have hnb : (n != 0) = true := by simpa using hn
  clear hE hn
  go_enter Try.func7, Try.ntmps7
  go_upto_region 1 with (fail)
  refine wp_world (fun W => Ext w W ∧ Blk W w.heap.size 25 #[.int .i64 lo, .int .i64 hi, .slice A1 n1 c1, .slice A2 n2 c2, .slice A3 n3 c3]) ⟨Ext.new _ _, Blk.new _ _ _⟩ ?_
  rintro W ⟨hX, hP⟩
  go_wp2_with (first | (go_at_call 24; (with_reducible refine (awake_any _).mono ?_); rintro e w1 ⟨rfl, hX1⟩; have X1 := hX.trans hX1; obtain ⟨p0, p1, p2, p3, p4⟩ := (hP.ext hX1).c5) | (go_at_call 29; (with_reducible refine (CopyPack_any lo hi A1 A2 A3 n1 n2 n3 c1 c2 c3 data code ts _ (h1.ext X1) (h2.ext X1) (h3.ext X1) hn1 hn2 hn3).mono ?_); rintro e w2 ⟨B1, B2, B3, d1, d2, d3, rfl, o1, o2, o3, hX2⟩; clear p0 p1 p2 p3 p4) | (go_at_call 27; (with_reducible refine (Encode_any lo hi B1 B2 B3 n1 n2 n3 d1 d2 d3 data code ts _ (Rd.of_own o1) (Rd.of_own o2) (Rd.of_own o3) hn1 hn2 hn3).mono ?_); rw [HE.out]; intro e w3 hP3; obtain ⟨A, c, rfl, own1, hc1, rd1, hX3⟩ := hP3.at_ (m := 0) rfl; have X3 := (X1.trans hX2).trans hX3; have Y3 := (hX1.trans hX2).trans hX3; clear hP3 o1 o2 o3))
  go_ret
  exact ⟨rfl, X3⟩

set_option maxHeartbeats 4000000 in
theorem PackParts_good (lo hi : Int) (A1 A2 A3 : Option Addr) (n1 n2 n3 c1 c2 c3 : Nat) (data code : List UInt8) (ts : List (Int × Int)) (w : World)
    (h1 : Rd w 1 A1 n1 (bv data)) (h2 : Rd w 2 A2 n2 (tv ts)) (h3 : Rd w 1 A3 n3 (bv code)) (hn1 : n1 ≤ 140737488355328) (hn2 : n2 * 16 ≤ 140737488355328) (hn3 : n3 ≤ 140737488355328)
    (L : List UInt8) (N : Nat) (x8 x9 x10 x11 : UInt8) (hE : Pk.encode lo hi data ts code = (L, 0)) (hL : L.length = N) (hN : N ≤ 131072) (hN0 : 16 ≤ N) (hH : L.take 8 = [87, 80, 75, 49, 1, 4, 0, 0])
    (hx : ∃ r, L = [87, 80, 75, 49, 1, 4, 0, 0, x8, x9, x10, x11] ++ r) (hlo : (x8.toNat : Int) + 256 * (x9.toNat : Int) = lo) (hhi : (x10.toNat : Int) + 256 * (x11.toNat : Int) = hi)
    (hat : ∀ i, i < 3 → (Pk.sec ts data code i).length ≠ 0 → Pk.At L (Pk.place ts data code i) (2 + i) (Pk.sec ts data code i)) (hend : N = Pk.place ts data code 3 + 4) (hts : ts.length ≤ 8) :
    Calls Try.prog 7 #[.agg #[.int .i64 lo, .int .i64 hi, .slice A1 n1 c1, .slice A2 n2 c2, .slice A3 n3 c3]] w fun e w' => e = .returned (.bool true) ∧ Ext w w' := by
  have HE := hd hE
  have x8l := x8.toNat_lt
  have hwx8 : IntKind.i64.wrap (x8.toNat : Int) = (x8.toNat : Int) := by rw [IntKind.wrap_i64]; omega
  have x9l := x9.toNat_lt
  have hwx9 : IntKind.i64.wrap (x9.toNat : Int) = (x9.toNat : Int) := by rw [IntKind.wrap_i64]; omega
  have x10l := x10.toNat_lt
  have hwx10 : IntKind.i64.wrap (x10.toNat : Int) = (x10.toNat : Int) := by rw [IntKind.wrap_i64]; omega
  have x11l := x11.toNat_lt
  have hwx11 : IntKind.i64.wrap (x11.toNat : Int) = (x11.toNat : Int) := by rw [IntKind.wrap_i64]; omega
  have hwm9 : IntKind.i64.wrap (256 * (x9.toNat : Int)) = 256 * (x9.toNat : Int) := by rw [IntKind.wrap_i64]; omega
  have hws9 : IntKind.i64.wrap ((x8.toNat : Int) + 256 * (x9.toNat : Int)) = lo := by rw [IntKind.wrap_i64, ← hlo]; omega
  have hwm11 : IntKind.i64.wrap (256 * (x11.toNat : Int)) = 256 * (x11.toNat : Int) := by rw [IntKind.wrap_i64]; omega
  have hws11 : IntKind.i64.wrap ((x10.toNat : Int) + 256 * (x11.toNat : Int)) = hi := by rw [IntKind.wrap_i64, ← hhi]; omega
  have HL := hd hL
  have HH := hd hH
  have HX := hd hx
  have HAT := hd hat
  have HEND := hd hend
  have hb8 : (List.take 8 L == [87, 80, 75, 49, 1, 4, 0, 0]) = true := by rw [hH]; rfl
  have hg16 : decide ((N : Int) < 16) = false := by simp; omega
  clear hE hL hH hx hat hend hlo hhi
  go_enter Try.func7, Try.ntmps7
  go_upto_region 1 with (fail)
  refine wp_world (fun W => Ext w W ∧ Blk W w.heap.size 25 #[.int .i64 lo, .int .i64 hi, .slice A1 n1 c1, .slice A2 n2 c2, .slice A3 n3 c3]) ⟨Ext.new _ _, Blk.new _ _ _⟩ ?_
  rintro W ⟨hX, hP⟩
  go_upto_region 6 with (first | (go_at_call 24; (with_reducible refine (awake_any _).mono ?_); rintro e w1 ⟨rfl, hX1⟩; have X1 := hX.trans hX1; obtain ⟨p0, p1, p2, p3, p4⟩ := (hP.ext hX1).c5) | (go_at_call 29; (with_reducible refine (CopyPack_any lo hi A1 A2 A3 n1 n2 n3 c1 c2 c3 data code ts _ (h1.ext X1) (h2.ext X1) (h3.ext X1) hn1 hn2 hn3).mono ?_); rintro e w2 ⟨B1, B2, B3, d1, d2, d3, rfl, o1, o2, o3, hX2⟩; clear p0 p1 p2 p3 p4) | (go_at_call 27; (with_reducible refine (Encode_any lo hi B1 B2 B3 n1 n2 n3 d1 d2 d3 data code ts _ (Rd.of_own o1) (Rd.of_own o2) (Rd.of_own o3) hn1 hn2 hn3).mono ?_); rw [HE.out]; intro e w3 hP3; obtain ⟨A, c, rfl, own1, hc1, rd1, hX3⟩ := hP3.at_ HL.out; have X3 := (X1.trans hX2).trans hX3; have Y3 := (hX1.trans hX2).trans hX3; clear hP3 o1 o2 o3))
  obtain ⟨p0, p1, p2, p3, p4⟩ := (hP.ext Y3).c5
  obtain ⟨b, o, rfl, hcc⟩ := rd1.form (by omega) (by omega)
  have q8 := hcc 8 (.int .u8 (x8.toNat : Int)) (by obtain ⟨r, e⟩ := HX.out; rw [e]; rfl)
  have q9 := hcc 9 (.int .u8 (x9.toNat : Int)) (by obtain ⟨r, e⟩ := HX.out; rw [e]; rfl)
  have q10 := hcc 10 (.int .u8 (x10.toNat : Int)) (by obtain ⟨r, e⟩ := HX.out; rw [e]; rfl)
  have q11 := hcc 11 (.int .u8 (x11.toNat : Int)) (by obtain ⟨r, e⟩ := HX.out; rw [e]; rfl)
  have HCC := hd hcc
  clear hcc
  have rd8 : Rd w3 1 (some ⟨b, o, none⟩) 8 (bv (L.take 8)) := by have := rd1.take (k := 8) (by omega); rwa [Nat.mul_one, bv_take] at this
  have k8 := fun m => run_str (P := Try.prog) (w3.drewN m) 22 9 5 (some ⟨b, o, none⟩) 8 c (L.take 8) Try.underlying22 Try.underlying5 Try.underlying9 (rd8.drewN m)
  have i8 : (8 : Int) ≤ (c : Int) := by omega
  have i9 : (9 : Int) < (N : Int) := by omega
  have i10 : (10 : Int) < (N : Int) := by omega
  have i11 : (11 : Int) < (N : Int) := by omega
  have i7 : (8 : Int) < (N : Int) := by omega
  go_quiet (fail)
  clear k8 i8 i9 i10 i11 i7 q8 q9 q10 q11 hwx8 hwx9 hwx10 hwx11 hwm9 hwm11 hws9 hws11 hb8 hg16 rd8 x8l x9l x10l x11l
  go_wp2
  refine wp_world (fun W4 => Ext w3 W4) ((Ext.refl _).drewN _) ?_
  intro W4 hX4
  have Y4 := Y3.trans hX4
  have X4 := X3.trans hX4
  have hB4 := hP.ext Y4
  have s4 := X3.size
  obtain ⟨i0, hi0, hz0, hz1, hz2⟩ := info_parts info5
  have Hx := hd (show ts.length = n2 by have := h2.1; rw [tv_length] at this; omega)
  clear p0 p1 p2 p3 p4
  go_loopw [5, 6] (fun t i wr => ∃ (k : Nat) (A' : Option Addr) (c' : Nat), k ≤ n2 ∧ i = .int .i64 k ∧ t = .slice A' (2 * k) c' ∧ wr.ownsRow W4.heap.size 5 1 (.slice A' (2 * k) c') (2 * k) (bv (Pk.tabBytes (ts.take k))) ∧ Ext W4 wr) (fun _ i _ => n2 - (intOf i).toNat)
  case atStart => exact ⟨0, none, 0, by omega, rfl, rfl, World.ownsRow_nil _ _ _ _, Ext.refl _⟩
  case round =>
    obtain ⟨k, A', c', hk, rfl, rfl, hown, hXr⟩ := hrel
    have hszr := hXr.size
    obtain ⟨p0, p1, p2, p3, p4⟩ := (hB4.ext hXr).c5
    by_cases hlt : k < n2
    · obtain ⟨b2, o2, rfl, hc⟩ := (h2.ext X4).form (by omega) (by omega)
      have hkx : k < ts.length := by have := Hx.out; omega
      have z0 := hc _ _ (tv_get0 ts k hkx)
      have z1 : W4.cell? ⟨b2, o2 + k * 2 + 1, none⟩ = some (.int .i64 ts[k].2) := hc _ _ (tv_get1 ts k hkx)
      have z3 := hB4.c5.2.2.2.1
      have q0 := hXr.cell z0
      have q1 := hXr.cell z1
      clear hc
      go_upto_region 12 with (fail)
      go_region_held3 (fun w' => w'.cell? ⟨w.heap.size, 3, none⟩ = some (.slice (some ⟨b2, o2, none⟩) n2 c2) ∧ w'.cell? ⟨b2, o2 + k * 2, none⟩ = some (.int .i64 ts[k].1) ∧ w'.cell? ⟨b2, o2 + k * 2 + 1, none⟩ = some (.int .i64 ts[k].2)) (first | exact ⟨p3, q0, q1⟩ | go_keep | exact ⟨hX1.cell z3, hX1.cell z0, hX1.cell z1⟩)
        (first | (refine step_app _ (by rfl) (.tmp 69) (.tmp 84) 22 (by rfl) W4.heap.size 5 i0 _ 1 1 Try.underlying22 hi0 hz0 hz1 hz2 (by rfl) (by omega) (.slice A' (2 * k) c') (2 * k) (bv (Pk.tabBytes (ts.take k))) (by rfl) (by first | exact (Ext.new _ _).own hown | exact ((Ext.refl _).drew.alloc _).own hown | exact (Ext.new _ _).drew.own hown) (some ⟨wr.heap.size, 0, none⟩) 2 2 [.int .u8 (ts[k].1 % 256), .int .u8 (ts[k].2 % 256)] (by rfl) (by first | exact Rd.two _ _ _ _ | exact (Rd.two _ _ _ _).drew) (oneCell_two _ _ _ _) (by omega) (by omega) (by simp; omega) ?_; intro v1 w6 hown1 hg1 hat1; obtain ⟨A6, c6, rfl, _⟩ := own_form hown1; have hX1 : Ext W4 w6 := by first | exact (hXr.alloc _).grown_own ((Ext.new _ _).own hown) hg1 (Nat.le_refl _) | exact (hXr.drew.alloc _).grown_own (((Ext.refl _).drew.alloc _).own hown) hg1 (Nat.le_refl _)))
      rw [bv_snoc2] at hown1
      go_wp2
      go_roundw
      case rel => exact ⟨k + 1, A6, c6, by omega, by go_num, rfl, by rw [Pk.tab_snoc ts k hkx]; exact hown1, hX1⟩
      case measure => simp [intOf]; omega
    · have hkn : k = n2 := by omega
      have e2 : ts.take k = ts := List.take_of_length_le (by rw [Hx.out]; omega)
      rw [e2] at hown
      have X5 := X4.trans hXr
      have Y5 := Y4.trans hXr
      have E5 := hX4.trans hXr
      have hB5 := hP.ext Y5
      have rdT := Rd.of_own hown
      clear hown e2
      obtain ⟨M, hM⟩ : ∃ M, 2 * k = M := ⟨_, rfl⟩
      rw [hM] at rdT ⊢
      have hM16 : M ≤ 16 := by have := Hx.out; omega
      have HT := hd (show (Pk.tabBytes ts).length = M by rw [Pk.tab_length, Hx.out]; omega)
      have HD1 := hd (show data.length = n1 by have := h1.1; rw [bv_length] at this; omega)
      have HD3 := hd (show code.length = n3 by have := h3.1; rw [bv_length] at this; omega)
      clear hM
      go_wp2
      clear hkn hlt p0 p1 p2 p3 p4
      obtain ⟨W5, hW5⟩ : ∃ W5, W5 = wr := ⟨_, rfl⟩
      subst hW5
      go_loopw [7, 8] (fun a i wq => ∃ p j : Nat, a = .int .i64 p ∧ i = .int .i64 j ∧ Ext W5 wq ∧ j ≤ 3 ∧ Hid (p = Pk.place ts data code j)) (fun _ i _ => 3 - (intOf i).toNat)
      case atStart => exact ⟨12, 0, rfl, rfl, Ext.refl _, by omega, hd (by simp [Pk.place])⟩
      case round =>
        obtain ⟨p, j, rfl, rfl, hX6, hj, HP⟩ := hrel
        obtain ⟨p0, p1, p2, p3, p4⟩ := (hB5.ext hX6).c5
        have X6 := X5.trans hX6
        have E6 := E5.trans hX6
        by_cases hj3 : j < 3
        · have hix : ∃ C nc cc, (Instr.index 55 (.agg #[.slice A' M c', .slice A1 n1 c1, .slice A3 n3 c3]) (.int .i64 (j : Int))).run Try.prog wr = .ok (.slice C nc cc) wr ∧ Rd wr 1 C nc (bv (Pk.sec ts data code j)) ∧ (Pk.sec ts data code j).length = nc := by
            rcases (by omega : j = 0 ∨ j = 1 ∨ j = 2) with rfl | rfl | rfl
            · exact ⟨A', M, c', index55_0 A' A1 A3 M c' n1 c1 n3 c3 wr, rdT.ext hX6, HT.out⟩
            · exact ⟨A1, n1, c1, index55_1 A' A1 A3 M c' n1 c1 n3 c3 wr, h1.ext X6, HD1.out⟩
            · exact ⟨A3, n3, c3, index55_2 A' A1 A3 M c' n1 c1 n3 c3 wr, h3.ext X6, HD3.out⟩
          obtain ⟨C, nc, cc, ix, rdC, hnc⟩ := hix
          have HN := hd hnc
          clear hnc
          go_upto_region 18 with (fail)
          clear ix p0 p1 p2 p3 p4
          by_cases hz : nc = 0
          · have hz' : ((nc : Int) == 0) = true := by simp [hz]
            have HZ := hd hz
            clear hz
            go_wp2
            go_roundw
            case rel => exact ⟨p, j + 1, rfl, by go_num, hX6, by omega, hd (by rw [Pk.place_next _ _ _ j hj3, if_pos (HN.out.trans HZ.out)]; exact HP.out)⟩
            case measure => simp [intOf]; omega
          · have hz' : ((nc : Int) == 0) = false := by simp; omega
            have hAt := HAT.out j hj3 (by rw [HN.out]; exact hz)
            rw [← HP.out] at hAt
            obtain ⟨a1, a2, a3, a4⟩ := hAt
            rw [HN.out, HL.out] at a1
            rw [HN.out] at a3 a4
            have hp0 : p < L.length := by have := HL.out; omega
            have hp3 : p + 3 < L.length := by have := HL.out; omega
            have a3' := a3 hp3
            obtain ⟨y1, hy1⟩ : ∃ y, L[p + 1] = y := ⟨_, rfl⟩
            obtain ⟨y2, hy2⟩ : ∃ y, L[p + 2] = y := ⟨_, rfl⟩
            obtain ⟨y3, hy3⟩ : ∃ y, L[p + 3] = y := ⟨_, rfl⟩
            rw [hy1, hy2, hy3] at a3'
            have c0 : wr.cell? ⟨b, o + p, none⟩ = some (.int .u8 (2 + (j : Int))) := by
              have := E6.cell (cell_byte HCC.out hp0 rfl)
              rw [a2 hp0] at this
              rw [this]
              simp
            have d1 := E6.cell (cell_byte HCC.out (i := p + 1) (by omega) hy1)
            have d2 := E6.cell (cell_byte HCC.out (i := p + 2) (by omega) hy2)
            have d3 := E6.cell (cell_byte HCC.out hp3 hy3)
            have y1l := y1.toNat_lt
            have y2l := y2.toNat_lt
            have y3l := y3.toNat_lt
            have rs : Rd wr 1 (some ⟨b, o + (p + 4), none⟩) nc (bv (Pk.sec ts data code j)) := by
              have := ((rd1.ext E6).cut (k := p + 4) (cap := c) (by omega) (by omega)).take (k := nc) (by omega)
              rw [if_neg (by omega), Nat.mul_one, Nat.mul_one, bv_drop, bv_take, a4] at this
              simpa [Addr.add] using this
            have CS := hd (show ∀ m, Calls Try.prog 33 #[.slice (some ⟨b, o + (p + 4), none⟩) nc (c - (p + 4)), .slice C nc cc] (wr.drewN m) fun e w' => e = .returned (.bool true) ∧ w' = wr.drewN m from fun m =>
              (SameBytes_any (some ⟨b, o + (p + 4), none⟩) C nc nc (c - (p + 4)) cc _ _ (wr.drewN m) (rs.drewN m) (rdC.drewN m)).mono fun e w' ⟨he, hw⟩ => ⟨by rw [he]; simp, hw.symm⟩)
            have u0 : IntKind.i64.wrap (2 + (j : Int)) = 2 + (j : Int) := by rw [IntKind.wrap_i64]; omega
            have u1 : IntKind.i64.wrap ((p : Int) + 4) = (p : Int) + 4 := by rw [IntKind.wrap_i64]; omega
            have u2 : IntKind.i64.wrap ((p : Int) + 4 + (nc : Int)) = (p : Int) + 4 + (nc : Int) := by rw [IntKind.wrap_i64]; omega
            have u3 : IntKind.i64.wrap ((p : Int) + 1) = (p : Int) + 1 := by rw [IntKind.wrap_i64]; omega
            have u4 : IntKind.i64.wrap ((p : Int) + 2) = (p : Int) + 2 := by rw [IntKind.wrap_i64]; omega
            have u5 : IntKind.i64.wrap ((p : Int) + 3) = (p : Int) + 3 := by rw [IntKind.wrap_i64]; omega
            have u6 : IntKind.i64.wrap (y1.toNat : Int) = (y1.toNat : Int) := by rw [IntKind.wrap_i64]; omega
            have u7 : IntKind.i64.wrap (y2.toNat : Int) = (y2.toNat : Int) := by rw [IntKind.wrap_i64]; omega
            have u8 : IntKind.i64.wrap (y3.toNat : Int) = (y3.toNat : Int) := by rw [IntKind.wrap_i64]; omega
            have u9 : IntKind.i64.wrap (256 * (y2.toNat : Int)) = 256 * (y2.toNat : Int) := by rw [IntKind.wrap_i64]; omega
            have u10 : IntKind.i64.wrap (65536 * (y3.toNat : Int)) = 65536 * (y3.toNat : Int) := by rw [IntKind.wrap_i64]; omega
            have u11 : IntKind.i64.wrap ((y1.toNat : Int) + 256 * (y2.toNat : Int)) = (y1.toNat : Int) + 256 * (y2.toNat : Int) := by rw [IntKind.wrap_i64]; omega
            have u12 : IntKind.i64.wrap ((y1.toNat : Int) + 256 * (y2.toNat : Int) + 65536 * (y3.toNat : Int)) = (nc : Int) := by rw [IntKind.wrap_i64]; omega
            have v1 : (0 : Int) ≤ (p : Int) + 1 := by omega
            have v2 : (0 : Int) ≤ (p : Int) + 2 := by omega
            have v3 : (0 : Int) ≤ (p : Int) + 3 := by omega
            have v4 : (0 : Int) ≤ (p : Int) + 4 := by omega
            have v5 : (p : Int) < (N : Int) := by omega
            have v6 : (p : Int) + 1 < (N : Int) := by omega
            have v7 : (p : Int) + 2 < (N : Int) := by omega
            have v8 : (p : Int) + 3 < (N : Int) := by omega
            have v9 : (p : Int) + 4 ≤ (p : Int) + 4 + (nc : Int) := by omega
            have v10 : (p : Int) + 4 + (nc : Int) ≤ (c : Int) := by omega
            have v11 : ((p : Int) + 1).toNat = p + 1 := by omega
            have v12 : ((p : Int) + 2).toNat = p + 2 := by omega
            have v13 : ((p : Int) + 3).toNat = p + 3 := by omega
            have v14 : ((p : Int) + 4).toNat = p + 4 := by omega
            have v15 : ((p : Int) + 4 + (nc : Int)).toNat = p + 4 + nc := by omega
            have v16 : p + 4 + nc - (p + 4) = nc := by omega
            have v17 : (0 : Int) ≤ (p : Int) + 4 + (nc : Int) := by omega
            have v18 : (p : Int) + 4 + (nc : Int) - ((p : Int) + 4) = (nc : Int) := by omega
            have g1 : decide ((N : Int) < (p : Int) + 4 + (nc : Int)) = false := by simp; omega
            clear a1 a2 a3 a4 a3' hp0 hp3 hy1 hy2 hy3 y1l y2l y3l rs
            go_upto_region 19 with (fail)
            go_quiet (first | (go_at_call 33; exact Calls.quiet_of_same (CS.out _)))
            go_wp2
            go_roundw
            case rel => exact ⟨p + 4 + nc, j + 1, by go_num, by go_num, hX6.drewN _, by omega, hd (by rw [Pk.place_next _ _ _ j hj3, if_neg (by rw [HN.out]; exact hz), HN.out]; have := HP.out; omega)⟩
            case measure => simp [intOf]; omega
        · have hw : IntKind.i64.wrap ((p : Int) + 4) = (N : Int) := by
            obtain rfl : j = 3 := by omega
            rw [IntKind.wrap_i64]
            have := HP.out
            have := HEND.out
            omega
          clear p0 p1 p2 p3 p4
          go_wp2
          go_ret
          exact ⟨rfl, X6⟩

theorem PackParts_any (lo hi : Int) (A1 A2 A3 : Option Addr) (n1 n2 n3 c1 c2 c3 : Nat) (data code : List UInt8) (ts : List (Int × Int)) (w : World)
    (h1 : Rd w 1 A1 n1 (bv data)) (h2 : Rd w 2 A2 n2 (tv ts)) (h3 : Rd w 1 A3 n3 (bv code)) (hn1 : n1 ≤ 140737488355328) (hn2 : n2 * 16 ≤ 140737488355328) (hn3 : n3 ≤ 140737488355328) :
    Calls Try.prog 7 #[.agg #[.int .i64 lo, .int .i64 hi, .slice A1 n1 c1, .slice A2 n2 c2, .slice A3 n3 c3]] w fun e w' => e = .returned (.bool true) ∧ Ext w w' := by
  rcases enc_cases lo hi data ts code with ⟨n, hn, hE⟩ | ⟨L, N, hE, hL, hN0, hN, hB, hS, hD⟩
  · exact PackParts_bad lo hi A1 A2 A3 n1 n2 n3 c1 c2 c3 data code ts w h1 h2 h3 hn1 hn2 hn3 n hn hE
  · obtain ⟨e8, r, er, elo, ehi⟩ := Pk.head_at lo hi data ts code hS
    have hbl : (Pk.bytes lo hi data ts code).length ≤ 131072 := by rw [← hB]; omega
    have hend := Pk.place_end lo hi data ts code
    rw [← hB, hL] at hend
    exact PackParts_good lo hi A1 A2 A3 n1 n2 n3 c1 c2 c3 data code ts w h1 h2 h3 hn1 hn2 hn3 L N _ _ _ _ hE hL hN hN0 (by rw [hB]; exact e8) ⟨r, by rw [hB]; exact er⟩ elo ehi
      (fun i h3 h0 => by rw [hB]; exact Pk.at_place lo hi data ts code hbl i h3 h0) hend (Pk.sizes_ok hS).2.2.2.1

end Go.Proofs.Ytfcbedkidjclhaa
