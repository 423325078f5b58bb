/-
  The contract of the document's one: the instruction at the beginning of bytes.
  Condition: the bytes can be read and lie ahead of the call; the list is the table.
-/
import Derived.Test.YtfcbedkidjclhaaRef3
import Derived.Test.YtfcbedkidjclhaaRef7
namespace Go.Proofs.Ytfcbedkidjclhaa
open Go.RowKit
set_option maxRecDepth 100000
set_option linter.unusedSimpArgs false
set_option linter.unusedVariables false

theorem results_cell_2slots {P : Program} {fn : Func} {p q r : Tmp} {ty : TypeId} (h : fn.results = #[.cell p ty, .tmp q, .tmp r]) (tmps : Array Value) (w : World) (g : Nat) (t : TypeId) (cs : Array Value) (d : TypeDesc)
    (hp : tmps.getD p undef = .pointer (some ⟨g, 0, none⟩)) (hg : Blk w g t cs)
    (hu : P.underlying ty = some d) (hd : (match d with | .struct _ | .array _ _ => true | _ => false) = true) (hi : (P.info? ty).map (·.size) = some cs.size) :
    (results fn tmps).run P w = .ok (.tuple #[.agg cs, tmps.getD q undef, tmps.getD r undef]) w := by
  have hp' : tmps[p]?.getD undef = .pointer (some ⟨g, 0, none⟩) := by simpa using hp
  simp [results, h, hp', asAddr, run_loadVar_row w g t ty cs (0, 0) d hg hu hd hi]

def OnePost (X : Except Int (Cd.Ins × Nat)) (w : World) (e : Ending) (w' : World) : Prop :=
  (∃ er : Int, X = .error er ∧ e = .returned (.tuple #[.agg (insC Cd.I0), .int .i64 0, .int .i64 er]) ∧ Ext w w') ∨
  (∃ (x : Cd.Ins) (k : Nat), X = .ok (x, k) ∧ e = .returned (.tuple #[.agg (insC x), .int .i64 k, .int .i64 0]) ∧ Ext w w')
theorem one_err {X : Except Int (Cd.Ins × Nat)} {er : Int} {w w' : World} (h : X = .error er) (hX : Ext w w') : OnePost X w (.returned (.tuple #[.agg #[.int .i64 0, .bool false, .bool false, .int .i64 0, .int .i64 0, .int .i64 0, .int .i64 0, .int .i64 0], .int .i64 0, .int .i64 er])) w' :=
  .inl ⟨er, h, rfl, hX⟩
theorem filter_step {l : List Rf.Row} {p : Rf.Row → Bool} {k : Nat} (h : k < l.length) : (l.take (k + 1)).filter p = (l.take k).filter p ++ (if p l[k] = true then [l[k]] else []) := by
  rw [List.take_succ_eq_append_getElem h, List.filter_append]
  congr 1
  by_cases hp : p l[k] = true
  · simp [hp]
  · simp [hp]

theorem u8_cell {bs : List UInt8} {n k : Nat} (hl : bs.length = n) (hk : k < n) : (bv bs)[k]? = some (.int .u8 ((Cd.u8 bs k : Nat) : Int)) := by
  subst hl
  unfold Cd.u8
  simp [bv, hk, List.getD_eq_getElem?_getD]

theorem fs_hit {α β : Type} {f : α → Option β} {l : List α} {k : Nat} {x : β} (h : k < l.length) (hno : (l.take k).findSome? f = none) (hf : f l[k] = some x) : l.findSome? f = some x := by
  have e : l = l.take k ++ (l[k] :: l.drop (k + 1)) := by rw [← List.drop_eq_getElem_cons h, List.take_append_drop]
  generalize l[k] = y at *
  rw [e, List.findSome?_append, hno]
  simp [hf]
theorem fs_miss {α β : Type} {f : α → Option β} {l : List α} {k : Nat} (h : k < l.length) (hno : (l.take k).findSome? f = none) (hf : f l[k] = none) : (l.take (k + 1)).findSome? f = none := by
  rw [List.take_succ_eq_append_getElem h, List.findSome?_append, hno]
  simp [hf]
theorem mem_filt {α : Type} {l m : List α} {p : α → Bool} (h : l.filter p = m) {k : Nat} (hk : k < m.length) : m[k] ∈ l := by
  subst h
  exact (List.mem_filter.mp (List.getElem_mem hk)).1
theorem put_none (a : Act) : a.put none undef = a := rfl
theorem wide_rows : Rf.rows.all (fun y => !(decide (y.op = 20) || decide (y.op = 21)) || decide (y.code = 24)) = true := by decide +kernel
theorem rows_wide {u : Int} {y : Rf.Row} (h : y ∈ Rf.rowsOf u) (ho : y.op = 20 ∨ y.op = 21) : u = 24 := by
  unfold Rf.rowsOf at h
  obtain ⟨h1, h2⟩ := List.mem_filter.mp h
  have h3 := List.all_eq_true.mp wide_rows y h1
  simp only [decide_eq_true_eq] at h2
  rcases ho with ho | ho
  · simp [ho] at h3; omega
  · simp [ho] at h3; omega

set_option maxHeartbeats 8000000 in
theorem one_any (Ar : Option Addr) (cr : Nat) (A : Option Addr) (n c : Nat) (bs : List UInt8) (w : World) (hr : Rd w 11 Ar 139 (rv Rf.rows)) (h : Rd w 1 A n (bv bs)) (hc : n ≤ c) (hn : n ≤ 281474976710656) (hold : ∀ ad, A = some ad → ad.block < w.heap.size ∨ n = 0) :
    Calls Try.prog 86 #[.slice Ar 139 cr, .slice A n c] w (OnePost (Rf.one bs) w) := by
  have hl : bs.length = n := by have := h.1; rw [bv_length] at this; omega
  obtain ⟨X, hX⟩ : ∃ X, Rf.one bs = X := ⟨_, rfl⟩
  rw [hX]
  unfold Rf.one at hX
  rw [hl] at hX
  have HX := hd hX
  clear hX
  go_enter Try.func86, Try.ntmps86
  go_upto_region 1 with (fail)
  refine wp_world (fun W => Ext w W ∧ Blk W w.heap.size 64 #[.int .i64 0, .bool false, .bool false, .int .i64 0, .int .i64 0, .int .i64 0, .int .i64 0, .int .i64 0]) ⟨Ext.new _ _, Blk.new _ _ _⟩ ?_
  obtain ⟨gr, hgr0⟩ : ∃ gr, w.heap.size = gr := ⟨_, rfl⟩
  have hgr : w.heap.size ≤ gr := by omega
  rw [hgr0]
  rintro W ⟨hE, hB⟩
  have hszW := hB.lt
  by_cases h8 : n < 8
  · have hx := HX.out
    rw [if_pos h8] at hx
    have HXE := hd hx.symm
    clear HX hx
    have h8' : (n : Int) < 8 := by omega
    go_wp2_with ((with_reducible refine wl_store64 _ _ _ ?_ ?_ hB ?_ ?_); exact rfl; exact ⟨_, _, _, _, _, _, _, _, rfl⟩; exact rfl; intro cells hcells; obtain rfl := Value.agg.inj hcells; clear hcells)
    refine bodyPost_ret (results_cell_2slots (p := 4) (q := 5) (r := 6) (ty := 64) rfl _ _ gr 64 _ _ rfl (hB.row _) Try.underlying64 rfl (by kernel_rfl)) rfl (one_err HXE.out (hE.row hgr _))
  · have hx := HX.out
    rw [if_neg h8] at hx
    dsimp only at hx
    have hx1 := hx
    clear hx
    obtain ⟨b, o, hA, hcell⟩ := h.form (by omega) (by omega)
    subst hA
    have hb0 := hcell 0 (.int .u8 ((Cd.u8 bs 0 : Nat) : Int)) (u8_cell hl (by omega))
    have hb1 := hcell 1 (.int .u8 ((Cd.u8 bs 1 : Nat) : Int)) (u8_cell hl (by omega))
    rw [Nat.add_zero] at hb0
    have hu0 := Rf.u8_lt bs 0
    have hu1 := Rf.u8_lt bs 1
    have hx : (match Rf.rowsOf (Cd.u8 bs 0 : Nat) with
      | [] => Except.error 21
      | y :: tail => if n < 8 * (if Cd.u8 bs 0 = 24 then 2 else 1) then .error 20
        else if Rf.regs y (Cd.u8 bs 1 % 16 : Nat) (Cd.u8 bs 1 / 16 : Nat) (Cd.fields bs).imm = false then .error 22
        else if (Rf.rowsOf (Cd.u8 bs 0 : Nat)).filter (fun y => Rf.fits y (Cd.u8 bs 1 % 16 : Nat) (Cd.u8 bs 1 / 16 : Nat) (Cd.fields bs).off) = [] ∨ ((if Cd.u8 bs 0 = 24 then 2 else 1) = 2 ∧ (Cd.u8 bs 8 ≠ 0 ∨ Cd.u8 bs 9 ≠ 0 ∨ Cd.u8 bs 10 ≠ 0 ∨ Cd.u8 bs 11 ≠ 0)) then .error 23
        else match ((Rf.rowsOf (Cd.u8 bs 0 : Nat)).filter (fun y => Rf.fits y (Cd.u8 bs 1 % 16 : Nat) (Cd.u8 bs 1 / 16 : Nat) (Cd.fields bs).off)).findSome? (fun y => Rf.read y (Cd.u8 bs 1 % 16 : Nat) (Cd.u8 bs 1 / 16 : Nat) (Cd.fields bs).off (Cd.fields bs).imm (Rf.hiOf bs)) with
          | some x => .ok (x, if Cd.u8 bs 0 = 24 then 2 else 1)
          | none => .error 24) = X := hx1
    clear hx1
    obtain ⟨u0, hu0e⟩ : ∃ x, Cd.u8 bs 0 = x := ⟨_, rfl⟩
    obtain ⟨u1, hu1e⟩ : ∃ x, Cd.u8 bs 1 = x := ⟨_, rfl⟩
    rw [hu0e] at hx hb0 hu0
    rw [hu1e] at hx hb1 hu1
    have HX2 := hd hx
    clear hx HX hu0e hu1e hcell
    have h8' : ¬ (n : Int) < 8 := by omega
    go_upto_region 4 with (fail)
    obtain ⟨RL, hRL⟩ : ∃ RL, Rf.rowsOf (u0 : Nat) = RL := ⟨_, rfl⟩
    have HRL := hd hRL
    clear hRL
    go_wp2
    go_loopw [7, 8] (fun v i wr => ∃ (k m : Nat) (l : List Rf.Row), k ≤ 139 ∧ i = .int .i64 k ∧ m ≤ k ∧ Tab W wr W.heap.size v m l ∧ Hid ((Rf.rows.take k).filter (fun y => decide (y.code = (u0 : Int))) = l)) (fun _ i _ => 139 - (intOf i).toNat)
    case atStart => exact ⟨0, 0, [], by omega, rfl, by omega, Tab.start W, hd rfl⟩
    case round =>
      obtain ⟨k, m, l, hk, rfl, hmk, hO, HL⟩ := hrel
      have hrl : Rf.rows.length = 139 := by decide +kernel
      by_cases hlt : k < 139
      · have rr := (hr.ext hE).ext hO.app
        obtain ⟨br, oq, hAr, hcr⟩ := rr.form (by omega) (by omega)
        have hkl : k < Rf.rows.length := by omega
        obtain ⟨q0, q1, q2, q3, q4, q5, q6, q7, q8, q9, q10⟩ := row_cells hcr hkl
        subst hAr
        clear hcr rr
        have hFS := filter_step (p := fun y => decide (y.code = (u0 : Int))) hkl
        rw [HL.out] at hFS
        obtain ⟨y, hy⟩ : ∃ y, Rf.rows[k] = y := ⟨_, rfl⟩
        rw [hy] at q0 q1 q2 q3 q4 q5 q6 q7 q8 q9 q10 hFS
        have HYY := hd hy
        clear hy
        have d0 := (hE.trans hO.app).cell hb0
        have base_ := hO.le
        obtain ⟨yc, yo, yz, yn, yr, yd, ys, yf, ym, ye, yw⟩ := y
        simp only at q0 q1 q2 q3 q4 q5 q6 q7 q8 q9 q10 hFS
        obtain ⟨t, ht⟩ : ∃ t, (yc == (u0 : Int)) = t := ⟨_, rfl⟩
        have hFS2 : (Rf.rows.take (k + 1)).filter (fun y => decide (y.code = (u0 : Int))) = l ++ (if t = true then [⟨yc, yo, yz, yn, yr, yd, ys, yf, ym, ye, yw⟩] else []) := by
          rw [hFS, ← ht]
          simp
        have HFS := hd hFS2
        clear hFS hFS2
        go_upto_region 7 with (fail)
        go_cut [39] from 30 to 39 (fun v W2 => v = .bool t ∧ ∃ n, W2 = wr.drewN n)
        case first =>
          go_quiet (fail)
          go_wp2
          go_meet
          case rel => exact ⟨by first | rfl | rw [ht], _, rfl⟩
        case rest =>
        obtain ⟨rfl, nq, hw⟩ := hcut
        rw [hw]
        clear hw q0 q1 q2 q3 q4 q5 q6 q7 q8 q9 q10 d0 ht
        have hO2 := hO.ext_ ((Ext.refl wr).drewN nq)
        have hRR := ((hr.ext hE).ext hO2.app)
        have hcr2 := hRR.cells
        have hcr3 : ∀ j u, (rv Rf.rows)[j]? = some u → (wr.drewN nq).cell? ⟨br, oq + j, none⟩ = some u := fun j u hj => by
          have := hcr2 j u hj
          rwa [show (⟨br, oq, none⟩ : Addr).add j = ⟨br, oq + j, none⟩ by unfold Addr.add; split <;> simp_all] at this
        obtain ⟨q0, q1, q2, q3, q4, q5, q6, q7, q8, q9, q10⟩ := row_cells hcr3 (show k < Rf.rows.length by omega)
        rw [HYY.out] at q0 q1 q2 q3 q4 q5 q6 q7 q8 q9 q10
        simp only at q0 q1 q2 q3 q4 q5 q6 q7 q8 q9 q10
        clear hO hcr2 hcr3 hRR
        generalize wr.drewN nq = wr2 at *
        cases t with
        | true =>
          go_wp2_with ((with_reducible refine wl_app134 _ _ W.heap.size _ _ _ hO2 ?_ ?_ ?_ ?_); omega; exact rfl; exact rfl; clear hO2; intro v1 W1 hO3 hA; clear hA)
          go_roundw
          case rel => exact ⟨k + 1, m + 1, _, by omega, by go_num, by omega, hO3, hd HFS.out⟩
          case measure => simp [intOf]; omega
        | false =>
          go_wp2
          go_roundw
          case rel => exact ⟨k + 1, m, _, by omega, by go_num, by omega, hO2, hd (by rw [HFS.out]; simp)⟩
          case measure => simp [intOf]; omega
      · obtain rfl : k = 139 := by omega
        rw [List.take_of_length_le (by omega)] at HL
        obtain rfl : RL = l := HRL.out.symm.trans HL.out
        have hrl2 := hO.own.1
        rw [rv_length] at hrl2
        obtain rfl : m = RL.length := by omega
        clear hrl hrl2 HL hk
        obtain ⟨Al, cl, rfl, -⟩ := own_form hO.own
        have hE1 := hE.trans hO.app
        have hB1 := hB.ext hO.app
        by_cases hR0 : RL = []
        · have hx := HX2.out
          rw [HRL.out, hR0] at hx
          have HXE := hd (show X = .error 21 from hx.symm)
          subst hR0
          clear hx HX2 HRL
          go_wp2_with ((with_reducible refine wl_store64 _ _ _ ?_ ?_ hB1 ?_ ?_); exact rfl; exact ⟨_, _, _, _, _, _, _, _, rfl⟩; exact rfl; intro cells hcells; obtain rfl := Value.agg.inj hcells; clear hcells)
          refine bodyPost_ret (results_cell_2slots (p := 4) (q := 5) (r := 6) (ty := 64) rfl _ _ gr 64 _ _ rfl (hB1.row _) Try.underlying64 rfl (by kernel_rfl)) rfl (one_err HXE.out (hE1.row hgr _))
        · obtain ⟨y0, tl, hRLc⟩ := List.exists_cons_of_ne_nil hR0
          have hx := HX2.out
          rw [HRL.out, hRLc] at hx
          dsimp only at hx
          have hlen : RL.length ≠ 0 := by rw [hRLc]; simp
          have e0 : ((RL.length : Int) == 0) = false := by simp; exact fun e => hlen (by rw [e]; rfl)
          have hl139 : RL.length ≤ 139 := hmk
          have HY0 := hd (show RL[0]? = some y0 by rw [hRLc]; rfl)
          rw [← hRLc] at hx
          obtain ⟨U, hU⟩ : ∃ U, (if u0 = 24 then 2 else 1) = U := ⟨_, rfl⟩
          obtain ⟨D1, hD1⟩ : ∃ D1, u1 % 16 = D1 := ⟨_, rfl⟩
          obtain ⟨S1, hS1⟩ : ∃ S1, u1 / 16 = S1 := ⟨_, rfl⟩
          obtain ⟨Fo, hFo⟩ : ∃ Fo, (Cd.fields bs).off = Fo := ⟨_, rfl⟩
          obtain ⟨Fi, hFi⟩ : ∃ Fi, (Cd.fields bs).imm = Fi := ⟨_, rfl⟩
          have hfir := Rf.imm_range bs
          rw [hFi] at hfir
          rw [hU, hD1, hS1, hFo, hFi] at hx
          have HSo : Hid (Cd.sgn 32768 (Pk.val ((bs.drop 2).take 2)) = Fo) := hd (by rw [← hFo]; simp only [Cd.fields])
          have HSi : Hid (Cd.sgn 2147483648 (Pk.val ((bs.drop 4).take 4)) = Fi) := hd (by rw [← hFi]; simp only [Cd.fields])
          have HX3 := hd hx
          have HU := hd hU
          have hU2 : U = 1 ∨ U = 2 := by split at hU <;> omega
          have eD : (u1 : Int) % 16 = (D1 : Int) := by omega
          have eS : (u1 : Int) / 16 = (S1 : Int) := by omega
          obtain ⟨f0, f1⟩ := hfir
          have hl0 : 0 < RL.length := by omega
          have HMEM := hd (fun y (hy : y ∈ RL) => rows_wide (u := (u0 : Int)) (y := y) (by rw [HRL.out]; exact hy))
          clear hx HX2 hRLc tl hU hD1 hS1 hFo hFi HRL hlen
          have d0 := hE1.cell hb0
          have d1 := hE1.cell hb1
          go_upto_region 11 with (fail)
          obtain ⟨t24, ht24⟩ : ∃ t, ((u0 : Int) == 24) = t := ⟨_, rfl⟩
          go_upto_if 54 with (fail)
          go_cut [9] from 55 to 55 (fun v W2 => v = .int .i64 (U : Int) ∧ W2 = wr)
          case first =>
            cases t24 with
            | true =>
              have hU3 : U = 2 := by rw [← HU.out, if_pos (by have : (u0 : Int) = 24 := (by simpa using ht24); omega)]
              subst hU3
              go_wp2
              go_meet
              case rel => exact ⟨rfl, rfl⟩
            | false =>
              have hU3 : U = 1 := by rw [← HU.out, if_neg (by have : ¬ (u0 : Int) = 24 := (by simpa using ht24); omega)]
              subst hU3
              go_wp2
              go_meet
              case rel => exact ⟨rfl, rfl⟩
          case rest =>
          obtain ⟨rfl, hwc⟩ := hcut
          rw [hwc]
          clear hwc ht24
          by_cases hs : n < 8 * U
          · have hx := HX3.out
            rw [if_pos hs] at hx
            have HXE := hd hx.symm
            have hs' : (n : Int) < 8 * (U : Int) := by omega
            clear hx HX3 hs
            go_wp2_with ((with_reducible refine wl_store64 _ _ _ ?_ ?_ hB1 ?_ ?_); exact rfl; exact ⟨_, _, _, _, _, _, _, _, rfl⟩; exact rfl; intro cells hcells; obtain rfl := Value.agg.inj hcells; clear hcells)
            refine bodyPost_ret (results_cell_2slots (p := 4) (q := 5) (r := 6) (ty := 64) rfl _ _ gr 64 _ _ rfl (hB1.row _) Try.underlying64 rfl (by kernel_rfl)) rfl (one_err HXE.out (hE1.row hgr _))
          · have hx := HX3.out
            rw [if_neg hs] at hx
            have HX4 := hd hx
            have hs' : ¬ (n : Int) < 8 * (U : Int) := by omega
            clear hx HX3
            go_upto_region 20 with (first | (go_at_call 129; (with_reducible refine (signed_any (some ⟨b, o + 2, none⟩) 2 (c - 2) ((bs.drop 2).take 2) 32768 _ ((h.ext hE1).mid (by omega)) (.inl ⟨rfl, rfl⟩)).mono ?_); rw [HSo.out]; rintro e v1 ⟨rfl, hV1⟩) | (go_at_call 129; (with_reducible refine (signed_any (some ⟨b, o + 4, none⟩) 4 (c - 4) ((bs.drop 4).take 4) 2147483648 _ ((h.ext (hE1.trans hV1)).mid (by omega)) (.inr ⟨rfl, rfl⟩)).mono ?_); rw [HSi.out]; rintro e v2 ⟨rfl, hV2⟩))
            have hV := hV1.trans hV2
            have hE2 := hE1.trans hV
            have hB2 := hB1.ext hV
            have hO2 := hO.ext_ hV
            clear hV1 hV2 hO hB1 hE1 d0 d1 hV
            have rl := Rd.of_own hO2.own
            obtain ⟨bl, ol, rfl, hcl⟩ := rl.form (by omega) (by omega)
            obtain ⟨q0, q1, q2, q3, q4, q5, q6, q7, q8, q9, q10⟩ := row_cells hcl hl0
            have hy0 : RL[0] = y0 := by have := HY0.out; rw [List.getElem?_eq_getElem hl0] at this; exact Option.some.inj this
            rw [hy0] at q0 q1 q2 q3 q4 q5 q6 q7 q8 q9 q10
            obtain ⟨zc, zo, zz, zn, zr, zd, zs, zf, zm, ze, zw⟩ := y0
            simp only [Nat.zero_mul, Nat.add_zero] at q0 q1 q2 q3 q4 q5 q6 q7 q8 q9 q10
            obtain ⟨rg, hrg⟩ : ∃ rg, Rf.regs ⟨zc, zo, zz, zn, zr, zd, zs, zf, zm, ze, zw⟩ (D1 : Int) (S1 : Int) Fi = rg := ⟨_, rfl⟩
            have K89 : Hid (∀ W, Calls Try.prog 89 #[.agg #[.int .i64 zc, .int .i64 zo, .int .i64 zz, .bool zn, .bool zr, .int .i64 zd, .int .i64 zs, .int .i64 zf, .int .i64 zm, .int .i64 ze, .bool zw], .int .i64 (D1 : Int), .int .i64 (S1 : Int), .int .i64 Fi] W fun e w' => e = .returned (.bool rg) ∧ Ext W w') := hd fun W => by
              have := regs_any ⟨zc, zo, zz, zn, zr, zd, zs, zf, zm, ze, zw⟩ (D1 : Int) (S1 : Int) Fi W
              rw [hrg] at this
              exact this
            have HRG := hd hrg
            clear hrg hy0 hcl rl HY0
            cases rg with
            | false =>
              have hx := HX4.out
              rw [if_pos HRG.out] at hx
              have HXE := hd hx.symm
              clear hx HX4
              go_wp2_with (first | (go_at_call 89; (with_reducible refine (K89.out _).mono ?_); rintro e v3 ⟨rfl, hV3⟩; have hB3 := hB2.ext hV3) | ((with_reducible refine wl_store64 _ _ _ ?_ ?_ hB3 ?_ ?_); exact rfl; exact ⟨_, _, _, _, _, _, _, _, rfl⟩; exact rfl; intro cells hcells; obtain rfl := Value.agg.inj hcells; clear hcells))
              refine bodyPost_ret (results_cell_2slots (p := 4) (q := 5) (r := 6) (ty := 64) rfl _ _ gr 64 _ _ rfl (hB3.row _) Try.underlying64 rfl (by kernel_rfl)) rfl (one_err HXE.out ((hE2.trans hV3).row hgr _))
            | true =>
              have hx := HX4.out
              rw [if_neg (by rw [HRG.out]; decide)] at hx
              have HX5 := hd hx
              clear hx HX4 HRG
              go_upto_region 23 with (go_at_call 89; (with_reducible refine (K89.out _).mono ?_); rintro e v3 ⟨rfl, hV3⟩)
              have hE3 := hE2.trans hV3
              have hB3 := hB2.ext hV3
              have hO3 := hO2.ext_ hV3
              clear hV3 hE2 hB2 hO2 q0 q1 q2 q3 q4 q5 q6 q7 q8 q9 q10 K89
              obtain ⟨FLt, hFLt⟩ : ∃ FLt, RL.filter (fun y => Rf.fits y (D1 : Int) (S1 : Int) Fo) = FLt := ⟨_, rfl⟩
              have HFLt := hd hFLt
              clear hFLt
              go_wp2
              go_loopw [14, 15] (fun v i wq => ∃ (k m : Nat) (l : List Rf.Row), k ≤ RL.length ∧ i = .int .i64 k ∧ m ≤ k ∧ Tab v3 wq v3.heap.size v m l ∧ Hid ((RL.take k).filter (fun y => Rf.fits y (D1 : Int) (S1 : Int) Fo) = l)) (fun _ i _ => RL.length - (intOf i).toNat)
              case atStart => exact ⟨0, 0, [], by omega, rfl, by omega, Tab.start v3, hd rfl⟩
              case round =>
                obtain ⟨k, m, l, hk, rfl, hmk2, hT, HL2⟩ := hrel
                by_cases hlt : k < RL.length
                · have rl := ((Rd.of_own hO3.own).ext hT.app).cells
                  have rl2 : ∀ j u, (rv RL)[j]? = some u → wr.cell? ⟨bl, ol + j, none⟩ = some u := fun j u hj => by
                    have := rl j u hj
                    rwa [show (⟨bl, ol, none⟩ : Addr).add j = ⟨bl, ol + j, none⟩ by unfold Addr.add; split <;> simp_all] at this
                  obtain ⟨q0, q1, q2, q3, q4, q5, q6, q7, q8, q9, q10⟩ := row_cells rl2 hlt
                  have hFS := filter_step (p := (fun y => Rf.fits y (D1 : Int) (S1 : Int) Fo)) hlt
                  rw [HL2.out] at hFS
                  obtain ⟨y, hy⟩ : ∃ y, RL[k] = y := ⟨_, rfl⟩
                  rw [hy] at q0 q1 q2 q3 q4 q5 q6 q7 q8 q9 q10 hFS
                  clear rl rl2 hy
                  obtain ⟨yc, yo, yz, yn, yr, yd, ys, yf, ym, ye, yw⟩ := y
                  simp only at q0 q1 q2 q3 q4 q5 q6 q7 q8 q9 q10
                  have HFS := hd hFS
                  clear hFS
                  go_upto_region 27 with ((with_reducible refine wl_store134 _ _ _ ?_ ?_ (Blk.new _ _ _) ?_ ?_); exact rfl; exact ⟨_, _, _, _, _, _, _, _, _, _, _, rfl⟩; exact rfl; intro cells hcells; obtain rfl := Value.agg.inj hcells; clear hcells)
                  refine wp_world (fun W => Ext wr W ∧ Blk W wr.heap.size 134 #[.int .i64 yc, .int .i64 yo, .int .i64 yz, .bool yn, .bool yr, .int .i64 yd, .int .i64 ys, .int .i64 yf, .int .i64 ym, .int .i64 ye, .bool yw]) ⟨(Ext.new _ _).row (Nat.le_refl _) _, (Blk.new _ _ _).row _⟩ ?_
                  generalize wr.heap.size = gy
                  rintro Wb ⟨hEb, hD⟩
                  have hT2 := hT.ext_ hEb
                  clear hT q0 q1 q2 q3 q4 q5 q6 q7 q8 q9 q10 hEb
                  obtain ⟨ft, hft⟩ : ∃ ft, Rf.fits ⟨yc, yo, yz, yn, yr, yd, ys, yf, ym, ye, yw⟩ (D1 : Int) (S1 : Int) Fo = ft := ⟨_, rfl⟩
                  have HFT := hd hft
                  clear hft
                  obtain ⟨a1, ha1⟩ : ∃ t, (yd == -1) = t := ⟨_, rfl⟩
                  obtain ⟨a2, ha2⟩ : ∃ t, (yd == (D1 : Int)) = t := ⟨_, rfl⟩
                  obtain ⟨a3, ha3⟩ : ∃ t, (ys == -1) = t := ⟨_, rfl⟩
                  obtain ⟨a4, ha4⟩ : ∃ t, (ys == (S1 : Int)) = t := ⟨_, rfl⟩
                  obtain ⟨a5, ha5⟩ : ∃ t, (yf == -1) = t := ⟨_, rfl⟩
                  obtain ⟨a6, ha6⟩ : ∃ t, (yf == Fo) = t := ⟨_, rfl⟩
                  have hfe : ft = ((a1 || a2) && (a3 || a4) && (a5 || a6)) := by
                    rw [← HFT.out, ← ha1, ← ha2, ← ha3, ← ha4, ← ha5, ← ha6]
                    rfl
                  have HFE := hd hfe
                  clear hfe
                  rw [put_none]
                  go_cut [126] from 96 to 126 (fun v W2 => v = .bool ft ∧ W2 = Wb)
                  case first =>
                    obtain ⟨p0, p1, p2, p3, p4, p5, p6, p7, p8, p9, p10⟩ := hD.c11
                    cases a1 <;> cases a2 <;> cases a3 <;> cases a4 <;> cases a5 <;> cases a6
                    all_goals go_wp2
                    all_goals go_meet
                    all_goals case rel => exact ⟨congrArg Value.bool (by rw [HFE.out]; rfl), rfl⟩
                  case rest =>
                  obtain ⟨rfl, hwc⟩ := hcut
                  rw [hwc]
                  clear hwc ha1 ha2 ha3 ha4 ha5 ha6 HFE
                  have HFS2 : Hid ((RL.take (k + 1)).filter (fun y => Rf.fits y (D1 : Int) (S1 : Int) Fo) = l ++ (if ft = true then [⟨yc, yo, yz, yn, yr, yd, ys, yf, ym, ye, yw⟩] else [])) := hd (by rw [HFS.out, HFT.out])
                  clear HFS HFT
                  obtain ⟨p0, p1, p2, p3, p4, p5, p6, p7, p8, p9, p10⟩ := hD.c11
                  cases ft with
                  | true =>
                    go_wp2_with ((with_reducible refine wl_app134 _ _ v3.heap.size _ _ _ hT2 ?_ ?_ ?_ ?_); omega; exact rfl; exact rfl; clear hT2; intro v1 W1 hO3 hA; clear hA)
                    go_roundw
                    case rel => exact ⟨k + 1, m + 1, _, by omega, by go_num, by omega, hO3, hd HFS2.out⟩
                    case measure => simp [intOf]; omega
                  | false =>
                    go_wp2
                    go_roundw
                    case rel => exact ⟨k + 1, m, _, by omega, by go_num, by omega, hT2, hd (by rw [HFS2.out]; simp)⟩
                    case measure => simp [intOf]; omega
                · obtain rfl : k = RL.length := by omega
                  rw [List.take_of_length_le (by omega)] at HL2
                  obtain rfl : FLt = l := HFLt.out.symm.trans HL2.out
                  have hrl2 := hT.own.1
                  rw [rv_length] at hrl2
                  obtain rfl : m = FLt.length := by omega
                  clear hrl2 HL2 hk hlt
                  obtain ⟨v5, rfl⟩ : ∃ v5, v5 = wr := ⟨_, rfl⟩
                  have hE4 := hE3.trans hT.app
                  have hB4 := hB3.ext hT.app
                  have hx := HX5.out
                  rw [HFLt.out] at hx
                  have HX6 := hd hx
                  clear hx HX5 hE3 hB3
                  obtain ⟨Af, cf, rfl, -⟩ := own_form hT.own
                  obtain ⟨bad, hbad⟩ : ∃ bad, ((FLt.length == 0) || ((U == 2) && ((Cd.u8 bs 8 != 0) || (Cd.u8 bs 9 != 0) || (Cd.u8 bs 10 != 0) || (Cd.u8 bs 11 != 0)))) = bad := ⟨_, rfl⟩
                  have HBAD := hd hbad
                  have HIFF : Hid (bad = true ↔ (FLt = [] ∨ (U = 2 ∧ (Cd.u8 bs 8 ≠ 0 ∨ Cd.u8 bs 9 ≠ 0 ∨ Cd.u8 bs 10 ≠ 0 ∨ Cd.u8 bs 11 ≠ 0)))) := hd (by rw [← hbad]; simp [or_assoc])
                  clear hbad
                  go_upto_region 29 with (fail)
                  go_cut [161] from 131 to 161 (fun v W2 => v = .bool bad ∧ W2 = v5)
                  case first =>
                    obtain ⟨r1, hr1⟩ : ∃ t, ((FLt.length : Int) == 0) = t := ⟨_, rfl⟩
                    have e1 : (FLt.length == 0) = r1 := by rw [← hr1, Bool.eq_iff_iff]; simp
                    have hbb := HBAD.out
                    rw [e1] at hbb
                    rcases hU2 with hU3 | hU3
                    · rw [hU3] at hbb
                      have eu : ((U : Int) == 2) = false := by rw [hU3]; rfl
                      have HBB := hd hbb
                      clear e1 hbb
                      cases r1
                      all_goals go_wp2
                      all_goals go_meet
                      all_goals case rel => exact ⟨congrArg Value.bool (by rw [← HBB.out]; rfl), rfl⟩
                    · rw [hU3] at hbb
                      have eu : ((U : Int) == 2) = true := by rw [hU3]; rfl
                      have hn16 : 16 ≤ n := by omega
                      have hcU := ((h.ext hE4)).cells
                      have cellU : ∀ j, j < n → v5.cell? ⟨b, o + j, none⟩ = some (.int .u8 ((Cd.u8 bs j : Nat) : Int)) := fun j hj => by
                        have := hcU j _ (u8_cell hl hj)
                        rwa [show (⟨b, o, none⟩ : Addr).add j = ⟨b, o + j, none⟩ by unfold Addr.add; split <;> simp_all] at this
                      have w8 := cellU 8 (by omega)
                      have w9 := cellU 9 (by omega)
                      have w10 := cellU 10 (by omega)
                      have w11 := cellU 11 (by omega)
                      clear hcU cellU
                      obtain ⟨x8, hx8⟩ : ∃ x, Cd.u8 bs 8 = x := ⟨_, rfl⟩
                      obtain ⟨x9, hx9⟩ : ∃ x, Cd.u8 bs 9 = x := ⟨_, rfl⟩
                      obtain ⟨x10, hx10⟩ : ∃ x, Cd.u8 bs 10 = x := ⟨_, rfl⟩
                      obtain ⟨x11, hx11⟩ : ∃ x, Cd.u8 bs 11 = x := ⟨_, rfl⟩
                      rw [hx8] at w8 hbb
                      rw [hx9] at w9 hbb
                      rw [hx10] at w10 hbb
                      rw [hx11] at w11 hbb
                      obtain ⟨s8, hs8⟩ : ∃ t, ((x8 : Int) != 0) = t := ⟨_, rfl⟩
                      obtain ⟨s9, hs9⟩ : ∃ t, ((x9 : Int) != 0) = t := ⟨_, rfl⟩
                      obtain ⟨s10, hs10⟩ : ∃ t, ((x10 : Int) != 0) = t := ⟨_, rfl⟩
                      obtain ⟨s11, hs11⟩ : ∃ t, ((x11 : Int) != 0) = t := ⟨_, rfl⟩
                      rw [show (x8 != 0) = s8 by rw [← hs8, Bool.eq_iff_iff]; simp, show (x9 != 0) = s9 by rw [← hs9, Bool.eq_iff_iff]; simp, show (x10 != 0) = s10 by rw [← hs10, Bool.eq_iff_iff]; simp, show (x11 != 0) = s11 by rw [← hs11, Bool.eq_iff_iff]; simp] at hbb
                      have HBB := hd hbb
                      clear e1 hbb hx8 hx9 hx10 hx11
                      cases r1 <;> cases s8 <;> cases s9 <;> cases s10 <;> cases s11
                      all_goals go_wp2
                      all_goals go_meet
                      all_goals case rel => exact ⟨congrArg Value.bool (by rw [← HBB.out]; rfl), rfl⟩
                  case rest =>
                  obtain ⟨rfl, hwc⟩ := hcut
                  rw [hwc]
                  clear hwc HBAD
                  cases bad with
                  | true =>
                    have hx := HX6.out
                    rw [if_pos (HIFF.out.mp rfl)] at hx
                    have HXE := hd hx.symm
                    clear hx HX6 HIFF
                    go_wp2_with ((with_reducible refine wl_store64 _ _ _ ?_ ?_ hB4 ?_ ?_); exact rfl; exact ⟨_, _, _, _, _, _, _, _, rfl⟩; exact rfl; intro cells hcells; obtain rfl := Value.agg.inj hcells; clear hcells)
                    refine bodyPost_ret (results_cell_2slots (p := 4) (q := 5) (r := 6) (ty := 64) rfl _ _ gr 64 _ _ rfl (hB4.row _) Try.underlying64 rfl (by kernel_rfl)) rfl (one_err HXE.out (hE4.row hgr _))
                  | false =>
                    have hx := HX6.out
                    rw [if_neg (fun e => by have := HIFF.out.mpr e; cases this)] at hx
                    have HX7 := hd hx
                    clear hx HX6 HIFF
                    go_wp2
                    go_loopw [17] (fun i wq => ∃ (k : Nat), k ≤ FLt.length ∧ i = .int .i64 k ∧ Ext v5 wq ∧ Hid ((FLt.take k).findSome? (fun y => Rf.read y (D1 : Int) (S1 : Int) Fo Fi (Rf.hiOf bs)) = none)) (fun i _ => FLt.length - (intOf i).toNat)
                    case atStart => exact ⟨0, by omega, rfl, Ext.refl _, hd rfl⟩
                    case round =>
                      obtain ⟨k, hk, rfl, hX8, HNO⟩ := hrel
                      have hB8 := hB4.ext hX8
                      have hE8 := hE4.trans hX8
                      by_cases hlt : k < FLt.length
                      · have rl := ((Rd.of_own hT.own).ext hX8)
                        obtain ⟨bf, of_, hAf, hcf⟩ := rl.form (by omega) (by omega)
                        obtain ⟨q0, q1, q2, q3, q4, q5, q6, q7, q8, q9, q10⟩ := row_cells hcf hlt
                        subst hAf
                        have HIT := hd (fun (x : Cd.Ins) hf => fs_hit (x := x) hlt HNO.out hf)
                        have MISS := hd (fun hf => fs_miss hlt HNO.out hf)
                        have hmem : FLt[k] ∈ RL := mem_filt HFLt.out hlt
                        obtain ⟨y, hy⟩ : ∃ y, FLt[k] = y := ⟨_, rfl⟩
                        rw [hy] at q0 q1 q2 q3 q4 q5 q6 q7 q8 q9 q10 HIT MISS hmem
                        have h16 : y.op = 20 ∨ y.op = 21 → 16 ≤ n := fun ho => by
                          have h24 := HMEM.out y hmem ho
                          have hU3 : U = 2 := by rw [← HU.out, if_pos (by omega)]
                          omega
                        have hold8 : ∀ W2, Ext wr W2 → ∀ ad, (some ⟨b, o, none⟩ : Option Addr) = some ad → ad.block < W2.heap.size ∨ n = 0 := fun W2 hW2 ad e => by
                          rcases hold ad e with h1 | h1
                          · have := hE8.size; have := hW2.size; exact .inl (by omega)
                          · exact .inr h1
                        have k130 : ∀ W2, Ext wr W2 → Calls Try.prog 130 #[.agg (rowC y), .slice (some ⟨b, o, none⟩) n c, .int .i64 (D1 : Int), .int .i64 (S1 : Int), .int .i64 Fo, .int .i64 Fi] W2 (RdPost (Rf.read y (D1 : Int) (S1 : Int) Fo Fi (Rf.hiOf bs)) W2) := fun W2 hW2 =>
                          read_any y (some ⟨b, o, none⟩) n c bs (D1 : Int) (S1 : Int) Fo Fi W2 (h.ext (hE8.trans hW2)) hc (hold8 W2 hW2) h16 f0 f1
                        clear hy rl hcf hmem h16 hold8
                        obtain ⟨yc, yo, yz, yn, yr, yd, ys, yf, ym, ye, yw⟩ := y
                        simp only [rowC] at q0 q1 q2 q3 q4 q5 q6 q7 q8 q9 q10 k130
                        obtain ⟨Zr, hZr⟩ : ∃ Zr, (Rf.read ⟨yc, yo, yz, yn, yr, yd, ys, yf, ym, ye, yw⟩ (D1 : Int) (S1 : Int) Fo Fi (Rf.hiOf bs)) = Zr := ⟨_, rfl⟩
                        rw [hZr] at HIT MISS k130
                        have K130 := hd k130
                        clear hZr k130
                        go_upto_region 35 with (go_at_call 130; (with_reducible refine (K130.out _ (Ext.refl _)).mono ?_); rintro e v6 ⟨ii, bb, rfl, hX6, hz1, hz2⟩; obtain ⟨io, in_, ir, is_, id_, isr, iof, iim⟩ := ii; simp only [insC])
                        refine wp_world (fun W => Ext v6 W ∧ Blk W v6.heap.size 64 #[.int .i64 io, .bool in_, .bool ir, .int .i64 is_, .int .i64 id_, .int .i64 isr, .int .i64 iof, .int .i64 iim]) ⟨Ext.new _ _, Blk.new _ _ _⟩ ?_
                        generalize v6.heap.size = g6
                        rintro W9 ⟨hX9, hI9⟩
                        have hE9 := hE8.trans (hX6.trans hX9)
                        have hB9 := hB8.ext (hX6.trans hX9)
                        have hX89 := hX8.trans (hX6.trans hX9)
                        have HZ1 := hd hz1
                        have HZ2 := hd hz2
                        clear hz1 hz2 hX6 hX9 q0 q1 q2 q3 q4 q5 q6 q7 q8 q9 q10 K130 hE8 hB8
                        obtain ⟨p0, p1, p2, p3, p4, p5, p6, p7⟩ := hI9.c8
                        cases bb with
                        | true =>
                          have hx := HX7.out
                          rw [HIT.out _ (HZ1.out rfl)] at hx
                          have HXE := hd hx.symm
                          clear hx HX7 HIT MISS HZ1 HZ2
                          go_wp2_with ((with_reducible refine wl_store64 _ _ _ ?_ ?_ hB9 ?_ ?_); exact rfl; exact ⟨_, _, _, _, _, _, _, _, rfl⟩; exact rfl; intro cells hcells; obtain rfl := Value.agg.inj hcells; clear hcells)
                          refine bodyPost_ret (results_cell_2slots (p := 4) (q := 5) (r := 6) (ty := 64) rfl _ _ gr 64 _ _ rfl (hB9.row _) Try.underlying64 rfl (by kernel_rfl)) rfl (.inr ⟨⟨io, in_, ir, is_, id_, isr, iof, iim⟩, U, HXE.out, rfl, hE9.row hgr _⟩)
                        | false =>
                          have hms := MISS.out (HZ2.out rfl)
                          have HMS := hd hms
                          clear hms HIT MISS HZ1 HZ2
                          go_wp2
                          go_roundw
                          case rel => exact ⟨k + 1, by omega, by go_num, hX89, HMS⟩
                          case measure => simp [intOf]; omega
                      · obtain rfl : k = FLt.length := by omega
                        have hx := HX7.out
                        rw [List.take_of_length_le (Nat.le_refl _)] at HNO
                        rw [HNO.out] at hx
                        have HXE := hd hx.symm
                        clear hx HX7 HNO
                        go_wp2_with ((with_reducible refine wl_store64 _ _ _ ?_ ?_ hB8 ?_ ?_); exact rfl; exact ⟨_, _, _, _, _, _, _, _, rfl⟩; exact rfl; intro cells hcells; obtain rfl := Value.agg.inj hcells; clear hcells)
                        refine bodyPost_ret (results_cell_2slots (p := 4) (q := 5) (r := 6) (ty := 64) rfl _ _ gr 64 _ _ rfl (hB8.row _) Try.underlying64 rfl (by kernel_rfl)) rfl (one_err HXE.out (hE8.row hgr _))

end Go.Proofs.Ytfcbedkidjclhaa
