/-
  The contract of pack's (*reader).contents: the tables (kind 2).
  Conditions: as in Dec1.
-/
import Derived.Test.YtfcbedkidjclhaaDec1
import Derived.Deep.RegionLaw
namespace Go.Proofs.Ytfcbedkidjclhaa
open Go.RowKit
set_option maxRecDepth 100000
set_option linter.unusedSimpArgs false
set_option linter.unusedVariables false

theorem own_own_ne {w : World} {base base' m n s s' : Nat} {xs ys : List Value} {e e' : TypeId} {u v : Value} (h : w.ownsRow base e s u m xs) (h' : w.ownsRow base' e' s' v n ys) (hne : e ≠ e') : u.ownBlock = none ∨ u.ownBlock ≠ v.ownBlock := by
  rcases h.2 with ⟨rfl, _⟩ | ⟨g, cap, cur, rfl, _, hh, _⟩
  · exact .inl rfl
  · refine .inr fun he => ?_
    rcases h'.2 with ⟨rfl, _⟩ | ⟨g', cap', cur', rfl, _, hh', _⟩
    · cases he
    · have : g = g' := by simpa [Value.ownBlock] using he
      subst this
      rw [hh] at hh'
      injection hh' with h1
      injection h1 with _ h2
      exact hne h2

theorem drop_two {l : List UInt8} {j : Nat} (h : j + 1 < l.length) : l.drop j = l[j] :: l[j + 1] :: l.drop (j + 2) := by
  rw [List.drop_eq_getElem_cons (by omega), List.drop_eq_getElem_cons h]
theorem tabs_bad0 {s j : Nat} {cs : List UInt8} {x y : UInt8} {don : List (Int × Int)} (hj : j + 1 < cs.length) (hx : cs[j] = x) (hy : cs[j + 1] = y) (h : Pk.tabs s cs = match Pk.tabs (s + j) (cs.drop j) with | .error e => .error e | .ok ts => .ok (don ++ ts))
    (hb : ¬ (1 ≤ x.toNat ∧ x.toNat ≤ 64)) : Pk.tabs s cs = .error (s + j, 122) := by
  rw [h, drop_two hj, hx, hy, Pk.tabs, if_pos (by simp [Pk.badB]; omega)]
theorem tabs_bad1 {s j : Nat} {cs : List UInt8} {x y : UInt8} {don : List (Int × Int)} (hj : j + 1 < cs.length) (hx : cs[j] = x) (hy : cs[j + 1] = y) (h : Pk.tabs s cs = match Pk.tabs (s + j) (cs.drop j) with | .error e => .error e | .ok ts => .ok (don ++ ts))
    (hb : 1 ≤ x.toNat ∧ x.toNat ≤ 64) (hb' : Pk.badB y = true) : Pk.tabs s cs = .error (s + j + 1, 122) := by
  rw [h, drop_two hj, hx, hy, Pk.tabs, if_neg (by simp [Pk.badB]; omega), if_pos hb']
theorem tabs_good {s j : Nat} {cs : List UInt8} {x y : UInt8} {don : List (Int × Int)} (hj : j + 1 < cs.length) (hx : cs[j] = x) (hy : cs[j + 1] = y) (h : Pk.tabs s cs = match Pk.tabs (s + j) (cs.drop j) with | .error e => .error e | .ok ts => .ok (don ++ ts))
    (hb : 1 ≤ x.toNat ∧ x.toNat ≤ 64) (hb' : Pk.badB y = false) : Pk.tabs s cs = match Pk.tabs (s + (j + 2)) (cs.drop (j + 2)) with | .error e => .error e | .ok ts => .ok (don ++ [((x.toNat : Int), (y.toNat : Int))] ++ ts) := by
  rw [h, drop_two hj, hx, hy, Pk.tabs, if_neg (by simp [Pk.badB]; omega), if_neg (by simp [hb']), show s + j + 2 = s + (j + 2) from by omega]
  cases Pk.tabs (s + (j + 2)) (cs.drop (j + 2)) <;> simp
theorem wrong_bad {x y : UInt8} (hb : 1 ≤ x.toNat ∧ x.toNat ≤ 64) : Pk.wrongB ((x.toNat : Int), (y.toNat : Int)) = Pk.badB y := by
  simp only [Pk.wrongB, Pk.badB]
  have h1 : decide ((x.toNat : Int) < 1) = false := decide_eq_false (by omega)
  have h2 : decide (64 < (x.toNat : Int)) = false := decide_eq_false (by omega)
  rw [h1, h2]
  simp only [Bool.false_or]
  congr 1 <;> exact decide_eq_decide.2 (by omega)
theorem ContPost.err_tabs {cs : List UInt8} {s : Nat} {c : Pk.C} {w0 w w' : World} {g L pos kind p : Nat} {q n : Int} {A : Option Addr} (h : Pk.tabs s cs = .error (p, n)) (hq : q = p) (hX : Ext w0 w') (hK : K121 w w') : ContPost (Pk.cont 2 cs s c) w0 w g A L pos kind (.returned (.tuple #[.agg #[.int .i64 q, .int .i64 n], .bool false])) w' := by
  subst hq
  exact ContPost.err (by unfold Pk.cont; rw [if_neg (by decide), if_pos rfl, h]) hX hK

theorem Rd.pair (w : World) (x y : Value) (t : TypeId) : Rd (w.alloc (.cells #[x, y] t)) 2 (some ⟨w.heap.size, 0, none⟩) 1 [x, y] :=
  ⟨rfl, fun _ => ⟨_, rfl, (Rd.two w x y t).cells⟩⟩
theorem kb_s {w : World} {g q : Nat} {cs : Array Value} {a b x6 : Value} (h : Blk w g 119 cs) (h' : Blk w q 54 #[a, b]) (e : cs[6]? = some x6) : w.cell? ⟨g, 6, none⟩ = some x6 ∧ w.cell? ⟨q, 0, none⟩ = some a ∧ w.cell? ⟨q, 1, none⟩ = some b := ⟨(h.cell 6).trans e, h'.c2⟩

theorem tv_snoc (a b : List (Int × Int)) (x y : Int) : tv (a ++ b) ++ [Value.int .i64 x, Value.int .i64 y] = tv (a ++ (b ++ [(x, y)])) := by
  simp [tv]
theorem tabs_end {s j : Nat} {cs : List UInt8} {don : List (Int × Int)} (hj : cs.length = j) (h : Pk.tabs s cs = match Pk.tabs (s + j) (cs.drop j) with | .error e => .error e | .ok ts => .ok (don ++ ts)) : Pk.tabs s cs = .ok don := by
  rw [h, List.drop_of_length_le (by omega), Pk.tabs]
  · simp
  · intro a b l hh; cases hh

set_option maxHeartbeats 1000000 in
theorem contents2 (w0 w : World) (g L pos s n : Nat) (A B : Option Addr) (c : Pk.C) (cs : List UInt8) (hR : RB w0 w g A L pos 2 c) (hr : Rd w0 1 B n (bv cs)) (hn : n ≤ 1000000) (hn0 : 0 < n) (hev : n % 2 = 0) (hs : s ≤ 1000000) (hts : c.ts.length ≤ 1000) :
    Calls Try.prog 117 #[.pointer (some ⟨g, 0, none⟩), .int .i64 2, .slice B n n, .int .i64 s] w (ContPost (Pk.cont 2 cs s c) w0 w g A L pos 2) := by
  obtain ⟨hX0, hold, D, n1, c1, T, n2, c2, C, n3, c3, hB, o1, o2, o3, hne⟩ := hR
  have hgw := hB.lt
  have hcs : cs.length = n := by have := hr.1; rw [bv_length] at this; omega
  have hn2 : c.ts.length = n2 := by have := o2.1; rw [tv_length] at this; omega
  have Hcs := hd hcs
  have Hts := hd hn2
  rw [hn2] at hts
  clear hcs hn2
  obtain ⟨i0, hi0, hz0, hz1, hz2⟩ := info_parts info54
  go_enter Try.func117, Try.ntmps117
  go_upto_region 1 with (fail)
  refine wp_box121 ?_
  intro W hX hF
  have hB' := hB.ext hX
  have o1' := hX.own o1
  have o2' := hX.own o2
  have o3' := hX.own o3
  have hXW := hX0.trans hX
  have hFW : w.heap.size < W.heap.size := hF.lt
  have hsz0 := hX0.size
  have hsz1 := hX.size
  have hneF : w.heap.size ≠ g := Nat.ne_of_gt hgw
  go_wp2
  go_loopw [10] (fun i wr => ∃ (j k : Nat) (T' : Option Addr) (c' : Nat) (don : List (Int × Int)), Hid (j = 2 * k ∧ j % 2 = 0) ∧ j ≤ n ∧ i = .int .i64 (j : Int) ∧ Ext w0 wr ∧ w.heap.size ≤ wr.heap.size ∧
      Blk wr g 119 #[.slice A L L, .int .i64 pos, .int .i64 2, .int .i64 c.lo, .int .i64 c.hi, .slice D n1 c1, .slice T' (n2 + k) c', .slice C n3 c3] ∧ Blk wr w.heap.size 121 #[.int .i64 0, .int .i64 0] ∧
      wr.ownsRow w0.heap.size 5 1 (.slice D n1 c1) n1 (bv c.data) ∧ wr.ownsRow w0.heap.size 54 2 (.slice T' (n2 + k) c') (n2 + k) (tv (c.ts ++ don)) ∧ wr.ownsRow w0.heap.size 5 1 (.slice C n3 c3) n3 (bv c.code) ∧
      Hid (Pk.tabs s cs = match Pk.tabs (s + j) (cs.drop j) with | .error e => .error e | .ok ts => .ok (don ++ ts)) ∧ Hid (K121 w wr))
    (fun i _ => n - (intOf i).toNat)
  case atStart => exact ⟨0, 0, T, c2, [], hd (by simp), by omega, rfl, hXW, by omega, hB', hF, o1', by simpa using o2', o3', hd (by simp; cases Pk.tabs s cs <;> rfl), hd ((K121.refl w).ext hX)⟩
  case round =>
    obtain ⟨j, k, T', c', don, hjk, hj, rfl, hXr, hwr, hBr, hFr, o1r, o2r, o3r, Heq, HKr⟩ := hrel
    by_cases hlt : j < n
    · obtain ⟨b, o, rfl, hc⟩ := (hr.ext hXr).form (by omega) (by omega)
      have hj0 : j < cs.length := by have := Hcs.out; omega
      have hj1 : j + 1 < cs.length := by have := Hcs.out; have := hjk.out; omega
      have hj2 : j + 1 < n := by have := hjk.out; omega
      have hw1 : IntKind.i64.wrap ((j : Int) + 1) = (j : Int) + 1 := by rw [IntKind.wrap_i64]; omega
      have hj3 : (0 : Int) ≤ (j : Int) + 1 := by omega
      have hj4 : (j : Int) + 1 < (n : Int) := by omega
      have hj5 : ((j : Int) + 1).toNat = j + 1 := by omega
      have b0 := hc _ _ (bv_get cs j hj0)
      have b1 := hc _ _ (bv_get cs (j + 1) hj1)
      clear hc
      generalize hx : cs[j] = x at b0
      generalize hy : cs[j + 1] = y at b1
      have hx0 := x.toNat_lt
      have hy0 := y.toNat_lt
      have HX := hd hx
      have HY := hd hy
      clear hx hy
      have hwx : IntKind.i64.wrap (x.toNat : Int) = (x.toNat : Int) := by rw [IntKind.wrap_i64]; omega
      have hwy : IntKind.i64.wrap (y.toNat : Int) = (y.toNat : Int) := by rw [IntKind.wrap_i64]; omega
      go_wp2
      go_region_held3 (fun w' => w'.cell? ⟨b, o + j, none⟩ = some (.int .u8 (x.toNat : Int)) ∧ w'.cell? ⟨b, o + (j + 1), none⟩ = some (.int .u8 (y.toNat : Int))) (first | exact ⟨b0, b1⟩ | go_keep) (fail)
      go_upto_region 11 with (fail)
      refine wp_world (fun W' => Ext wr W' ∧ Blk W' wr.heap.size 54 #[.int .i64 (x.toNat : Int), .int .i64 (y.toNat : Int)]) ⟨(Ext.new _ _).drew, by simpa [hwx, hwy] using (Blk.new wr 54 _).drew⟩ ?_
      rintro W3 ⟨hX3, hB3⟩
      have hFr3 := hFr.ext hX3
      obtain ⟨f0, f1⟩ := hFr3.c2
      obtain ⟨f2, f3⟩ := hFr3.f2
      obtain ⟨t0, t1⟩ := hB3.c2
      clear b0 b1
      have hXF := hXr.trans hX3
      by_cases hbx : 1 ≤ x.toNat ∧ x.toNat ≤ 64
      · have HW := hd (wrong_bad (y := y) hbx)
        have HBX := hd hbx
        obtain ⟨hbx0, hbx1⟩ := hbx
        cases hby : Pk.badB y with
        | true =>
          have HBY := hd hby
          clear hby
          go_wp2_with (go_at_call 112; (with_reducible refine (wrong_yes _ _ _ (HW.out.trans HBY.out)).mono ?_); rintro e w4 ⟨rfl, hX4⟩; obtain ⟨g0, g1⟩ := (hFr3.ext hX4).c2; obtain ⟨g2, g3⟩ := (hFr3.ext hX4).f2)
          obtain ⟨x0, x1⟩ := ((hFr3.ext hX4).s2 (.int .i64 ((s : Int) + (j : Int) + 1)) (.int .i64 122)).c2
          refine bodyPost_ret (v := .tuple #[.agg #[.int .i64 ((s : Int) + (j : Int) + 1), .int .i64 122], .bool false]) (by simp [results, Try.results117, go_sem, x0, x1]) rfl ?_
          exact ContPost.err_tabs (tabs_bad1 hj1 HX.out HY.out Heq.out HBX.out HBY.out) (by omega) (((hXF.trans hX4).set (p := ⟨w.heap.size, 0, none⟩) hsz0 _).set (p := ⟨w.heap.size, 1, none⟩) hsz0 _) ((((HKr.out.ext hX3).ext hX4).new (Nat.le_refl _) _).new (Nat.le_refl _) _)
        | false =>
          have HBY := hd hby
          clear hby
          go_wp2_with (go_at_call 112; (with_reducible refine (wrong_no _ _ _ (HW.out.trans HBY.out)).mono ?_); rintro e w4 ⟨rfl, hX4⟩)
          have hX34 := hX3.trans hX4
          have hB5 := hBr.ext hX34
          have hT5 := hB3.ext hX4
          have o1s := hX34.own o1r
          have o2s := hX34.own o2r
          have o3s := hX34.own o3r
          have hXG := hXr.trans hX34
          have hF5 := hFr.ext hX34
          have hsz5 := hX34.size
          have neT := own_blk_ne o2s hB5 (by decide)
          have neT5 : (Value.slice T' (n2 + k) c').ownBlock ≠ some wr.heap.size := fun e => by have := (o2r.lt _ e).2; omega
          have neT6 := own_blk_ne o2s hF5 (by decide)
          have hk9 : k ≤ 500000 := by have := hjk.out; omega
          have hc6 := (hB5.c8).2.2.2.2.2.2.1
          obtain ⟨u0, u1⟩ := hT5.c2
          have hd6 := ((hB5.alloc (.cells #[.int .i64 (x.toNat : Int), .int .i64 (y.toNat : Int)] 54)).c8).2.2.2.2.2.2.1
          go_region_law ((refine step_app _ (by rfl) (.tmp 86) (.tmp 88) 23 (by rfl) w0.heap.size 54 i0 _ 2 16 Try.underlying23 hi0 hz0 hz1 hz2 (by rfl) (by omega) (.slice T' (n2 + k) c') (n2 + k) (tv (c.ts ++ don)) (by rfl) (((Ext.refl _).alloc _).drew.own o2s) (some ⟨w4.heap.size, 0, none⟩) 1 1 [.int .i64 (x.toNat : Int), .int .i64 (y.toNat : Int)] (by rfl) (Rd.pair _ _ _ _).drew (oneCell_two _ _ _ _) (by omega) (by omega) (by simp; omega) ?_; intro v6 w6 hown6 hg6 hat6; have hA6 := App.of_law hg6 hat6; have hB6 := hA6.blk (hB5.alloc _).drew neT; have hT6 := hA6.blk (hT5.alloc _).drew neT5; have hF6 := hA6.blk (hF5.alloc _).drew neT6; obtain ⟨T6, c6, rfl, _⟩ := own_form hown6; obtain ⟨k0, k1, k2, k3, k4, k5, k6, k7⟩ := hB6.f8; have k6c := (hB6.c8).2.2.2.2.2.2.1))
          all_goals (
            have hXw6 := hA6.ext' (hXG.alloc _).drew (fun q hq => (o2r.lt _ hq).1)
            have q1 := hA6.own (((Ext.refl w4).alloc _).drew.own o1s) (own_own_ne o1s o2s (by decide))
            have q3 := hA6.own (((Ext.refl w4).alloc _).drew.own o3s) (own_own_ne o3s o2s (by decide))
            have hsz6 := hA6.size
            have hsz7 : w.heap.size ≤ w6.heap.size := by simp at hsz6; omega
            have hK5 := (HKr.out.ext hX34).ext ((Ext.refl w4).alloc (.cells #[.int .i64 (x.toNat : Int), .int .i64 (y.toNat : Int)] 54)).drew
            have hK6 : K121 w w6 := fun q cs hq => hA6.blk (hK5 q cs hq) (own_blk_ne (((Ext.refl w4).alloc _).drew.own o2s) (hK5 q cs hq) (by decide))
            rw [tv_snoc] at hown6
            go_wp2
            go_roundw
            case rel => exact ⟨j + 2, k + 1, T6, c6, don ++ [((x.toNat : Int), (y.toNat : Int))], hd (by have := hjk.out; omega), by omega, by go_num, hXw6.set (p := ⟨g, 6, none⟩) hold _, by simpa using hsz7, hB6.set_ 6 _, hF6.far (p := ⟨g, 6, none⟩) hneF _, own_set q1 (own_blk_ne q1 hB6 (by decide)) _, own_set hown6 (own_blk_ne hown6 hB6 (by decide)) _, own_set q3 (own_blk_ne q3 hB6 (by decide)) _, hd (tabs_good hj1 HX.out HY.out Heq.out HBX.out HBY.out), hd (hK6.set hB6 _)⟩
            case measure => simp [intOf]; omega)
      · have HBX := hd hbx
        go_wp2
        all_goals (obtain ⟨x0, x1⟩ := (hFr3.s2 (.int .i64 ((s : Int) + (j : Int))) (.int .i64 122)).c2; refine bodyPost_ret (v := .tuple #[.agg #[.int .i64 ((s : Int) + (j : Int)), .int .i64 122], .bool false]) (by simp [results, Try.results117, go_sem, x0, x1]) rfl ?_; exact ContPost.err_tabs (tabs_bad0 hj1 HX.out HY.out Heq.out HBX.out) (by omega) ((hXF.set (p := ⟨w.heap.size, 0, none⟩) hsz0 _).set (p := ⟨w.heap.size, 1, none⟩) hsz0 _) (((HKr.out.ext hX3).new (Nat.le_refl _) _).new (Nat.le_refl _) _))
    · have hjn : j = n := by have := hjk.out; omega
      have HJ := hd hjn
      clear hjn
      obtain ⟨f0, f1⟩ := hFr.c2
      obtain ⟨f2, f3⟩ := hFr.f2
      go_wp2
      obtain ⟨x0, x1⟩ := (hFr.s2 (.int .i64 0) (.int .i64 0)).c2
      refine bodyPost_ret (v := .tuple #[.agg #[.int .i64 0, .int .i64 0], .bool true]) (by simp [results, Try.results117, go_sem, x0, x1]) rfl ?_
      have nF1 := own_blk_ne o1r hFr (by decide)
      have nF2 := own_blk_ne o2r hFr (by decide)
      have nF3 := own_blk_ne o3r hFr (by decide)
      exact ContPost.fine (c := { c with ts := c.ts ++ don }) (by unfold Pk.cont; rw [if_neg (by decide), if_pos rfl, tabs_end (by rw [Hcs.out, HJ.out]) Heq.out])
        ⟨(hXr.set (p := ⟨w.heap.size, 0, none⟩) hsz0 _).set (p := ⟨w.heap.size, 1, none⟩) hsz0 _, hold, D, n1, c1, T', n2 + k, c', C, n3, c3, (hBr.far (p := ⟨w.heap.size, _, none⟩) (Ne.symm hneF) _).far (p := ⟨w.heap.size, _, none⟩) (Ne.symm hneF) _,
          own_set (own_set o1r (p := ⟨w.heap.size, 0, none⟩) nF1 _) (p := ⟨w.heap.size, 1, none⟩) nF1 _, own_set (own_set o2r (p := ⟨w.heap.size, 0, none⟩) nF2 _) (p := ⟨w.heap.size, 1, none⟩) nF2 _, own_set (own_set o3r (p := ⟨w.heap.size, 0, none⟩) nF3 _) (p := ⟨w.heap.size, 1, none⟩) nF3 _, hne⟩ ((HKr.out.new (Nat.le_refl _) _).new (Nat.le_refl _) _)
end Go.Proofs.Ytfcbedkidjclhaa
