/-
  The contracts of package pack's Check and Of.
  Conditions: each slice reads as a list and takes no more than 2^47 bytes.
  The contract of package pack's Program.
  Conditions: each slice reads as a list and takes no more than 2^47 bytes.
-/
import Derived.Test.YtfcbedkidjclhaaProg1
namespace Go.Proofs.Ytfcbedkidjclhaa
open Go.RowKit
set_option maxRecDepth 100000
set_option linter.unusedSimpArgs false
set_option linter.unusedVariables false

def PCkPost (x : Nat × Int) (w : World) (e : Ending) (w' : World) : Prop := e = .returned (.tuple #[.int .i64 (x.1 : Int), .int .i64 x.2]) ∧ Ext w w'
theorem own_apart {W W' : World} {base base' m n s s' : Nat} {xs ys : List Value} {e e' : TypeId} {u v : Value} (h : W.ownsRow base e s u m xs) (h' : W'.ownsRow base' e' s' v n ys) (hb : W.heap.size ≤ base') : v.ownBlock = none ∨ v.ownBlock ≠ u.ownBlock := by
  cases hv : v.ownBlock with
  | none => exact .inl rfl
  | some g =>
    right
    intro he
    have h1 := (h'.lt g hv).1
    have h2 := (h.lt g he.symm).2
    omega

set_option maxHeartbeats 1000000 in
theorem PCheck_any (lo hi : Int) (A1 A2 A3 : Option Addr) (n1 n2 n3 c1 c2 c3 : Nat) (data : List UInt8) (code : List Cd.Ins) (ts : List (Int × Int)) (w : World)
    (h1 : Rd w 1 A1 n1 (bv data)) (h2 : Rd w 2 A2 n2 (tv ts)) (h3 : Rd w 8 A3 n3 (cv code))
    (hn1 : n1 ≤ 140737488355328) (hn2 : n2 * 16 ≤ 140737488355328) (hn3 : n3 * 56 ≤ 140737488355328) :
    Calls Try.prog 62 #[.agg #[.int .i64 lo, .int .i64 hi, .slice A1 n1 c1, .slice A2 n2 c2, .slice A3 n3 c3]] w (PCkPost (Pk.pcheck ⟨lo, hi, data, ts, code⟩) w) := by
  have hd1 : data.length = n1 := by have := h1.1; rw [bv_length] at this; omega
  have hl3 : code.length = n3 := by have := h3.1; rw [cv_length] at this; omega
  obtain ⟨X, hX⟩ : ∃ X, Pk.pcheck ⟨lo, hi, data, ts, code⟩ = X := ⟨_, rfl⟩
  obtain ⟨s, hs⟩ : ∃ s, Pk.sizes lo hi n1 ts = s := ⟨_, rfl⟩
  obtain ⟨i, e, hc⟩ : ∃ i e, Cd.check code = (i, e) := ⟨_, _, rfl⟩
  rw [hX]
  have hX' := hX
  unfold Pk.pcheck at hX'
  simp only [hd1, hs, hc] at hX'
  have HS : Hid (∀ W : World, Rd W 2 A2 n2 (tv ts) → Calls Try.prog 70 #[.int .i64 lo, .int .i64 hi, .slice A1 n1 c1, .slice A2 n2 c2] W fun e w' => e = .returned (.int .i64 s) ∧ Ext W w') := hd fun W h => by
    have := sizes_any lo hi A1 A2 n1 n2 c1 c2 ts W h (by omega) hn2
    rw [hs] at this
    exact this
  have HC := hd hc
  have HX := hd hX'
  have H1 := hd hd1
  clear hX hX' hs hc hd1
  go_enter Try.func62, Try.ntmps62
  go_upto_region 1 with (fail)
  refine wp_world (fun W => Ext w W ∧ Blk W w.heap.size 90 #[.int .i64 lo, .int .i64 hi, .slice A1 n1 c1, .slice A2 n2 c2, .slice A3 n3 c3]) ⟨Ext.new _ _, Blk.new _ _ _⟩ ?_
  rintro W ⟨hE, hP⟩
  obtain ⟨p0, p1, p2, p3, p4⟩ := hP.c5
  by_cases h0 : s = 0
  · subst h0
    have HX1 := HX.out
    rw [if_neg (by decide)] at HX1
    go_upto_region 4 with (go_at_call 70; (with_reducible refine (HS.out _ (h2.ext hE)).mono ?_); rintro e v1 ⟨rfl, hX1⟩)
    have hE1 := hE.trans hX1
    obtain ⟨q0, q1, q2, q3, q4⟩ := (hP.ext hX1).c5
    by_cases h4 : e = 0
    · subst h4
      rw [if_neg (by decide)] at HX1
      by_cases h5 : n3 = 0
      · subst h5
        rw [if_pos (List.eq_nil_of_length_eq_zero hl3)] at HX1
        subst HX1
        clear HX
        go_wp2_with (go_at_call 49; (with_reducible refine (Check_any A3 0 c3 code _ (h3.ext hE1) (by omega)).mono ?_); rw [HC.out]; rintro e v2 ⟨rfl, hX2⟩; obtain ⟨r0, r1, r2, r3, r4⟩ := ((hP.ext hX1).ext hX2).c5)
        go_ret2
        exact ⟨rfl, hE1.trans hX2⟩
      · rw [if_neg (fun e => h5 (by rw [← hl3, e]; rfl))] at HX1
        have e5 : ((n3 : Int) == 0) = false := by simp; omega
        clear HX
        cases hr : Pk.reaches code n1 with
        | none =>
          have HR := hd hr
          rw [hr] at HX1
          subst HX1
          clear hr
          go_wp2_with (first | (go_at_call 49; (with_reducible refine (Check_any A3 n3 c3 code _ (h3.ext hE1) hn3).mono ?_); rw [HC.out]; rintro e v2 ⟨rfl, hX2⟩; obtain ⟨r0, r1, r2, r3, r4⟩ := ((hP.ext hX1).ext hX2).c5) | (go_at_call 108; (with_reducible refine (reaches_any A3 n3 c3 code n1 _ (h3.ext (hE1.trans hX2)) hn3).mono ?_); rw [HR.out]; rintro e v3 ⟨rfl, hX3⟩; simp only [idxOf]))
          go_ret2
          exact ⟨rfl, (hE1.trans hX2).trans hX3⟩
        | some j =>
          have HR := hd hr
          rw [hr] at HX1
          subst HX1
          clear hr
          go_wp2_with (first | (go_at_call 49; (with_reducible refine (Check_any A3 n3 c3 code _ (h3.ext hE1) hn3).mono ?_); rw [HC.out]; rintro e v2 ⟨rfl, hX2⟩; obtain ⟨r0, r1, r2, r3, r4⟩ := ((hP.ext hX1).ext hX2).c5) | (go_at_call 108; (with_reducible refine (reaches_any A3 n3 c3 code n1 _ (h3.ext (hE1.trans hX2)) hn3).mono ?_); rw [HR.out]; rintro e v3 ⟨rfl, hX3⟩; simp only [idxOf]))
          go_ret2
          exact ⟨rfl, (hE1.trans hX2).trans hX3⟩
    · rw [if_pos h4] at HX1
      subst HX1
      have e4 : (e != 0) = true := by simpa using h4
      clear HX h4
      go_wp2_with (go_at_call 49; (with_reducible refine (Check_any A3 n3 c3 code _ (h3.ext hE1) hn3).mono ?_); rw [HC.out]; rintro e v2 ⟨rfl, hX2⟩)
      go_ret2
      exact ⟨rfl, hE1.trans hX2⟩
  · have HX1 := HX.out
    rw [if_pos h0] at HX1
    subst HX1
    have e0 : (s != 0) = true := by simpa using h0
    clear HX h0
    go_wp2_with (go_at_call 70; (with_reducible refine (HS.out _ (h2.ext hE)).mono ?_); rintro e v1 ⟨rfl, hX1⟩)
    go_ret2
    exact ⟨rfl, hE.trans hX1⟩

set_option maxHeartbeats 2000000 in
theorem POf_any (lo hi : Int) (A1 A2 A3 : Option Addr) (n1 n2 n3 c1 c2 c3 : Nat) (data : List UInt8) (code : List Cd.Ins) (ts : List (Int × Int)) (w : World)
    (h1 : Rd w 1 A1 n1 (bv data)) (h2 : Rd w 2 A2 n2 (tv ts)) (h3 : Rd w 8 A3 n3 (cv code))
    (hn1 : n1 ≤ 140737488355328) (hn2 : n2 * 16 ≤ 140737488355328) (hn3 : n3 * 56 ≤ 140737488355328) :
    Calls Try.prog 60 #[.agg #[.int .i64 lo, .int .i64 hi, .slice A1 n1 c1, .slice A2 n2 c2, .slice A3 n3 c3]] w (DecPost (Pk.pof ⟨lo, hi, data, ts, code⟩) w) := by
  obtain ⟨i, e, hc⟩ : ∃ i e, Pk.pcheck ⟨lo, hi, data, ts, code⟩ = (i, e) := ⟨_, _, rfl⟩
  obtain ⟨X, hX⟩ : ∃ X, Pk.pof ⟨lo, hi, data, ts, code⟩ = X := ⟨_, rfl⟩
  rw [hX]
  have HX := hd hX
  have HC := hd hc
  go_enter Try.func60, Try.ntmps60
  go_upto_region 1 with (fail)
  refine wp_world (fun W => Ext w W ∧ Blk W w.heap.size 90 #[.int .i64 lo, .int .i64 hi, .slice A1 n1 c1, .slice A2 n2 c2, .slice A3 n3 c3] ∧ Blk W (w.heap.size + 1) 25 #[.int .i64 0, .int .i64 0, .slice none 0 0, .slice none 0 0, .slice none 0 0])
    ⟨(Ext.new _ _).alloc _, (Blk.new _ _ _).alloc _, by simpa using Blk.new (w.alloc _) 25 _⟩ ?_
  rintro W ⟨hX, hP, hR⟩
  have hsz := hP.lt
  obtain ⟨p0, p1, p2, p3, p4⟩ := hP.c5
  by_cases h0 : e = 0
  · subst h0
    have hf := Pk.check_fine (show (Pk.pcheck ⟨lo, hi, data, ts, code⟩).2 = 0 by rw [hc])
    have he : Cd.encode code = (Cd.flat code, 0, 0) := Cd.encode_ok hf.2.2.1 hf.2.2.2.1
    have hXe : X = (⟨lo, hi, data, ts, Cd.flat code⟩, 0, 0) := by
      rw [← HX.out]
      unfold Pk.pof
      rw [hc, if_neg (show ¬ ((0 : Int) ≠ 0) by decide), he]
    have hi0 : i = 0 := by have := hf.1; rw [hc] at this; exact congrArg Prod.fst this
    subst hi0
    have HE := hd he
    have HXE := hd hXe
    clear hf he hXe hc HX
    obtain ⟨F, hF⟩ : ∃ F, Cd.flat code = F := ⟨_, rfl⟩
    rw [hF] at HE HXE
    clear hF
    go_upto_region 7 with (first | (go_at_call 62; (with_reducible refine (PCheck_any lo hi A1 A2 A3 n1 n2 n3 c1 c2 c3 data code ts _ (h1.ext hX) (h2.ext hX) (h3.ext hX) hn1 hn2 hn3).mono ?_); rw [HC.out]; rintro e' v1 ⟨rfl, hX1⟩; obtain ⟨q0, q1, q2, q3, q4⟩ := (hP.ext hX1).c5) | (go_at_call 50; (with_reducible refine (CEncode_any A3 n3 c3 code _ (h3.ext (hX.trans hX1)) hn3).mono ?_); rw [HE.out]; rintro e' v2 ⟨A4, c4, rfl, own4, hX2⟩))
    have hX12 := hX1.trans hX2
    have hE := hX.trans hX12
    have hP2 := hP.ext hX12
    have hR2 := hR.ext hX12
    have hz1 := hX1.size
    have hz := hE.size
    clear p0 p1 p2 p3 p4 q0 q1 q2 q3 q4 hP hR
    have hX := hE
    have hP := hP2
    have hR := hR2
    clear hE hP2 hR2
    go_region_held3 (fun w' => w'.cell? ⟨w.heap.size, 0, none⟩ = some (.int .i64 lo) ∧ w'.cell? ⟨w.heap.size, 1, none⟩ = some (.int .i64 hi) ∧ w'.cell? ⟨w.heap.size, 2, none⟩ = some (.slice A1 n1 c1) ∧ w'.cell? ⟨w.heap.size, 3, none⟩ = some (.slice A2 n2 c2) ∧ w'.cell? ⟨w.heap.size, 4, none⟩ = some (.slice A3 n3 c3))
      (first | with_reducible exact hP.drew.c5 | with_reducible exact (hP.ext hY1).c5 | with_reducible exact (hP.ext hY2).c5 | go_keep)
      (first | (go_at_call 107; with_reducible refine (CloneTables_any A2 n2 c2 ts _ (h2.ext (hX.trans hY1)) hn2).mono ?_; rintro e w2 ⟨B2, d2, rfl, hown2, hb2⟩; have hY2 := hY1.trans hb2; obtain ⟨f0, f1, f2, f3, f4⟩ := (hR.ext hY2).f5; obtain ⟨g0, g1, g2, g3, g4⟩ := (hR.ext hY2).c5) | (go_at_call 106; with_reducible refine (CloneBytes_any A1 n1 c1 data _ (h1.ext hX.drew) hn1).mono ?_; rintro e w1 ⟨B1, d1, rfl, hown1, hb1⟩; have hY1 := hb1.of_drew))
    go_wp2
    obtain ⟨q0, q1, q2, q3, q4⟩ := ((hR.ext hY2).s5 (.int .i64 lo) (.int .i64 hi) (.slice B1 n1 d1) (.slice B2 n2 d2) (.slice A4 F.length c4)).c5
    refine bodyPost_ret (v := .tuple #[.agg #[.int .i64 lo, .int .i64 hi, .slice B1 n1 d1, .slice B2 n2 d2, .slice A4 F.length c4], .int .i64 0, .int .i64 0]) (by simp [results, Try.results60, go_sem, q0, q1, q2, q3, q4]) rfl ?_
    rw [HXE.out]
    have hRX := hR.ext hY2
    have o4 := hY2.own own4
    exact ⟨B1, n1, d1, B2, n2, d2, A4, F.length, c4, rfl, (hX.trans hY2).s5 (by omega) _ _ _ _ _,
      own_s5 (own_base (hb2.own hown1) hz) (own_blk_ne (hb2.own hown1) hRX (by decide)) _ _ _ _ _,
      own_s5 (own_base hown2 (Nat.le_trans hz hY1.size)) (own_blk_ne hown2 hRX (by decide)) _ _ _ _ _,
      own_s5 (own_base o4 (by omega)) (own_blk_ne o4 hRX (by decide)) _ _ _ _ _, own_apart own4 hown1 (Nat.le_refl _)⟩
  · have e0 : (e != 0) = true := by simpa using h0
    have hXe : X = (Pk.C0, i, e) := by
      rw [← HX.out]
      unfold Pk.pof
      rw [hc, if_pos h0]
    have HXE := hd hXe
    clear hXe hc HX h0
    go_upto_region 3 with (go_at_call 62; (with_reducible refine (PCheck_any lo hi A1 A2 A3 n1 n2 n3 c1 c2 c3 data code ts _ (h1.ext hX) (h2.ext hX) (h3.ext hX) hn1 hn2 hn3).mono ?_); rw [HC.out]; rintro e' v1 ⟨rfl, hX1⟩)
    obtain ⟨f0, f1, f2, f3, f4⟩ := (hR.ext hX1).f5
    obtain ⟨g0, g1, g2, g3, g4⟩ := (hR.ext hX1).c5
    go_wp2
    obtain ⟨q0, q1, q2, q3, q4⟩ := ((hR.ext hX1).s5 (.int .i64 0) (.int .i64 0) (.slice none 0 0) (.slice none 0 0) (.slice none 0 0)).c5
    refine bodyPost_ret (v := .tuple #[.agg #[.int .i64 0, .int .i64 0, .slice none 0 0, .slice none 0 0, .slice none 0 0], .int .i64 i, .int .i64 e]) (by simp [results, Try.results60, go_sem, q0, q1, q2, q3, q4]) rfl ?_
    exact DecPost.err HXE.out rfl ((hX.trans hX1).s5 (by omega) _ _ _ _ _)

end Go.Proofs.Ytfcbedkidjclhaa
namespace Go.Proofs.Ytfcbedkidjclhaa
open Go.RowKit
set_option maxRecDepth 100000
set_option linter.unusedSimpArgs false
set_option linter.unusedVariables false

def PProgPost (x : Pk.P × Nat × Int) (w : World) (e : Ending) (w' : World) : Prop :=
  ∃ D n1 c1 T n2 c2 C n3 c3, e = .returned (.tuple #[.agg #[.int .i64 x.1.lo, .int .i64 x.1.hi, .slice D n1 c1, .slice T n2 c2, .slice C n3 c3], .int .i64 (x.2.1 : Int), .int .i64 x.2.2]) ∧ Ext w w' ∧
    w'.ownsRow w.heap.size 5 1 (.slice D n1 c1) n1 (bv x.1.data) ∧ w'.ownsRow w.heap.size 54 2 (.slice T n2 c2) n2 (tv x.1.ts) ∧ w'.ownsRow w.heap.size 64 8 (.slice C n3 c3) n3 (cv x.1.code)
theorem PProgPost.err {p : Nat} {n : Int} {w w' : World} (hX : Ext w w') :
    PProgPost (Pk.P0, p, n) w (.returned (.tuple #[.agg #[.int .i64 0, .int .i64 0, .slice none 0 0, .slice none 0 0, .slice none 0 0], .int .i64 (p : Int), .int .i64 n])) w' :=
  ⟨none, 0, 0, none, 0, 0, none, 0, 0, rfl, hX, World.ownsRow_nil _ _ _ _, World.ownsRow_nil _ _ _ _, World.ownsRow_nil _ _ _ _⟩

set_option maxHeartbeats 4000000 in
theorem PProg_any (lo hi : Int) (A1 A2 A3 : Option Addr) (n1 n2 n3 c1 c2 c3 : Nat) (data code : List UInt8) (ts : List (Int × Int)) (w : World)
    (h1 : Rd w 1 A1 n1 (bv data)) (h2 : Rd w 2 A2 n2 (tv ts)) (h3 : Rd w 1 A3 n3 (bv code))
    (hn1 : n1 ≤ 140737488355328) (hn2 : n2 * 16 ≤ 140737488355328) (hn3 : n3 ≤ 140737488355328) (hc3 : n3 ≤ c3) :
    Calls Try.prog 66 #[.agg #[.int .i64 lo, .int .i64 hi, .slice A1 n1 c1, .slice A2 n2 c2, .slice A3 n3 c3]] w (PProgPost (Pk.pprog ⟨lo, hi, data, ts, code⟩) w) := by
  have hd1 : data.length = n1 := by have := h1.1; rw [bv_length] at this; omega
  obtain ⟨X, hX⟩ : ∃ X, Pk.pprog ⟨lo, hi, data, ts, code⟩ = X := ⟨_, rfl⟩
  obtain ⟨s, hs⟩ : ∃ s, Pk.sizes lo hi n1 ts = s := ⟨_, rfl⟩
  obtain ⟨l, i, e, hdc⟩ : ∃ l i e, Cd.decode code = (l, i, e) := ⟨_, _, _, rfl⟩
  rw [hX]
  have hX' := hX
  unfold Pk.pprog at hX'
  simp only [hd1, hs, hdc] at hX'
  have HS : Hid (∀ W : World, Rd W 2 A2 n2 (tv ts) → Calls Try.prog 70 #[.int .i64 lo, .int .i64 hi, .slice A1 n1 c1, .slice A2 n2 c2] W fun e w' => e = .returned (.int .i64 s) ∧ Ext W w') := hd fun W h => by
    have := sizes_any lo hi A1 A2 n1 n2 c1 c2 ts W h (by omega) hn2
    rw [hs] at this
    exact this
  have HD := hd hdc
  have HX := hd hX'
  have HL := hd (decode_lenP hdc)
  clear hX hX' hs hd1
  go_enter Try.func66, Try.ntmps66
  go_upto_region 1 with (fail)
  refine wp_world (fun W => Ext w W ∧ Blk W w.heap.size 25 #[.int .i64 lo, .int .i64 hi, .slice A1 n1 c1, .slice A2 n2 c2, .slice A3 n3 c3] ∧ Blk W (w.heap.size + 1) 90 #[.int .i64 0, .int .i64 0, .slice none 0 0, .slice none 0 0, .slice none 0 0])
    ⟨(Ext.new _ _).alloc _, (Blk.new _ _ _).alloc _, by simpa using Blk.new (w.alloc _) 90 _⟩ ?_
  rintro W ⟨hX, hP, hR⟩
  have hsz := hP.lt
  obtain ⟨p0, p1, p2, p3, p4⟩ := hP.c5
  have HX1 := HX.out
  clear HX
  by_cases h0 : s = 0
  · subst h0
    rw [if_neg (by decide)] at HX1
    by_cases h4 : e = 0
    · subst h4
      rw [if_neg (by decide)] at HX1
      by_cases h5 : l = []
      · subst h5
        rw [if_pos rfl] at HX1
        have HXE := hd HX1.symm
        clear HX1
        go_upto_region 8 with (first | (go_at_call 70; (with_reducible refine (HS.out _ (h2.ext hX)).mono ?_); rintro e' v1 ⟨rfl, hX1⟩; obtain ⟨q0, q1, q2, q3, q4⟩ := (hP.ext hX1).c5) | (go_at_call 42; (with_reducible refine (CDecode_any A3 n3 c3 code _ (h3.ext (hX.trans hX1)) hc3 (by omega)).mono ?_); rw [HD.out]; rintro e' v2 ⟨B4, n4, d4, hn4, rfl, own4, hX2⟩))
        obtain ⟨f0, f1, f2, f3, f4⟩ := (hR.ext (hX1.trans hX2)).f5
        obtain ⟨g0, g1, g2, g3, g4⟩ := (hR.ext (hX1.trans hX2)).c5
        go_wp2
        obtain ⟨q0, q1, q2, q3, q4⟩ := ((hR.ext (hX1.trans hX2)).s5 (.int .i64 0) (.int .i64 0) (.slice none 0 0) (.slice none 0 0) (.slice none 0 0)).c5
        refine bodyPost_ret (v := .tuple #[.agg #[.int .i64 0, .int .i64 0, .slice none 0 0, .slice none 0 0, .slice none 0 0], .int .i64 ((0 : Nat) : Int), .int .i64 26]) (by simp [results, Try.results66, go_sem, q0, q1, q2, q3, q4]) rfl ?_
        rw [HXE.out]
        exact PProgPost.err ((hX.trans (hX1.trans hX2)).s5 (by omega) _ _ _ _ _)
      · rw [if_neg h5] at HX1
        have e5 : ((l.length : Int) == 0) = false := by simpa using h5
        cases hr : Pk.reaches l n1 with
        | some j =>
          have hj := (Pk.reaches_lt hr).1
          rw [hr] at HX1
          have HXE := hd HX1.symm
          have HR := hd hr
          clear HX1 hr h5
          go_upto_region 9 with (first | (go_at_call 70; (with_reducible refine (HS.out _ (h2.ext hX)).mono ?_); rintro e' v1 ⟨rfl, hX1⟩; obtain ⟨q0, q1, q2, q3, q4⟩ := (hP.ext hX1).c5) | (go_at_call 42; (with_reducible refine (CDecode_any A3 n3 c3 code _ (h3.ext (hX.trans hX1)) hc3 (by omega)).mono ?_); rw [HD.out]; rintro e' v2 ⟨B4, n4, d4, hn4, rfl, own4, hX2⟩))
          obtain ⟨r0, r1, r2, r3, r4⟩ := (hP.ext (hX1.trans hX2)).c5
          obtain rfl : n4 = l.length := hn4
          have HU : Hid ((nv (Cd.units l))[j]? = some (.int .i64 (((Cd.units l).getD j 0 : Nat) : Int))) := hd (by
            have hul := Cd.units_length l
            have : j < (Cd.units l).length := by omega
            simp [nv, iv, List.getD_eq_getElem?_getD, this])
          have j0 : (0 : Int) ≤ (j : Int) := by omega
          have j1 : (j : Int) < (l.length : Int) + 1 := by omega
          go_upto_region 11 with (go_at_call 108; (with_reducible refine (reaches_any B4 l.length d4 l n1 _ (Rd.of_own own4) (by have := HL.out; omega)).mono ?_); rw [HR.out]; rintro e' v3 ⟨rfl, hX3⟩; simp only [idxOf])
          have hX13 := (hX1.trans hX2).trans hX3
          have hE := hX.trans hX13
          have hP2 := hP.ext hX13
          have hR2 := hR.ext hX13
          have hz1 := (hX.trans hX1).size
          have hz := hE.size
          have own4' := hX3.own own4
          clear p0 p1 p2 p3 p4 r0 r1 r2 r3 r4 hP hR
          have hX := hE
          have hP := hP2
          have hR := hR2
          clear hE hP2 hR2
          go_region_law (first | (go_simp; go_at_call 51; with_reducible refine (Units_any B4 l.length d4 l _ ((Rd.of_own own4').ext (Ext.refl _).drew) (by have := HL.out; omega)).mono ?_; rintro e' w5 ⟨B5, d5, rfl, own5, hX5⟩; have hY5 := hX5.of_drew; have own5s := own_s5 own5 (own_blk_ne own5 (hR.ext hY5) (by decide)) (.int .i64 0) (.int .i64 0) (.slice none 0 0) (.slice none 0 0) (.slice none 0 0); obtain ⟨b5, o5, rfl, hc5⟩ := (Rd.of_own own5).form (by omega) (by omega); obtain ⟨_, _, heq, hc6⟩ := (Rd.of_own own5s).form (by omega) (by omega); cases heq; have cu := hc5 _ _ HU.out; have cu2 := hc6 _ _ HU.out; clear hc5 hc6; obtain ⟨f0, f1, f2, f3, f4⟩ := (hR.ext hY5).f5; obtain ⟨g0, g1, g2, g3, g4⟩ := (hR.ext hY5).c5))
          all_goals go_wp2
          all_goals (
            obtain ⟨q0, q1, q2, q3, q4⟩ := ((hR.ext hY5).s5 (.int .i64 0) (.int .i64 0) (.slice none 0 0) (.slice none 0 0) (.slice none 0 0)).c5
            refine bodyPost_ret (v := .tuple #[.agg #[.int .i64 0, .int .i64 0, .slice none 0 0, .slice none 0 0, .slice none 0 0], .int .i64 (((Cd.units l).getD j 0 : Nat) : Int), .int .i64 123]) (by simp [results, Try.results66, go_sem, q0, q1, q2, q3, q4]) rfl ?_
            rw [HXE.out]
            exact PProgPost.err ((hX.trans hY5).s5 (by omega) _ _ _ _ _))
        | none =>
          rw [hr] at HX1
          have HXE := hd HX1.symm
          have HR := hd hr
          clear HX1 hr h5
          go_upto_region 9 with (first | (go_at_call 70; (with_reducible refine (HS.out _ (h2.ext hX)).mono ?_); rintro e' v1 ⟨rfl, hX1⟩; obtain ⟨q0, q1, q2, q3, q4⟩ := (hP.ext hX1).c5) | (go_at_call 42; (with_reducible refine (CDecode_any A3 n3 c3 code _ (h3.ext (hX.trans hX1)) hc3 (by omega)).mono ?_); rw [HD.out]; rintro e' v2 ⟨B4, n4, d4, hn4, rfl, own4, hX2⟩))
          obtain ⟨r0, r1, r2, r3, r4⟩ := (hP.ext (hX1.trans hX2)).c5
          obtain rfl : n4 = l.length := hn4
          go_upto_region 12 with (go_at_call 108; (with_reducible refine (reaches_any B4 l.length d4 l n1 _ (Rd.of_own own4) (by have := HL.out; omega)).mono ?_); rw [HR.out]; rintro e' v3 ⟨rfl, hX3⟩; simp only [idxOf])
          have hX13 := (hX1.trans hX2).trans hX3
          have hE := hX.trans hX13
          have hP2 := hP.ext hX13
          have hR2 := hR.ext hX13
          have hz1 := (hX.trans hX1).size
          have hz := hE.size
          have own4' := hX3.own own4
          clear p0 p1 p2 p3 p4 r0 r1 r2 r3 r4 hP hR
          have hX := hE
          have hP := hP2
          have hR := hR2
          clear hE hP2 hR2
          go_region_held3 (fun w' => w'.cell? ⟨w.heap.size, 0, none⟩ = some (.int .i64 lo) ∧ w'.cell? ⟨w.heap.size, 1, none⟩ = some (.int .i64 hi) ∧ w'.cell? ⟨w.heap.size, 2, none⟩ = some (.slice A1 n1 c1) ∧ w'.cell? ⟨w.heap.size, 3, none⟩ = some (.slice A2 n2 c2) ∧ w'.cell? ⟨w.heap.size, 4, none⟩ = some (.slice A3 n3 c3))
            (first | with_reducible exact hP.drew.c5 | with_reducible exact (hP.ext hY1).c5 | with_reducible exact (hP.ext hY2).c5 | go_keep)
            (first | (go_at_call 107; with_reducible refine (CloneTables_any A2 n2 c2 ts _ (h2.ext (hX.trans hY1)) hn2).mono ?_; rintro e w2 ⟨B2, d2, rfl, hown2, hb2⟩; have hY2 := hY1.trans hb2; obtain ⟨f0, f1, f2, f3, f4⟩ := (hR.ext hY2).f5; obtain ⟨g0, g1, g2, g3, g4⟩ := (hR.ext hY2).c5) | (go_at_call 106; with_reducible refine (CloneBytes_any A1 n1 c1 data _ (h1.ext hX.drew) hn1).mono ?_; rintro e w1 ⟨B1, d1, rfl, hown1, hb1⟩; have hY1 := hb1.of_drew))
          go_wp2
          obtain ⟨q0, q1, q2, q3, q4⟩ := ((hR.ext hY2).s5 (.int .i64 lo) (.int .i64 hi) (.slice B1 n1 d1) (.slice B2 n2 d2) (.slice B4 l.length d4)).c5
          refine bodyPost_ret (v := .tuple #[.agg #[.int .i64 lo, .int .i64 hi, .slice B1 n1 d1, .slice B2 n2 d2, .slice B4 l.length d4], .int .i64 0, .int .i64 0]) (by simp [results, Try.results66, go_sem, q0, q1, q2, q3, q4]) rfl ?_
          rw [HXE.out]
          have hRX := hR.ext hY2
          have o4 := hY2.own own4'
          exact ⟨B1, n1, d1, B2, n2, d2, B4, l.length, d4, rfl, (hX.trans hY2).s5 (by omega) _ _ _ _ _,
            own_s5 (own_base (hb2.own hown1) hz) (own_blk_ne (hb2.own hown1) hRX (by decide)) _ _ _ _ _,
            own_s5 (own_base hown2 (Nat.le_trans hz hY1.size)) (own_blk_ne hown2 hRX (by decide)) _ _ _ _ _,
            own_s5 (own_base o4 hz1) (own_blk_ne o4 hRX (by decide)) _ _ _ _ _⟩
    · have e4 : (e != 0) = true := by simpa using h4
      rw [if_pos h4] at HX1
      have HXE := hd HX1.symm
      clear HX1 h4
      go_upto_region 6 with (first | (go_at_call 70; (with_reducible refine (HS.out _ (h2.ext hX)).mono ?_); rintro e' v1 ⟨rfl, hX1⟩; obtain ⟨q0, q1, q2, q3, q4⟩ := (hP.ext hX1).c5) | (go_at_call 42; (with_reducible refine (CDecode_any A3 n3 c3 code _ (h3.ext (hX.trans hX1)) hc3 (by omega)).mono ?_); rw [HD.out]; rintro e' v2 ⟨B4, n4, d4, hn4, rfl, own4, hX2⟩))
      obtain ⟨f0, f1, f2, f3, f4⟩ := (hR.ext (hX1.trans hX2)).f5
      obtain ⟨g0, g1, g2, g3, g4⟩ := (hR.ext (hX1.trans hX2)).c5
      go_wp2
      obtain ⟨q0, q1, q2, q3, q4⟩ := ((hR.ext (hX1.trans hX2)).s5 (.int .i64 0) (.int .i64 0) (.slice none 0 0) (.slice none 0 0) (.slice none 0 0)).c5
      refine bodyPost_ret (v := .tuple #[.agg #[.int .i64 0, .int .i64 0, .slice none 0 0, .slice none 0 0, .slice none 0 0], .int .i64 (i : Int), .int .i64 e]) (by simp [results, Try.results66, go_sem, q0, q1, q2, q3, q4]) rfl ?_
      rw [HXE.out]
      exact PProgPost.err ((hX.trans (hX1.trans hX2)).s5 (by omega) _ _ _ _ _)
  · have e0 : (s != 0) = true := by simpa using h0
    rw [if_pos h0] at HX1
    have HXE := hd HX1.symm
    clear HX1 h0
    go_upto_region 3 with (go_at_call 70; (with_reducible refine (HS.out _ (h2.ext hX)).mono ?_); rintro e' v1 ⟨rfl, hX1⟩; obtain ⟨q0, q1, q2, q3, q4⟩ := (hP.ext hX1).c5)
    obtain ⟨f0, f1, f2, f3, f4⟩ := (hR.ext hX1).f5
    obtain ⟨g0, g1, g2, g3, g4⟩ := (hR.ext hX1).c5
    go_wp2
    obtain ⟨q0, q1, q2, q3, q4⟩ := ((hR.ext hX1).s5 (.int .i64 0) (.int .i64 0) (.slice none 0 0) (.slice none 0 0) (.slice none 0 0)).c5
    refine bodyPost_ret (v := .tuple #[.agg #[.int .i64 0, .int .i64 0, .slice none 0 0, .slice none 0 0, .slice none 0 0], .int .i64 ((0 : Nat) : Int), .int .i64 s]) (by simp [results, Try.results66, go_sem, q0, q1, q2, q3, q4]) rfl ?_
    rw [HXE.out]
    exact PProgPost.err ((hX.trans hX1).s5 (by omega) _ _ _ _ _)

end Go.Proofs.Ytfcbedkidjclhaa
