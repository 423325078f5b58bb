/-
  The contract of the document's read.
  Condition: the bytes can be read; where a row has a second unit, there are two.
-/
import Derived.Test.YtfcbedkidjclhaaRef6
import Derived.Deep.CutBlock
namespace Go.Proofs.Ytfcbedkidjclhaa
open Go.RowKit
set_option maxRecDepth 100000
set_option linter.unusedSimpArgs false
set_option linter.unusedVariables false

theorem Rd.mid {w : World} {b o N : Nat} {bs : List UInt8} (h : Rd w 1 (some ⟨b, o, none⟩) N (bv bs)) {i k : Nat} (hk : i + k ≤ N) : Rd w 1 (some ⟨b, o + i, none⟩) k (bv ((bs.drop i).take k)) := by
  have hl : bs.length = N := by have := h.1; rw [bv_length] at this; omega
  refine ⟨by rw [bv_length]; simp; omega, fun _ => ⟨_, rfl, fun j u hj => ?_⟩⟩
  have hjk : j < k := by
    have := (List.getElem?_eq_some_iff.1 hj).1
    rw [bv_length] at this
    simp at this
    omega
  have e : (bv ((bs.drop i).take k))[j]? = (bv bs)[i + j]? := by
    simp [bv, List.getElem?_take_of_lt hjk, List.getElem?_drop]
  rw [e] at hj
  have := h.cells (i + j) u hj
  rw [show (⟨b, o, none⟩ : Addr).add (i + j) = ⟨b, o + (i + j), none⟩ by unfold Addr.add; split <;> simp_all] at this
  rw [show (⟨b, o + i, none⟩ : Addr).add j = ⟨b, o + i + j, none⟩ by unfold Addr.add; split <;> simp_all, Nat.add_assoc]
  exact this

section
variable {w : World} {g : Nat} {t : TypeId} {a b c d e f i j : Value}
theorem Blk.s8 (h : Blk w g t #[a, b, c, d, e, f, i, j]) (a' b' c' d' e' f' i' j' : Value) : Blk ((((((((w.setCell ⟨g, 0, none⟩ a').setCell ⟨g, 1, none⟩ b').setCell ⟨g, 2, none⟩ c').setCell ⟨g, 3, none⟩ d').setCell ⟨g, 4, none⟩ e').setCell ⟨g, 5, none⟩ f').setCell ⟨g, 6, none⟩ i').setCell ⟨g, 7, none⟩ j') g t #[a', b', c', d', e', f', i', j'] := by
  have h0 : Blk _ g t #[a', b, c, d, e, f, i, j] := h.set_ 0 a'
  have h1 : Blk _ g t #[a', b', c, d, e, f, i, j] := h0.set_ 1 b'
  have h2 : Blk _ g t #[a', b', c', d, e, f, i, j] := h1.set_ 2 c'
  have h3 : Blk _ g t #[a', b', c', d', e, f, i, j] := h2.set_ 3 d'
  have h4 : Blk _ g t #[a', b', c', d', e', f, i, j] := h3.set_ 4 e'
  have h5 : Blk _ g t #[a', b', c', d', e', f', i, j] := h4.set_ 5 f'
  have h6 : Blk _ g t #[a', b', c', d', e', f', i', j] := h5.set_ 6 i'
  have h7 : Blk _ g t #[a', b', c', d', e', f', i', j'] := h6.set_ 7 j'
  exact h7
theorem Blk.far8 {k : Nat} {s : TypeId} {cs : Array Value} (h : Blk w k s cs) (hne : k ≠ g) (a' b' c' d' e' f' i' j' : Value) : Blk ((((((((w.setCell ⟨g, 0, none⟩ a').setCell ⟨g, 1, none⟩ b').setCell ⟨g, 2, none⟩ c').setCell ⟨g, 3, none⟩ d').setCell ⟨g, 4, none⟩ e').setCell ⟨g, 5, none⟩ f').setCell ⟨g, 6, none⟩ i').setCell ⟨g, 7, none⟩ j') k s cs :=
  (((((((h.far (p := ⟨g, 0, none⟩) hne a').far (p := ⟨g, 1, none⟩) hne b').far (p := ⟨g, 2, none⟩) hne c').far (p := ⟨g, 3, none⟩) hne d').far (p := ⟨g, 4, none⟩) hne e').far (p := ⟨g, 5, none⟩) hne f').far (p := ⟨g, 6, none⟩) hne i').far (p := ⟨g, 7, none⟩) hne j'
theorem Ext.s8 {w0 : World} (h : Ext w0 w) (hg : w0.heap.size ≤ g) (a' b' c' d' e' f' i' j' : Value) :
    Ext w0 ((((((((w.setCell ⟨g, 0, none⟩ a').setCell ⟨g, 1, none⟩ b').setCell ⟨g, 2, none⟩ c').setCell ⟨g, 3, none⟩ d').setCell ⟨g, 4, none⟩ e').setCell ⟨g, 5, none⟩ f').setCell ⟨g, 6, none⟩ i').setCell ⟨g, 7, none⟩ j') :=
  (((((((h.set (p := ⟨g, 0, none⟩) hg a').set (p := ⟨g, 1, none⟩) hg b').set (p := ⟨g, 2, none⟩) hg c').set (p := ⟨g, 3, none⟩) hg d').set (p := ⟨g, 4, none⟩) hg e').set (p := ⟨g, 5, none⟩) hg f').set (p := ⟨g, 6, none⟩) hg i').set (p := ⟨g, 7, none⟩) hg j'
end
/-- the boxes of read: the row, the answer, the instruction -/
structure RS (w W : World) (n : Nat) (A : Option Addr) (bs : List UInt8) (gy gr gi : Nat) (cy ci : Array Value) : Prop where
  ext : Ext w W
  y : Blk W gy 134 cy
  r : Blk W gr 64 #[.int .i64 0, .bool false, .bool false, .int .i64 0, .int .i64 0, .int .i64 0, .int .i64 0, .int .i64 0]
  i : Blk W gi 64 ci
  b : Rd W 1 A n (bv bs)
  gr_ : w.heap.size ≤ gr
  gi_ : w.heap.size ≤ gi
  ne : gr ≠ gi
  old : ∀ ad, A = some ad → ad.block < w.heap.size ∨ n = 0
section
variable {w W : World} {n : Nat} {A : Option Addr} {bs : List UInt8} {gy gr gi : Nat} {cy ci : Array Value}
theorem RS.put (h : RS w W n A bs gy gr gi cy ci) (k : Nat) (u : Value) : RS w (W.setCell ⟨gi, k, none⟩ u) n A bs gy gr gi cy (ci.setIfInBounds k u) := by
  refine ⟨h.ext.set (p := ⟨gi, k, none⟩) h.gi_ _, h.y.far (p := ⟨gi, k, none⟩) (h.y.ne_ h.i (by decide)) _, h.r.far (p := ⟨gi, k, none⟩) h.ne _, h.i.set_ k u, ?_, h.gr_, h.gi_, h.ne, h.old⟩
  rcases Nat.eq_zero_or_pos n with h0 | h0
  · subst h0
    exact ⟨h.b.1, fun h => absurd h (by omega)⟩
  · refine h.b.set (fun ad hA => ?_) u
    have := h.gi_
    rcases h.old ad hA with h1 | h1
    · show ad.block ≠ gi; omega
    · omega
theorem RS.far (h : RS w W n A bs gy gr gi cy ci) {W' : World} (hX : Ext W W') : RS w W' n A bs gy gr gi cy ci :=
  ⟨h.ext.trans hX, h.y.ext hX, h.r.ext hX, h.i.ext hX, h.b.ext hX, h.gr_, h.gi_, h.ne, h.old⟩
end

def RdPost (X : Option Cd.Ins) (w : World) (e : Ending) (w' : World) : Prop := ∃ (i : Cd.Ins) (b : Bool), e = .returned (.tuple #[.agg (insC i), .bool b]) ∧ Ext w w' ∧ (b = true → X = some i) ∧ (b = false → X = none)
theorem s19 {W : World} {gy gi : Nat} {yc yo yz yd ys yf ym ye D S O N : Int} {yn yr yw : Bool} (h : Blk W gy 134 #[.int .i64 yc, .int .i64 yo, .int .i64 yz, .bool yn, .bool yr, .int .i64 yd, .int .i64 ys, .int .i64 yf, .int .i64 ym, .int .i64 ye, .bool yw]) (h' : Blk W gi 64 #[.int .i64 yo, .bool yn, .bool yr, .int .i64 yz, .int .i64 D, .int .i64 S, .int .i64 O, .int .i64 N]) : W.cell? ⟨gy, 0, none⟩ = some (.int .i64 yc) ∧ W.cell? ⟨gy, 1, none⟩ = some (.int .i64 yo) ∧ W.cell? ⟨gy, 2, none⟩ = some (.int .i64 yz) ∧ W.cell? ⟨gy, 3, none⟩ = some (.bool yn) ∧ W.cell? ⟨gy, 4, none⟩ = some (.bool yr) ∧ W.cell? ⟨gy, 5, none⟩ = some (.int .i64 yd) ∧ W.cell? ⟨gy, 6, none⟩ = some (.int .i64 ys) ∧ W.cell? ⟨gy, 7, none⟩ = some (.int .i64 yf) ∧ W.cell? ⟨gy, 8, none⟩ = some (.int .i64 ym) ∧ W.cell? ⟨gy, 9, none⟩ = some (.int .i64 ye) ∧ W.cell? ⟨gy, 10, none⟩ = some (.bool yw) ∧ W.cell? ⟨gi, 0, none⟩ = some (.int .i64 yo) ∧ W.cell? ⟨gi, 1, none⟩ = some (.bool yn) ∧ W.cell? ⟨gi, 2, none⟩ = some (.bool yr) ∧ W.cell? ⟨gi, 3, none⟩ = some (.int .i64 yz) ∧ W.cell? ⟨gi, 4, none⟩ = some (.int .i64 D) ∧ W.cell? ⟨gi, 5, none⟩ = some (.int .i64 S) ∧ W.cell? ⟨gi, 6, none⟩ = some (.int .i64 O) ∧ W.cell? ⟨gi, 7, none⟩ = some (.int .i64 N) :=
  ⟨h.cell 0, h.cell 1, h.cell 2, h.cell 3, h.cell 4, h.cell 5, h.cell 6, h.cell 7, h.cell 8, h.cell 9, h.cell 10, h'.cell 0, h'.cell 1, h'.cell 2, h'.cell 3, h'.cell 4, h'.cell 5, h'.cell 6, h'.cell 7⟩
theorem good_cells' (c op sz : Int) (n r : Bool) (d s f i e : Int) (wr : Bool) (m : Int) (w : World) : Calls Try.prog 90 #[.agg #[.int .i64 c, .int .i64 op, .int .i64 sz, .bool n, .bool r, .int .i64 d, .int .i64 s, .int .i64 f, .int .i64 i, .int .i64 e, .bool wr], .int .i64 m] w fun e' w' => e' = .returned (.bool (Rf.good ⟨c, op, sz, n, r, d, s, f, i, e, wr⟩ m)) ∧ Ext w w' := good_any ⟨c, op, sz, n, r, d, s, f, i, e, wr⟩ m w
theorem read_cases (y : Rf.Row) (d s f m hi : Int) {X : Option Cd.Ins} (h : Rf.read y d s f m hi = X) :
    ((y.imm ≠ -1 ∧ y.imm ≠ m) → X = none) ∧ (¬ (y.imm ≠ -1 ∧ y.imm ≠ m) → ((y.imm = -1 ∨ y.second = -1) → Rf.good y (Rf.readI y d s f m hi).imm = false → X = none) ∧ ((y.imm = -1 ∨ y.second = -1) → Rf.good y (Rf.readI y d s f m hi).imm = true → X = some (Rf.readI y d s f m hi)) ∧ (¬ (y.imm = -1 ∨ y.second = -1) → X = some (Rf.readI y d s f m hi))) := by
  unfold Rf.read at h
  refine ⟨fun h1 => ?_, fun h1 => ⟨fun h2 h3 => ?_, fun h2 h3 => ?_, fun h2 => ?_⟩⟩
  · rw [if_pos h1] at h; exact h.symm
  · rw [if_neg h1, if_pos ⟨h2, h3⟩] at h; exact h.symm
  · rw [if_neg h1, if_neg (by rw [h3]; simp)] at h; exact h.symm
  · rw [if_neg h1, if_neg (fun e => h2 e.1)] at h; exact h.symm

set_option maxHeartbeats 4000000 in
theorem read_any (y : Rf.Row) (A : Option Addr) (n c : Nat) (bs : List UInt8) (d s o m : Int) (w : World) (h : Rd w 1 A n (bv bs)) (hc : n ≤ c) (hold : ∀ ad, A = some ad → ad.block < w.heap.size ∨ n = 0)
    (h16 : y.op = 20 ∨ y.op = 21 → 16 ≤ n) (hm0 : -2147483648 ≤ m) (hm1 : m < 2147483648) :
    Calls Try.prog 130 #[.agg (rowC y), .slice A n c, .int .i64 d, .int .i64 s, .int .i64 o, .int .i64 m] w (RdPost (Rf.read y d s o m (Rf.hiOf bs)) w) := by
  obtain ⟨X, hX⟩ : ∃ X, Rf.read y d s o m (Rf.hiOf bs) = X := ⟨_, rfl⟩
  rw [hX]
  have HX := hd (read_cases y d s o m (Rf.hiOf bs) hX)
  clear hX
  obtain ⟨yc, yo, yz, yn, yr, yd, ys, yf, ym, ye, yw⟩ := y
  simp only [rowC]
  dsimp only at h16
  obtain ⟨D, hD⟩ : ∃ D, (if yd = -1 then d else 0) = D := ⟨_, rfl⟩
  obtain ⟨S, hS⟩ : ∃ S, (if ys = -1 then s else 0) = S := ⟨_, rfl⟩
  obtain ⟨O, hO⟩ : ∃ O, (if yf = -1 then o else 0) = O := ⟨_, rfl⟩
  obtain ⟨M, hM⟩ : ∃ M, (if ym = -1 then m else 0) = M := ⟨_, rfl⟩
  obtain ⟨hi, hhi⟩ : ∃ hi, Rf.hiOf bs = hi := ⟨_, rfl⟩
  have hir := Rf.imm_range (bs.drop 8)
  have hir2 : -2147483648 ≤ hi ∧ hi < 2147483648 := by rw [← hhi]; exact hir
  obtain ⟨N, hN⟩ : ∃ N, (if yo = 20 then hi * 4294967296 + Rf.unsig m else if yo = 21 then hi else M) = N := ⟨_, rfl⟩
  have H1 := hd hD
  have H2 := hd hS
  have H3 := hd hO
  have H4 := hd hM
  have H5 := hd hN
  have HH : Hid (Cd.sgn 2147483648 (Pk.val ((bs.drop 12).take 4)) = hi) := hd (by rw [← hhi]; unfold Rf.hiOf; simp only [Cd.fields, List.drop_drop])
  have HX2 := HX.out
  rw [hhi] at HX2
  have HX := hd HX2
  clear HX2
  have HI : Hid (Rf.readI ⟨yc, yo, yz, yn, yr, yd, ys, yf, ym, ye, yw⟩ d s o m hi = ⟨yo, yn, yr, yz, D, S, O, N⟩) := hd (by rw [← hN, ← hM, ← hO, ← hS, ← hD]; rfl)
  clear hD hS hO hM hN hhi hir
  obtain ⟨hr0, hr1⟩ := hir2
  go_enter Try.func130, Try.ntmps130
  go_upto_region 2 with (fail)
  refine wp_world (fun W => RS w W n A bs w.heap.size (w.heap.size + 1) (w.heap.size + 1 + 1) #[.int .i64 yc, .int .i64 yo, .int .i64 yz, .bool yn, .bool yr, .int .i64 yd, .int .i64 ys, .int .i64 yf, .int .i64 ym, .int .i64 ye, .bool yw] #[.int .i64 yo, .bool yn, .bool yr, .int .i64 yz, .int .i64 0, .int .i64 0, .int .i64 0, .int .i64 0]) ⟨((Ext.new _ _).alloc _).alloc _, ((Blk.new _ _ _).alloc _).alloc _, by simpa using (Blk.new (w.alloc _) 64 _).alloc _, by simpa using Blk.new ((w.alloc _).alloc _) 64 _, ((h.alloc _).alloc _).alloc _, by omega, by omega, by omega, hold⟩ ?_
  obtain ⟨gy, hgy⟩ : ∃ gy, w.heap.size = gy := ⟨_, rfl⟩
  obtain ⟨gr, hgr⟩ : ∃ gr, gy + 1 = gr := ⟨_, rfl⟩
  obtain ⟨gi, hgi⟩ : ∃ gi, gr + 1 = gi := ⟨_, rfl⟩
  rw [hgy, hgr, hgi]
  clear hgy hgr hgi
  intro W hS
  clear h
  obtain ⟨t1, ht1⟩ : ∃ t, (yd == -1) = t := ⟨_, rfl⟩
  have HT1 : Hid ((t1 = true → D = d) ∧ (t1 = false → D = 0)) := hd ⟨fun e => by rw [← H1.out, if_pos (by rw [e] at ht1; simpa using ht1)], fun e => by rw [← H1.out, if_neg (by rw [e] at ht1; simpa using ht1)]⟩
  obtain ⟨p0, p1, p2, p3, p4, p5, p6, p7, p8, p9, p10⟩ := hS.y.c11
  obtain ⟨q0, q1, q2, q3, q4, q5, q6, q7⟩ := hS.i.c8
  obtain ⟨f0, f1, f2, f3, f4, f5, f6, f7⟩ := hS.i.f8
  go_upto_if 27 with (fail)
  clear p0 p1 p2 p3 p4 p5 p6 p7 p8 p9 p10 q0 q1 q2 q3 q4 q5 q6 q7 f0 f1 f2 f3 f4 f5 f6 f7
  go_cut [] from 28 to 29 (fun W => RS w W n A bs gy gr gi #[.int .i64 yc, .int .i64 yo, .int .i64 yz, .bool yn, .bool yr, .int .i64 yd, .int .i64 ys, .int .i64 yf, .int .i64 ym, .int .i64 ye, .bool yw] #[.int .i64 yo, .bool yn, .bool yr, .int .i64 yz, .int .i64 D, .int .i64 0, .int .i64 0, .int .i64 0])
  case first =>
    obtain ⟨p0, p1, p2, p3, p4, p5, p6, p7, p8, p9, p10⟩ := hS.y.c11
    obtain ⟨q0, q1, q2, q3, q4, q5, q6, q7⟩ := hS.i.c8
    obtain ⟨f0, f1, f2, f3, f4, f5, f6, f7⟩ := hS.i.f8
    cases t1 with
    | true =>
      go_wp2
      go_meet
      case rel => rw [HT1.out.1 (by simp)]; exact hS.put 4 _
    | false =>
      go_wp2
      go_meet
      case rel => rw [HT1.out.2 (by simp)]; exact hS
  case rest =>
  replace hS := hcut
  clear hcut
  obtain ⟨t2, ht2⟩ : ∃ t, (ys == -1) = t := ⟨_, rfl⟩
  have HT2 : Hid ((t2 = true → S = s) ∧ (t2 = false → S = 0)) := hd ⟨fun e => by rw [← H2.out, if_pos (by rw [e] at ht2; simpa using ht2)], fun e => by rw [← H2.out, if_neg (by rw [e] at ht2; simpa using ht2)]⟩
  obtain ⟨p0, p1, p2, p3, p4, p5, p6, p7, p8, p9, p10⟩ := hS.y.c11
  obtain ⟨q0, q1, q2, q3, q4, q5, q6, q7⟩ := hS.i.c8
  obtain ⟨f0, f1, f2, f3, f4, f5, f6, f7⟩ := hS.i.f8
  go_upto_if 32 with (fail)
  clear p0 p1 p2 p3 p4 p5 p6 p7 p8 p9 p10 q0 q1 q2 q3 q4 q5 q6 q7 f0 f1 f2 f3 f4 f5 f6 f7
  go_cut [] from 33 to 34 (fun W => RS w W n A bs gy gr gi #[.int .i64 yc, .int .i64 yo, .int .i64 yz, .bool yn, .bool yr, .int .i64 yd, .int .i64 ys, .int .i64 yf, .int .i64 ym, .int .i64 ye, .bool yw] #[.int .i64 yo, .bool yn, .bool yr, .int .i64 yz, .int .i64 D, .int .i64 S, .int .i64 0, .int .i64 0])
  case first =>
    obtain ⟨p0, p1, p2, p3, p4, p5, p6, p7, p8, p9, p10⟩ := hS.y.c11
    obtain ⟨q0, q1, q2, q3, q4, q5, q6, q7⟩ := hS.i.c8
    obtain ⟨f0, f1, f2, f3, f4, f5, f6, f7⟩ := hS.i.f8
    cases t2 with
    | true =>
      go_wp2
      go_meet
      case rel => rw [HT2.out.1 (by simp)]; exact hS.put 5 _
    | false =>
      go_wp2
      go_meet
      case rel => rw [HT2.out.2 (by simp)]; exact hS
  case rest =>
  replace hS := hcut
  clear hcut
  obtain ⟨t3, ht3⟩ : ∃ t, (yf == -1) = t := ⟨_, rfl⟩
  have HT3 : Hid ((t3 = true → O = o) ∧ (t3 = false → O = 0)) := hd ⟨fun e => by rw [← H3.out, if_pos (by rw [e] at ht3; simpa using ht3)], fun e => by rw [← H3.out, if_neg (by rw [e] at ht3; simpa using ht3)]⟩
  obtain ⟨p0, p1, p2, p3, p4, p5, p6, p7, p8, p9, p10⟩ := hS.y.c11
  obtain ⟨q0, q1, q2, q3, q4, q5, q6, q7⟩ := hS.i.c8
  obtain ⟨f0, f1, f2, f3, f4, f5, f6, f7⟩ := hS.i.f8
  go_upto_if 37 with (fail)
  clear p0 p1 p2 p3 p4 p5 p6 p7 p8 p9 p10 q0 q1 q2 q3 q4 q5 q6 q7 f0 f1 f2 f3 f4 f5 f6 f7
  go_cut [] from 38 to 39 (fun W => RS w W n A bs gy gr gi #[.int .i64 yc, .int .i64 yo, .int .i64 yz, .bool yn, .bool yr, .int .i64 yd, .int .i64 ys, .int .i64 yf, .int .i64 ym, .int .i64 ye, .bool yw] #[.int .i64 yo, .bool yn, .bool yr, .int .i64 yz, .int .i64 D, .int .i64 S, .int .i64 O, .int .i64 0])
  case first =>
    obtain ⟨p0, p1, p2, p3, p4, p5, p6, p7, p8, p9, p10⟩ := hS.y.c11
    obtain ⟨q0, q1, q2, q3, q4, q5, q6, q7⟩ := hS.i.c8
    obtain ⟨f0, f1, f2, f3, f4, f5, f6, f7⟩ := hS.i.f8
    cases t3 with
    | true =>
      go_wp2
      go_meet
      case rel => rw [HT3.out.1 (by simp)]; exact hS.put 6 _
    | false =>
      go_wp2
      go_meet
      case rel => rw [HT3.out.2 (by simp)]; exact hS
  case rest =>
  replace hS := hcut
  clear hcut
  by_cases hbad : ym ≠ -1 ∧ ym ≠ m
  · have hn := HX.out.1 hbad
    subst hn
    have e1 : (ym != -1) = true := by simpa using hbad.1
    have e2 : (ym != m) = true := by simpa using hbad.2
    clear hbad HX
    obtain ⟨p0, p1, p2, p3, p4, p5, p6, p7, p8, p9, p10⟩ := hS.y.c11
    obtain ⟨q0, q1, q2, q3, q4, q5, q6, q7⟩ := hS.i.c8
    obtain ⟨f0, f1, f2, f3, f4, f5, f6, f7⟩ := hS.i.f8
    go_wp2_with ((with_reducible refine wl_store64 _ _ _ ?_ ?_ hS.r ?_ ?_); exact rfl; exact ⟨_, _, _, _, _, _, _, _, rfl⟩; exact rfl; intro cells hcells; obtain rfl := Value.agg.inj hcells; clear hcells)
    refine bodyPost_ret (results_cell_slot rfl _ _ gr 64 _ _ rfl (hS.r.row _) Try.underlying64 rfl (by kernel_rfl)) rfl ⟨Cd.I0, false, rfl, hS.ext.row hS.gr_ _, fun h => (by cases h), fun _ => rfl⟩
  · have hgo := HX.out.2 hbad
    have e1 : ((ym != -1) && (ym != m)) = false := by
      rw [Bool.eq_false_iff]
      intro hh
      simp at hh
      exact hbad hh
    rw [HI.out] at hgo
    dsimp only at hgo
    have HG := hd hgo
    clear hgo hbad HX
    obtain ⟨t5, ht5⟩ : ∃ t, (ym != -1) = t := ⟨_, rfl⟩
    obtain ⟨t6, ht6⟩ : ∃ t, (ym != m) = t := ⟨_, rfl⟩
    have hb : (t5 && t6) = false := by rw [← ht5, ← ht6]; exact e1
    have HB := hd hb
    clear hb e1
    go_upto_region 8 with (fail)
    go_cut [48] from 40 to 48 (fun v W => v = .bool false ∧ RS w W n A bs gy gr gi #[.int .i64 yc, .int .i64 yo, .int .i64 yz, .bool yn, .bool yr, .int .i64 yd, .int .i64 ys, .int .i64 yf, .int .i64 ym, .int .i64 ye, .bool yw] #[.int .i64 yo, .bool yn, .bool yr, .int .i64 yz, .int .i64 D, .int .i64 S, .int .i64 O, .int .i64 0])
    case first =>
      obtain ⟨p0, p1, p2, p3, p4, p5, p6, p7, p8, p9, p10⟩ := hS.y.c11
      obtain ⟨q0, q1, q2, q3, q4, q5, q6, q7⟩ := hS.i.c8
      obtain ⟨f0, f1, f2, f3, f4, f5, f6, f7⟩ := hS.i.f8
      cases t5 <;> cases t6
      all_goals (try exact absurd HB.out (by decide))
      all_goals go_wp2
      all_goals go_meet
      all_goals case rel => exact ⟨rfl, hS⟩
    case rest =>
    obtain ⟨rfl, hS2⟩ := hcut
    clear hS
    have hS := hS2
    clear hS2
    go_upto_region 10 with (fail)
    obtain ⟨t4, ht4⟩ : ∃ t, (ym == -1) = t := ⟨_, rfl⟩
    have HT4 : Hid ((t4 = true → M = m) ∧ (t4 = false → M = 0)) := hd ⟨fun e => by rw [← H4.out, if_pos (by rw [e] at ht4; simpa using ht4)], fun e => by rw [← H4.out, if_neg (by rw [e] at ht4; simpa using ht4)]⟩
    obtain ⟨p0, p1, p2, p3, p4, p5, p6, p7, p8, p9, p10⟩ := hS.y.c11
    obtain ⟨q0, q1, q2, q3, q4, q5, q6, q7⟩ := hS.i.c8
    obtain ⟨f0, f1, f2, f3, f4, f5, f6, f7⟩ := hS.i.f8
    go_upto_if 52 with (fail)
    clear p0 p1 p2 p3 p4 p5 p6 p7 p8 p9 p10 q0 q1 q2 q3 q4 q5 q6 q7 f0 f1 f2 f3 f4 f5 f6 f7
    go_cut [] from 53 to 54 (fun W => RS w W n A bs gy gr gi #[.int .i64 yc, .int .i64 yo, .int .i64 yz, .bool yn, .bool yr, .int .i64 yd, .int .i64 ys, .int .i64 yf, .int .i64 ym, .int .i64 ye, .bool yw] #[.int .i64 yo, .bool yn, .bool yr, .int .i64 yz, .int .i64 D, .int .i64 S, .int .i64 O, .int .i64 M])
    case first =>
      obtain ⟨p0, p1, p2, p3, p4, p5, p6, p7, p8, p9, p10⟩ := hS.y.c11
      obtain ⟨q0, q1, q2, q3, q4, q5, q6, q7⟩ := hS.i.c8
      obtain ⟨f0, f1, f2, f3, f4, f5, f6, f7⟩ := hS.i.f8
      cases t4 with
      | true =>
        go_wp2
        go_meet
        case rel => rw [HT4.out.1 (by simp)]; exact hS.put 7 _
      | false =>
        go_wp2
        go_meet
        case rel => rw [HT4.out.2 (by simp)]; exact hS
    case rest =>
    replace hS := hcut
    clear hcut
    obtain ⟨p0, p1, p2, p3, p4, p5, p6, p7, p8, p9, p10⟩ := hS.y.c11
    obtain ⟨q0, q1, q2, q3, q4, q5, q6, q7⟩ := hS.i.c8
    obtain ⟨f0, f1, f2, f3, f4, f5, f6, f7⟩ := hS.i.f8
    go_upto_block 0 with (fail)
    clear p0 p1 p2 p3 p4 p5 p6 p7 p8 p9 p10 q0 q1 q2 q3 q4 q5 q6 q7 f0 f1 f2 f3 f4 f5 f6 f7
    go_cut [] from 57 to 76 (fun W => RS w W n A bs gy gr gi #[.int .i64 yc, .int .i64 yo, .int .i64 yz, .bool yn, .bool yr, .int .i64 yd, .int .i64 ys, .int .i64 yf, .int .i64 ym, .int .i64 ye, .bool yw] #[.int .i64 yo, .bool yn, .bool yr, .int .i64 yz, .int .i64 D, .int .i64 S, .int .i64 O, .int .i64 N])
    case first =>
      obtain ⟨p0, p1, p2, p3, p4, p5, p6, p7, p8, p9, p10⟩ := hS.y.c11
      obtain ⟨q0, q1, q2, q3, q4, q5, q6, q7⟩ := hS.i.c8
      obtain ⟨f0, f1, f2, f3, f4, f5, f6, f7⟩ := hS.i.f8
      obtain ⟨t7, ht7⟩ : ∃ t, (yo == 20) = t := ⟨_, rfl⟩
      obtain ⟨t8, ht8⟩ : ∃ t, (yo == 21) = t := ⟨_, rfl⟩
      cases t7 with
      | true =>
        have hyo : yo = 20 := by simpa using ht7
        have hn16 := h16 (.inl hyo)
        have HN : Hid (N = hi * 4294967296 + Rf.unsig m) := hd (by rw [← H5.out, if_pos hyo])
        clear hyo H1 H2 H3 H4
        obtain ⟨b, o', rfl, -⟩ := hS.b.form (by omega) (by omega)
        by_cases hm : m < 0
        · go_wp2_with (go_at_call 129; (with_reducible refine (signed_any (some ⟨b, o' + 12, none⟩) 4 (c - 12) ((bs.drop 12).take 4) 2147483648 _ (hS.b.mid (by omega)) (.inr ⟨rfl, rfl⟩)).mono ?_); rw [HH.out]; rintro e v ⟨rfl, hX⟩; have hS2 := hS.far hX; obtain ⟨g0, g1, g2, g3, g4, g5, g6, g7⟩ := hS2.i.c8; obtain ⟨j0, j1, j2, j3, j4, j5, j6, j7⟩ := hS2.i.f8)
          go_meet
          case rel => rw [HN.out, show Rf.unsig m = m + 4294967296 by unfold Rf.unsig; rw [if_pos hm]]; exact hS2.put 7 _
        · go_wp2_with (go_at_call 129; (with_reducible refine (signed_any (some ⟨b, o' + 12, none⟩) 4 (c - 12) ((bs.drop 12).take 4) 2147483648 _ (hS.b.mid (by omega)) (.inr ⟨rfl, rfl⟩)).mono ?_); rw [HH.out]; rintro e v ⟨rfl, hX⟩; have hS2 := hS.far hX; obtain ⟨g0, g1, g2, g3, g4, g5, g6, g7⟩ := hS2.i.c8; obtain ⟨j0, j1, j2, j3, j4, j5, j6, j7⟩ := hS2.i.f8)
          go_meet
          case rel => rw [HN.out, show Rf.unsig m = m by unfold Rf.unsig; rw [if_neg (by omega)]]; exact hS2.put 7 _
      | false =>
        have hyo : ¬ yo = 20 := by simpa using ht7
        cases t8 with
        | true =>
          have hyo2 : yo = 21 := by simpa using ht8
          have hn16 := h16 (.inr hyo2)
          have HN : Hid (N = hi) := hd (by rw [← H5.out, if_neg hyo, if_pos hyo2])
          clear hyo hyo2 H1 H2 H3 H4
          obtain ⟨b, o', rfl, -⟩ := hS.b.form (by omega) (by omega)
          go_wp2_with (go_at_call 129; (with_reducible refine (signed_any (some ⟨b, o' + 12, none⟩) 4 (c - 12) ((bs.drop 12).take 4) 2147483648 _ (hS.b.mid (by omega)) (.inr ⟨rfl, rfl⟩)).mono ?_); rw [HH.out]; rintro e v ⟨rfl, hX⟩; have hS2 := hS.far hX; obtain ⟨g0, g1, g2, g3, g4, g5, g6, g7⟩ := hS2.i.c8; obtain ⟨j0, j1, j2, j3, j4, j5, j6, j7⟩ := hS2.i.f8)
          go_meet
          case rel => rw [HN.out]; exact hS2.put 7 _
        | false =>
          have hyo2 : ¬ yo = 21 := by simpa using ht8
          have HN : Hid (N = M) := hd (by rw [← H5.out, if_neg hyo, if_neg hyo2])
          clear hyo hyo2 H1 H2 H3 H4
          go_wp2
          go_meet
          case rel => rw [HN.out]; exact hS
    case rest =>
    replace hS := hcut
    clear hcut
    go_upto_region 20 with (fail)
    clear H1 H2 H3 H4 H5 ht1 ht2 ht3 ht4 ht5 ht6 HT1 HT2 HT3 HT4
    obtain ⟨p0, p1, p2, p3, p4, p5, p6, p7, p8, p9, p10⟩ := hS.y.c11
    obtain ⟨q0, q1, q2, q3, q4, q5, q6, q7⟩ := hS.i.c8
    obtain ⟨f0, f1, f2, f3, f4, f5, f6, f7⟩ := hS.i.f8
    obtain ⟨t9, ht9⟩ : ∃ t, (ym == -1) = t := ⟨_, rfl⟩
    obtain ⟨t10, ht10⟩ : ∃ t, (ye == -1) = t := ⟨_, rfl⟩
    have HA : Hid ((t9 || t10) = true → (ym = -1 ∨ ye = -1)) := hd (fun e => by rw [← ht9, ← ht10] at e; simpa using e)
    have HB2 : Hid ((t9 || t10) = false → ¬ (ym = -1 ∨ ye = -1)) := hd (fun e => by rw [← ht9, ← ht10] at e; simpa using e)
    go_cut [84] from 77 to 84 (fun v W => v = .bool (t9 || t10) ∧ RS w W n A bs gy gr gi #[.int .i64 yc, .int .i64 yo, .int .i64 yz, .bool yn, .bool yr, .int .i64 yd, .int .i64 ys, .int .i64 yf, .int .i64 ym, .int .i64 ye, .bool yw] #[.int .i64 yo, .bool yn, .bool yr, .int .i64 yz, .int .i64 D, .int .i64 S, .int .i64 O, .int .i64 N])
    case first =>
      cases t9 <;> cases t10
      all_goals go_wp2
      all_goals go_meet
      all_goals case rel => exact ⟨rfl, hS⟩
    case rest =>
    obtain ⟨rfl, hS2⟩ := hcut
    clear hS p0 p1 p2 p3 p4 p5 p6 p7 p8 p9 p10 q0 q1 q2 q3 q4 q5 q6 q7 f0 f1 f2 f3 f4 f5 f6 f7 ht9 ht10
    have hS := hS2
    clear hS2
    obtain ⟨T, hT⟩ : ∃ T, (t9 || t10) = T := ⟨_, rfl⟩
    rw [hT] at HA HB2 ⊢
    clear hT
    cases T with
    | true =>
      have hor := HA.out rfl
      have g1 := HG.out.1 hor
      have g2 := HG.out.2.1 hor
      have HG1 := hd g1
      have HG2 := hd g2
      clear hor g1 g2 HG HA HB2
      have hne1 : gy ≠ gr := hS.y.ne_ hS.r (by decide)
      have hne2 : gi ≠ gr := fun e => hS.ne e.symm
      go_upto_region 21 with (fail)
      go_region_held3 (fun w' => w'.cell? ⟨gy, 0, none⟩ = some (.int .i64 yc) ∧ w'.cell? ⟨gy, 1, none⟩ = some (.int .i64 yo) ∧ w'.cell? ⟨gy, 2, none⟩ = some (.int .i64 yz) ∧ w'.cell? ⟨gy, 3, none⟩ = some (.bool yn) ∧ w'.cell? ⟨gy, 4, none⟩ = some (.bool yr) ∧ w'.cell? ⟨gy, 5, none⟩ = some (.int .i64 yd) ∧ w'.cell? ⟨gy, 6, none⟩ = some (.int .i64 ys) ∧ w'.cell? ⟨gy, 7, none⟩ = some (.int .i64 yf) ∧ w'.cell? ⟨gy, 8, none⟩ = some (.int .i64 ym) ∧ w'.cell? ⟨gy, 9, none⟩ = some (.int .i64 ye) ∧ w'.cell? ⟨gy, 10, none⟩ = some (.bool yw) ∧ w'.cell? ⟨gi, 0, none⟩ = some (.int .i64 yo) ∧ w'.cell? ⟨gi, 1, none⟩ = some (.bool yn) ∧ w'.cell? ⟨gi, 2, none⟩ = some (.bool yr) ∧ w'.cell? ⟨gi, 3, none⟩ = some (.int .i64 yz) ∧ w'.cell? ⟨gi, 4, none⟩ = some (.int .i64 D) ∧ w'.cell? ⟨gi, 5, none⟩ = some (.int .i64 S) ∧ w'.cell? ⟨gi, 6, none⟩ = some (.int .i64 O) ∧ w'.cell? ⟨gi, 7, none⟩ = some (.int .i64 N))
        (first | with_reducible exact s19 hS.y.drew hS.i.drew | with_reducible exact s19 hS2.y hS2.i | with_reducible exact s19 (hS2.y.far8 hne1 _ _ _ _ _ _ _ _) (hS2.i.far8 hne2 _ _ _ _ _ _ _ _) | go_keep)
        (first | (go_at_call 90; (with_reducible refine (good_cells' _ _ _ _ _ _ _ _ _ _ _ _ _).mono ?_); rintro e v ⟨rfl, hX⟩; have hS2 := hS.far hX.of_drew; obtain ⟨g0, g1, g2, g3, g4, g5, g6, g7⟩ := hS2.r.c8; obtain ⟨j0, j1, j2, j3, j4, j5, j6, j7⟩ := hS2.r.f8))
      all_goals go_wp2
      all_goals (
        refine bodyPost_ret (results_cell_slot rfl _ _ gr 64 _ _ rfl (hS2.r.s8 _ _ _ _ _ _ _ _) Try.underlying64 rfl (by kernel_rfl)) rfl ⟨⟨yo, yn, yr, yz, D, S, O, N⟩, _, rfl, hS2.ext.s8 hS.gr_ _ _ _ _ _ _ _ _, fun h => HG2.out h, fun h => HG1.out h⟩)
    | false =>
      have g3 := HG.out.2.2 (HB2.out rfl)
      subst g3
      clear HG HA HB2
      obtain ⟨p0, p1, p2, p3, p4, p5, p6, p7, p8, p9, p10⟩ := hS.y.c11
      obtain ⟨q0, q1, q2, q3, q4, q5, q6, q7⟩ := hS.i.c8
      obtain ⟨f0, f1, f2, f3, f4, f5, f6, f7⟩ := hS.i.f8
      go_wp2_with (first | ((with_reducible refine wl_load64 _ gi ?_ hS.i ?_ ?_); exact rfl; exact rfl) | ((with_reducible refine wl_store64 _ _ _ ?_ ?_ hS.r ?_ ?_); exact rfl; exact ⟨_, _, _, _, _, _, _, _, rfl⟩; exact rfl; intro cells hcells; obtain rfl := Value.agg.inj hcells; clear hcells))
      refine bodyPost_ret (results_cell_slot rfl _ _ gr 64 _ _ rfl (hS.r.row _) Try.underlying64 rfl (by kernel_rfl)) rfl ⟨⟨yo, yn, yr, yz, D, S, O, N⟩, true, rfl, hS.ext.row hS.gr_ _, fun _ => rfl, fun h => (by cases h)⟩

end Go.Proofs.Ytfcbedkidjclhaa
