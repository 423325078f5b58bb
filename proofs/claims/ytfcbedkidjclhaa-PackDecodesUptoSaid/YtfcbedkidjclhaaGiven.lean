/-
  A container that is handed in by two lenders: what is known behind it.
  No condition: definitions and lemmas.
-/
import Derived.Test.YtfcbedkidjclhaaBack
namespace Go.Proofs.Ytfcbedkidjclhaa
open Go.RowKit
set_option maxRecDepth 100000
set_option linter.unusedSimpArgs false
set_option linter.unusedVariables false

theorem Kp.from_ext {S : Nat → Prop} {a b c : World} (h : Ext a b) (k : Kp S b c) : Kp S a c := (Kp.of_ext (S := S) h).trans k fun _ _ e => e
theorem Kp.s5 {S : Nat → Prop} {w w' : World} (h : Kp S w w') {g : Nat} (hg : S g) (a b c d e : Value) : Kp S w (((((w'.setCell ⟨g, 0, none⟩ a).setCell ⟨g, 1, none⟩ b).setCell ⟨g, 2, none⟩ c).setCell ⟨g, 3, none⟩ d).setCell ⟨g, 4, none⟩ e) :=
  ((((h.set ⟨g, 0, none⟩ (.inl hg) a).set ⟨g, 1, none⟩ (.inl hg) b).set ⟨g, 2, none⟩ (.inl hg) c).set ⟨g, 3, none⟩ (.inl hg) d).set ⟨g, 4, none⟩ (.inl hg) e
theorem LR.lt {w : World} {g : Nat} {o : Option Nat} {rs : List UInt8} (h : LR w g o rs) : ∀ b, LS g o b → b < w.heap.size := by
  intro b hb
  cases o with
  | none =>
    rcases hb with rfl | hb
    · exact h.2.lt
    · cases hb
  | some r =>
    rcases hb with rfl | hb
    · exact h.1.lt
    · injection hb with hb
      subst hb
      exact h.2.lt
/-- what was lent reads as it was -/
theorem lend_rd {w : World} {g r n : Nat} {rs bs : List UInt8} (h : LR w g (some r) rs) (hn : bs.length = n) (h1 : 2 * n + 70 ≤ rs.length) (ht : rs.take (2 * n + 70) = bs ++ mks (n + 70)) : Rd w 1 (some ⟨r, 0, none⟩) n (bv bs) := by
  have h3 := h.rd.take (k := n) (by omega)
  rw [Nat.mul_one, bv_take] at h3
  have h4 : rs.take n = bs := by
    have h5 := congrArg (List.take n) ht
    rwa [List.take_take, Nat.min_eq_left (by omega), List.take_left' hn] at h5
  rwa [h4] at h3

/-- a room that is lent -/
structure Lt (wr W : World) (g : Nat) (o : Option Nat) (n : Nat) (bs : List UInt8) (r : Nat) (rs : List UInt8) : Prop where
  lr : LR W g (some r) rs
  or_ : o = some r ∨ wr.heap.size ≤ r
  m1 : rs.length ≤ 1000000000
  k1 : 2 * n + 70 ≤ rs.length
  t1 : rs.take (2 * n + 70) = bs ++ mks (n + 70)
theorem Lt.keep {S : Nat → Prop} {wr W W' : World} {g : Nat} {o : Option Nat} {n : Nat} {bs : List UInt8} {r : Nat} {rs : List UInt8} (h : Lt wr W g o n bs r rs) (k : Kp S W W') (hS : ∀ b, LS g (some r) b → ¬ S b) : Lt wr W' g o n bs r rs := ⟨h.lr.keep k hS, h.or_, h.m1, h.k1, h.t1⟩
theorem Lt.ext {wr W W' : World} {g : Nat} {o : Option Nat} {n : Nat} {bs : List UInt8} {r : Nat} {rs : List UInt8} (h : Lt wr W g o n bs r rs) (k : Ext W W') : Lt wr W' g o n bs r rs := ⟨h.lr.ext k, h.or_, h.m1, h.k1, h.t1⟩
theorem Lt.rd {wr W : World} {g : Nat} {o : Option Nat} {n : Nat} {bs : List UInt8} {r : Nat} {rs : List UInt8} (h : Lt wr W g o n bs r rs) (hn : bs.length = n) : Rd W 1 (some ⟨r, 0, none⟩) n (bv bs) := lend_rd h.lr hn h.k1 h.t1
theorem LendPost.lt {n : Nat} {bs : List UInt8} {g : Nat} {o : Option Nat} {wr W0 w' : World} {e : Ending} (h : LendPost n bs g o W0 e w') (hE : Ext wr W0) :
    ∃ r rs, e = .returned (.slice (some ⟨r, 0, none⟩) n rs.length) ∧ Lt wr w' g o n bs r rs ∧ Kp (LS g o) wr w' ∧ (o = some r ∨ W0.heap.size ≤ r) := by
  obtain ⟨r, rs, h1, h2, h3, h4, h5, h6, h7⟩ := h
  exact ⟨r, rs, h1, ⟨h3, h2.imp id fun h => Nat.le_trans hE.size h, h4, h5, h6⟩, Kp.from_ext hE h7, h2⟩

/-- what is known of two lenders -/
structure Le (wr : World) (gd gc : Nat) (od oc : Option Nat) (rd rc : List UInt8) : Prop where
  ld : LR wr gd od rd
  lc : LR wr gc oc rc
  md : rd.length ≤ 1000000000
  mc : rc.length ≤ 1000000000
  sep : ∀ b, LS gd od b → ¬ LS gc oc b
theorem Le.ext {wr W : World} {gd gc : Nat} {od oc : Option Nat} {rd rc : List UInt8} (h : Le wr gd gc od oc rd rc) (k : Ext wr W) : Le W gd gc od oc rd rc := ⟨h.ld.ext k, h.lc.ext k, h.md, h.mc, h.sep⟩

/-- the container handed in -/
structure Gv (wr W : World) (gd gc : Nat) (od oc : Option Nat) (lo hi : Int) (n1 n2 n3 : Nat) (data code : List UInt8) (ts : List (Int × Int)) (gq r1 r3 : Nat) (rs1 rs3 : List UInt8) (E2 : Option Addr) (g2 : Nat) : Prop where
  kp : Kp (fun b => LS gd od b ∨ LS gc oc b) wr W
  ld : Lt wr W gd od n1 data r1 rs1
  lc : Lt wr W gc oc n3 code r3 rs3
  sep : ∀ b, LS gd (some r1) b → ¬ LS gc (some r3) b
  bq : Blk W gq 25 #[.int .i64 lo, .int .i64 hi, .slice (some ⟨r1, 0, none⟩) n1 rs1.length, .slice E2 n2 g2, .slice (some ⟨r3, 0, none⟩) n3 rs3.length]
  qn : wr.heap.size ≤ gq
  rt : Rd W 2 E2 n2 (tv ts)

/-- behind the three calls -/
structure Ca (wr W : World) (gd gc : Nat) (od oc : Option Nat) (n1 n2 n3 : Nat) (data code : List UInt8) (ts : List (Int × Int)) (r1 r3 : Nat) (rs1 rs3 : List UInt8) (E2 : Option Addr) (g2 : Nat) : Prop where
  kp : Kp (fun b => LS gd od b ∨ LS gc oc b) wr W
  ld : Lt wr W gd od n1 data r1 rs1
  lc : Lt wr W gc oc n3 code r3 rs3
  sep : ∀ b, LS gd (some r1) b → ¬ LS gc (some r3) b
  own : W.ownsRow wr.heap.size 54 2 (.slice E2 n2 g2) n2 (tv ts)

section
variable {wr W : World} {gd gc : Nat} {od oc : Option Nat} {n1 n2 n3 : Nat} {data code : List UInt8} {ts : List (Int × Int)} {r1 r3 : Nat} {rs1 rs3 : List UInt8} {E2 : Option Addr} {g2 : Nat} {lo hi : Int}
theorem Ca.alloc (h : Ca wr W gd gc od oc n1 n2 n3 data code ts r1 r3 rs1 rs3 E2 g2) :
    Gv wr (W.alloc (.cells #[.int .i64 lo, .int .i64 hi, .slice (some ⟨r1, 0, none⟩) n1 rs1.length, .slice E2 n2 g2, .slice (some ⟨r3, 0, none⟩) n3 rs3.length] 25)) gd gc od oc lo hi n1 n2 n3 data code ts W.heap.size r1 r3 rs1 rs3 E2 g2 :=
  ⟨h.kp.alloc _, h.ld.ext (Ext.new _ _), h.lc.ext (Ext.new _ _), h.sep, Blk.new _ _ _, h.kp.size, (Rd.of_own h.own).alloc _⟩
theorem Ca.box (h : Ca wr W gd gc od oc n1 n2 n3 data code ts r1 r3 rs1 rs3 E2 g2) {g : Nat} {a b c d e : Value} (hg : wr.heap.size ≤ g) (hB : Blk W g 25 #[a, b, c, d, e]) :
    Gv wr (((((W.setCell ⟨g, 0, none⟩ (.int .i64 lo)).setCell ⟨g, 1, none⟩ (.int .i64 hi)).setCell ⟨g, 2, none⟩ (.slice (some ⟨r1, 0, none⟩) n1 rs1.length)).setCell ⟨g, 3, none⟩ (.slice E2 n2 g2)).setCell ⟨g, 4, none⟩ (.slice (some ⟨r3, 0, none⟩) n3 rs3.length)) gd gc od oc lo hi n1 n2 n3 data code ts g r1 r3 rs1 rs3 E2 g2 := by
  have hK : Kp (fun b => b = g) W (((((W.setCell ⟨g, 0, none⟩ (.int .i64 lo)).setCell ⟨g, 1, none⟩ (.int .i64 hi)).setCell ⟨g, 2, none⟩ (.slice (some ⟨r1, 0, none⟩) n1 rs1.length)).setCell ⟨g, 3, none⟩ (.slice E2 n2 g2)).setCell ⟨g, 4, none⟩ (.slice (some ⟨r3, 0, none⟩) n3 rs3.length)) := Kp.s5 (S := fun b => b = g) (Kp.refl W) rfl _ _ _ _ _
  have n1' : ∀ b, LS gd (some r1) b → ¬ b = g := by
    rintro b (rfl | hb) rfl
    · exact Blk.ne_ h.ld.lr.1 hB (by decide) rfl
    · injection hb with hb; subst hb; exact Blk.ne_ h.ld.lr.2 hB (by decide) rfl
  have n3' : ∀ b, LS gc (some r3) b → ¬ b = g := by
    rintro b (rfl | hb) rfl
    · exact Blk.ne_ h.lc.lr.1 hB (by decide) rfl
    · injection hb with hb; subst hb; exact Blk.ne_ h.lc.lr.2 hB (by decide) rfl
  exact ⟨h.kp.trans hK fun i hi e => by omega, h.ld.keep hK n1', h.lc.keep hK n3', h.sep, hB.s5 _ _ _ _ _, hg,
    Rd.of_own (hK.own h.own fun k e1 e2 => own_blk_ne h.own hB (by decide) (by rw [e1, e2]))⟩

theorem Le.lt1 {rd rc : List UInt8} (h : Le wr gd gc od oc rd rc) : ∀ b, LS gd od b → b < wr.heap.size := h.ld.lt
theorem Le.lt2 {rd rc : List UInt8} (h : Le wr gd gc od oc rd rc) : ∀ b, LS gc oc b → b < wr.heap.size := h.lc.lt

/-- the third call, behind the first and the copy of the tables -/
theorem ca_mk {rd rc : List UInt8} (h : Le wr gd gc od oc rd rc) {w1 w2 W2 w3 : World} (hK1 : Kp (LS gd od) wr w1) (hL1 : Lt wr w1 gd od n1 data r1 rs1) (hX2 : Ext w1 w2) (own2 : w2.ownsRow w1.heap.size 54 2 (.slice E2 n2 g2) n2 (tv ts)) (hX : Ext w2 W2)
    (hK3 : Kp (LS gc oc) W2 w3) (hL3 : Lt W2 w3 gc oc n3 code r3 rs3) : Ca wr w3 gd gc od oc n1 n2 n3 data code ts r1 r3 rs1 rs3 E2 g2 := by
  have s1 := hK1.size
  have s2 := hX2.size
  have s3 := hX.size
  have hK23 : Kp (LS gc oc) w2 w3 := Kp.from_ext hX hK3
  have hK13 : Kp (LS gc oc) w1 w3 := Kp.from_ext hX2 hK23
  have hr1 : r1 < w1.heap.size := hL1.lr.2.lt
  have sp1 : ∀ b, LS gd (some r1) b → ¬ LS gc oc b := by
    rintro b (rfl | hb) hc
    · exact h.sep _ (.inl rfl) hc
    · injection hb with hb
      subst hb
      rcases hL1.or_ with ho | ho
      · exact h.sep _ (.inr ho) hc
      · have := h.lt2 _ hc; omega
  have hor := hL3.or_
  refine ⟨?_, hL1.keep hK13 sp1, ⟨hL3.lr, hor.imp id fun h => by omega, hL3.m1, hL3.k1, hL3.t1⟩, ?_, ?_⟩
  · exact (hK1.mono (T := fun b => LS gd od b ∨ LS gc oc b) fun _ _ e => .inl e).trans hK13 fun _ _ e => .inr e
  · rintro b hb (rfl | hc)
    · exact sp1 _ hb (.inl rfl)
    · injection hc with hc
      subst hc
      rcases hor with ho | ho
      · exact sp1 _ hb (.inr ho)
      · have h4 := hL1.lr.lt _ hb
        omega
  · refine hK23.own (own_base own2 s1) fun k e1 e2 => ?_
    have h5 := (own2.lt k e1).1
    have h6 := h.lt2 k e2
    omega
end

theorem LendPost.kp {n : Nat} {bs : List UInt8} {g : Nat} {o : Option Nat} {wr W0 w' : World} {e : Ending} (h : LendPost n bs g o W0 e w') (hE : Ext wr W0) : Kp (LS g o) wr w' := by
  obtain ⟨r, rs, h1, h2, h3, h4, h5, h6, h7⟩ := h
  exact Kp.from_ext hE h7
theorem LR.alloc_ {w : World} {g : Nat} {o : Option Nat} {rs : List UInt8} (h : LR w g o rs) (x : Obj) : LR (w.alloc x) g o rs := h.ext (Ext.new _ _)
theorem own_from {w w' W : World} {e : TypeId} {sz n : Nat} {v : Value} {xs : List Value} (h : w.ownsRow W.heap.size e sz v n xs) (k : Ext w' W) : w.ownsRow w'.heap.size e sz v n xs := own_base h k.size

theorem c5_far5 {w : World} {g z : Nat} {t : TypeId} {a b c d e v0 v1 v2 v3 v4 : Value} (h : Blk w g t #[a, b, c, d, e]) (hne : g ≠ z) :
    (((((w.setCell ⟨z, 0, none⟩ v0).setCell ⟨z, 1, none⟩ v1).setCell ⟨z, 2, none⟩ v2).setCell ⟨z, 3, none⟩ v3).setCell ⟨z, 4, none⟩ v4).cell? ⟨g, 0, none⟩ = some a ∧ (((((w.setCell ⟨z, 0, none⟩ v0).setCell ⟨z, 1, none⟩ v1).setCell ⟨z, 2, none⟩ v2).setCell ⟨z, 3, none⟩ v3).setCell ⟨z, 4, none⟩ v4).cell? ⟨g, 1, none⟩ = some b ∧
    (((((w.setCell ⟨z, 0, none⟩ v0).setCell ⟨z, 1, none⟩ v1).setCell ⟨z, 2, none⟩ v2).setCell ⟨z, 3, none⟩ v3).setCell ⟨z, 4, none⟩ v4).cell? ⟨g, 2, none⟩ = some c ∧ (((((w.setCell ⟨z, 0, none⟩ v0).setCell ⟨z, 1, none⟩ v1).setCell ⟨z, 2, none⟩ v2).setCell ⟨z, 3, none⟩ v3).setCell ⟨z, 4, none⟩ v4).cell? ⟨g, 3, none⟩ = some d ∧
    (((((w.setCell ⟨z, 0, none⟩ v0).setCell ⟨z, 1, none⟩ v1).setCell ⟨z, 2, none⟩ v2).setCell ⟨z, 3, none⟩ v3).setCell ⟨z, 4, none⟩ v4).cell? ⟨g, 4, none⟩ = some e :=
  (((((h.far (p := ⟨z, 0, none⟩) hne v0).far (p := ⟨z, 1, none⟩) hne v1).far (p := ⟨z, 2, none⟩) hne v2).far (p := ⟨z, 3, none⟩) hne v3).far (p := ⟨z, 4, none⟩) hne v4).c5

end Go.Proofs.Ytfcbedkidjclhaa
