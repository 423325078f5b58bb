/-
  The contract of pack.Decode: it answers as Pk.decode says.
  Conditions: the bytes read as a list, their number within what a machine may hold.
-/
import Derived.Test.YtfcbedkidjclhaaDec5
import Derived.Test.YtfcbedkidjclhaaPackL
import Derived.BigRegion
namespace Go.Proofs.Ytfcbedkidjclhaa
open Go.RowKit
set_option maxRecDepth 100000
set_option linter.unusedSimpArgs false
set_option linter.unusedVariables false

namespace Pk
theorem tabs_len : ∀ (l : List UInt8) (s : Nat) (ts : List (Int × Int)), tabs s l = .ok ts → ts.length * 2 ≤ l.length
  | [], s, ts, h => by simp [tabs] at h; subst h; simp
  | [_], s, ts, h => by simp [tabs] at h; subst h; simp
  | a :: b :: l, s, ts, h => by
    rw [tabs] at h
    split at h
    · cases h
    · split at h
      · cases h
      · split at h
        · cases h
        · rename_i t ht
          injection h with h
          subst h
          have := tabs_len l _ _ ht
          simp only [List.length_cons]
          omega

/-- the tables stand in one section -/
def Fine (r : R) : Prop := r.kind ≤ 4 ∧ (r.kind < 2 → r.c.ts = []) ∧ r.c.ts.length ≤ 8

theorem sect_ok {bs : List UInt8} {r r' : R} (h : sect bs r = .ok r') (hf : Fine r) : r.pos + 5 ≤ r'.pos ∧ r'.pos ≤ bs.length ∧ Fine r' := by
  unfold sect at h
  simp only at h
  generalize (bs.getD r.pos 0).toNat = k at h
  generalize val ((bs.drop (r.pos + 1)).take 3) = size at h
  split at h
  · cases h
  split at h
  · cases h
  split at h
  · cases h
  split at h
  · cases h
  split at h
  · cases h
  split at h
  · cases h
  rename_i h1 h2 h3 h4 h5 h6
  obtain ⟨f1, f2, f3⟩ := hf
  split at h
  · cases h
  · rename_i c hc
    injection h with h
    subst h
    refine ⟨by simp only; omega, by simp only; omega, ?_⟩
    unfold cont at hc
    split at hc
    · split at hc
      · cases hc
      · injection hc with hc
        subst hc
        exact ⟨by simp only; omega, fun _ => f2 (by omega), f3⟩
    · split at hc
      · split at hc
        · cases hc
        · rename_i ts ht
          injection hc with hc
          subst hc
          have h7 := tabs_len _ _ _ ht
          simp only [List.length_take, List.length_drop] at h7
          refine ⟨by simp only; omega, fun _ => by simp only at *; omega, ?_⟩
          simp only
          rw [f2 (by omega), List.nil_append]
          omega
      · split at hc
        · injection hc with hc
          subst hc
          exact ⟨by simp only; omega, fun _ => by simp only at *; omega, f3⟩
        · injection hc with hc
          subst hc
          exact ⟨by simp only; omega, fun _ => by simp only at *; omega, f3⟩
end Pk

/-- what Decode answers -/
def DecPost (x : Pk.C × Nat × Int) (w : World) (e : Ending) (w' : World) : Prop :=
  ∃ D n1 c1 T n2 c2 C n3 c3, e = .returned (.tuple #[.agg #[.int .i64 x.1.lo, .int .i64 x.1.hi, .slice D n1 c1, .slice T n2 c2, .slice C n3 c3], .int .i64 (x.2.1 : Int), .int .i64 x.2.2]) ∧ Ext w w' ∧
    w'.ownsRow w.heap.size 5 1 (.slice D n1 c1) n1 (bv x.1.data) ∧ w'.ownsRow w.heap.size 54 2 (.slice T n2 c2) n2 (tv x.1.ts) ∧ w'.ownsRow w.heap.size 5 1 (.slice C n3 c3) n3 (bv x.1.code) ∧
    ((Value.slice D n1 c1).ownBlock = none ∨ (Value.slice D n1 c1).ownBlock ≠ (Value.slice C n3 c3).ownBlock)
theorem DecPost.err {x : Pk.C × Nat × Int} {w w' : World} {p : Nat} {q n : Int} (h : x = (Pk.C0, p, n)) (hq : q = p) (hX : Ext w w') :
    DecPost x w (.returned (.tuple #[.agg #[.int .i64 0, .int .i64 0, .slice none 0 0, .slice none 0 0, .slice none 0 0], .int .i64 q, .int .i64 n])) w' := by
  subst h
  subst hq
  exact ⟨none, 0, 0, none, 0, 0, none, 0, 0, rfl, hX, World.ownsRow_nil _ _ _ _, World.ownsRow_nil _ _ _ _, World.ownsRow_nil _ _ _ _, .inl rfl⟩

/-- where a reader stands, in memory -/
def posOf (g : Nat) (w : World) : Nat := match w.cell? ⟨g, 1, none⟩ with | some v => (intOf v).toNat | none => 0

set_option maxHeartbeats 1000000 in
theorem Decode_early (A : Option Addr) (n c : Nat) (bs : List UInt8) (w : World) (h : Rd w 1 A n (bv bs)) (hn : n ≤ 140737488355328) (hnc : n ≤ c) (p : Nat) (m : Int)
    (hf : (131072 < n ∧ p = 0 ∧ m = 2) ∨ (n ≤ 131072 ∧ ((n < 8 ∧ p = n ∧ m = 120) ∨ (8 ≤ n ∧ ((bs.take 4 ≠ Pk.magic ∧ p = 0 ∧ m = 120) ∨ (bs.take 4 = Pk.magic ∧ Pk.sum (bs.take (n - 4)) ≠ Pk.val (bs.drop (n - 4)) ∧ p = n - 4 ∧ m = 124)))))) :
    Calls Try.prog 39 #[.slice A n c] w (DecPost (Pk.C0, p, m) w) := by
  go_enter Try.func39, Try.ntmps39
  go_upto_region 1 with (fail)
  refine wp_world (fun W => Ext w W ∧ Blk W w.heap.size 25 #[.int .i64 0, .int .i64 0, .slice none 0 0, .slice none 0 0, .slice none 0 0]) ⟨Ext.new _ _, Blk.new _ _ _⟩ ?_
  rintro W ⟨hX, hP⟩
  obtain ⟨p0, p1, p2, p3, p4⟩ := hP.c5
  obtain ⟨q0, q1, q2, q3, q4⟩ := hP.f5
  have hXF := Ext.s5 hX (Nat.le_refl _) (.int .i64 0) (.int .i64 0) (.slice none 0 0) (.slice none 0 0) (.slice none 0 0)
  have hrW := h.ext hX
  have hw4 : IntKind.i64.wrap ((n : Int) - 4) = (n : Int) - 4 := by rw [IntKind.wrap_i64]; omega
  rcases hf with ⟨hf, rfl, rfl⟩ | ⟨hf, ⟨hf1, rfl, rfl⟩ | ⟨hf1, ⟨hf2, rfl, rfl⟩ | ⟨hf2, hf3, rfl, rfl⟩⟩⟩
  · go_wp2
    obtain ⟨x0, x1, x2, x3, x4⟩ := (hP.s5 (.int .i64 0) (.int .i64 0) (.slice none 0 0) (.slice none 0 0) (.slice none 0 0)).c5
    refine bodyPost_ret (v := .tuple #[.agg #[.int .i64 0, .int .i64 0, .slice none 0 0, .slice none 0 0, .slice none 0 0], .int .i64 0, .int .i64 2]) (by simp [results, Try.results39, go_sem, x0, x1, x2, x3, x4]) rfl (DecPost.err rfl rfl hXF)
  · go_wp2
    obtain ⟨x0, x1, x2, x3, x4⟩ := (hP.s5 (.int .i64 0) (.int .i64 0) (.slice none 0 0) (.slice none 0 0) (.slice none 0 0)).c5
    refine bodyPost_ret (v := .tuple #[.agg #[.int .i64 0, .int .i64 0, .slice none 0 0, .slice none 0 0, .slice none 0 0], .int .i64 p, .int .i64 120]) (by simp [results, Try.results39, go_sem, x0, x1, x2, x3, x4]) rfl (DecPost.err rfl rfl hXF)
  · obtain ⟨b, o, rfl, hc⟩ := hrW.form (by omega) (by omega)
    clear hc
    have h4 : Rd W 1 (some ⟨b, o, none⟩) 4 (bv (bs.take 4)) := by have := hrW.take (k := 4) (by omega); rwa [Nat.mul_one, bv_take] at this
    have k1 := run_str (P := Try.prog) W 22 9 5 (some ⟨b, o, none⟩) 4 c (bs.take 4) Try.underlying22 Try.underlying5 Try.underlying9 h4
    have hb : (List.take 4 bs == [87, 80, 75, 49]) = false := by simpa [Pk.magic] using hf2
    go_wp2
    obtain ⟨x0, x1, x2, x3, x4⟩ := (hP.s5 (.int .i64 0) (.int .i64 0) (.slice none 0 0) (.slice none 0 0) (.slice none 0 0)).c5
    refine bodyPost_ret (v := .tuple #[.agg #[.int .i64 0, .int .i64 0, .slice none 0 0, .slice none 0 0, .slice none 0 0], .int .i64 0, .int .i64 120]) (by simp [results, Try.results39, go_sem, x0, x1, x2, x3, x4]) rfl (DecPost.err rfl rfl hXF)
  · obtain ⟨b, o, rfl, hc⟩ := hrW.form (by omega) (by omega)
    clear hc
    have h4 : Rd W 1 (some ⟨b, o, none⟩) 4 (bv (bs.take 4)) := by have := hrW.take (k := 4) (by omega); rwa [Nat.mul_one, bv_take] at this
    have k1 := run_str (P := Try.prog) W 22 9 5 (some ⟨b, o, none⟩) 4 c (bs.take 4) Try.underlying22 Try.underlying5 Try.underlying9 h4
    have hb : (List.take 4 bs == [87, 80, 75, 49]) = true := by rw [hf2]; rfl
    obtain ⟨N, hN⟩ : ∃ N, n = N + 4 := ⟨n - 4, by omega⟩
    have hs1 : Rd W 1 (some ⟨b, o, none⟩) N (bv (bs.take N)) := by have := hrW.take (k := N) (by omega); rwa [Nat.mul_one, bv_take] at this
    have hs2 : Rd W 1 (some ⟨b, o + N, none⟩) 4 (bv (bs.drop N)) := by
      have := hrW.cut (k := N) (cap := n + 5) (by omega) (by omega)
      rw [if_neg (by omega), Nat.mul_one, bv_drop, show n - N = 4 by omega] at this
      simpa [Addr.add, show N ≠ 0 by omega] using this
    have hw5 : IntKind.i64.wrap ((n : Int) - 4) = (N : Int) := by rw [IntKind.wrap_i64]; omega
    have i0 : (N : Int) ≤ (n : Int) := by omega
    have i1 : (N : Int) ≤ (c : Int) := by omega
    have i2 : n - N = 4 := by omega
    have i3 : (n : Int) - (N : Int) = 4 := by omega
    rw [show n - 4 = N by omega] at hf3 ⊢
    have HN := hd hN
    clear hN hw4
    obtain ⟨S, hS⟩ : ∃ S, Pk.sum (bs.take N) = S := ⟨_, rfl⟩
    obtain ⟨V, hV⟩ : ∃ V, Pk.val (bs.drop N) = V := ⟨_, rfl⟩
    have hf4 : S ≠ V := by rw [← hS, ← hV]; exact hf3
    clear hf3
    have hSl : S < 4294967296 := by rw [← hS]; exact Pk.sum_lt _
    have cs : ∀ m, Calls Try.prog 73 #[.slice (some ⟨b, o, none⟩) N c] (W.drewN m) fun e w' => e = .returned (.int .u32 S) ∧ w' = W.drewN m := fun m =>
      (sum_any (some ⟨b, o, none⟩) N c _ (W.drewN m) (hs1.drewN m) (by omega)).mono fun e w' ⟨he, hw⟩ => ⟨by rw [he, hS], hw.symm⟩
    have cg : ∀ m, Calls Try.prog 81 #[.slice (some ⟨b, o + N, none⟩) 4 (c - N)] (W.drewN m) fun e w' => e = .returned (.int .i64 V) ∧ w' = W.drewN m := fun m =>
      (get_any (some ⟨b, o + N, none⟩) 4 (c - N) _ (W.drewN m) (hs2.drewN m) (by omega)).mono fun e w' ⟨he, hw⟩ => ⟨by rw [he, hV], hw.symm⟩
    have CS := hd cs
    have CG := hd cg
    clear cs cg hrW h4 hS hV
    have hSV : ((S : Int) != (V : Int)) = true := by
      simp
      omega
    go_upto_region 8 with (fail)
    go_quiet (first | (go_at_call 73; exact Calls.quiet_of_same (CS.out _)) | (go_at_call 81; exact Calls.quiet_of_same (CG.out _)))
    go_wp2
    obtain ⟨x0, x1, x2, x3, x4⟩ := (Blk.s5 (w := W.drewN nq) hP (.int .i64 0) (.int .i64 0) (.slice none 0 0) (.slice none 0 0) (.slice none 0 0)).c5
    refine bodyPost_ret (v := .tuple #[.agg #[.int .i64 0, .int .i64 0, .slice none 0 0, .slice none 0 0, .slice none 0 0], .int .i64 N, .int .i64 124]) (by simp [results, Try.results39, go_sem, x0, x1, x2, x3, x4]) rfl (DecPost.err rfl (by have := HN.out; omega) (Ext.s5 (hX.drewN nq) (Nat.le_refl _) _ _ _ _ _))

/-- what Decode answers behind its sum -/
def decMain (N : Nat) (x : Except (Nat × Int) Pk.R) : Pk.C × Nat × Int := match x with | .error e => (Pk.C0, e.1, e.2) | .ok r => if r.kind = 0 then (Pk.C0, N, 120) else (r.c, 0, 0)

set_option maxHeartbeats 2000000 in
theorem Decode_main (A : Option Addr) (n c : Nat) (bs : List UInt8) (w : World) (h : Rd w 1 A n (bv bs)) (hn : n ≤ 131072) (hnc : n ≤ c) (hf1 : 8 ≤ n) (hf2 : bs.take 4 = Pk.magic) (hf3 : Pk.sum (bs.take (n - 4)) = Pk.val (bs.drop (n - 4)))
    (X : Except (Nat × Int) Pk.R) (hX : Pk.sects (bs.take (n - 4)) n ⟨4, 0, Pk.C0⟩ = X) :
    Calls Try.prog 39 #[.slice A n c] w (DecPost (decMain (n - 4) X) w) := by
  have HXX := hd hX
  clear hX
  go_enter Try.func39, Try.ntmps39
  go_upto_region 1 with (fail)
  refine wp_world (fun W => Ext w W ∧ Blk W w.heap.size 25 #[.int .i64 0, .int .i64 0, .slice none 0 0, .slice none 0 0, .slice none 0 0]) ⟨Ext.new _ _, Blk.new _ _ _⟩ ?_
  rintro W ⟨hX, hP⟩
  have hrW := h.ext hX
  obtain ⟨b, o, rfl, hc⟩ := hrW.form (by omega) (by omega)
  clear hc
  have h4 : Rd W 1 (some ⟨b, o, none⟩) 4 (bv (bs.take 4)) := by have := hrW.take (k := 4) (by omega); rwa [Nat.mul_one, bv_take] at this
  have k1 := run_str (P := Try.prog) W 22 9 5 (some ⟨b, o, none⟩) 4 c (bs.take 4) Try.underlying22 Try.underlying5 Try.underlying9 h4
  have hb : (List.take 4 bs == [87, 80, 75, 49]) = true := by rw [hf2]; rfl
  obtain ⟨N, hN⟩ : ∃ N, n = N + 4 := ⟨n - 4, by omega⟩
  have hs1 : Rd W 1 (some ⟨b, o, none⟩) N (bv (bs.take N)) := by have := hrW.take (k := N) (by omega); rwa [Nat.mul_one, bv_take] at this
  have hs2 : Rd W 1 (some ⟨b, o + N, none⟩) 4 (bv (bs.drop N)) := by
    have := hrW.cut (k := N) (cap := n + 5) (by omega) (by omega)
    rw [if_neg (by omega), Nat.mul_one, bv_drop, show n - N = 4 by omega] at this
    simpa [Addr.add, show N ≠ 0 by omega] using this
  have hw5 : IntKind.i64.wrap ((n : Int) - 4) = (N : Int) := by rw [IntKind.wrap_i64]; omega
  have i0 : (N : Int) ≤ (n : Int) := by omega
  have i1 : (N : Int) ≤ (c : Int) := by omega
  have i2 : n - N = 4 := by omega
  have i3 : (n : Int) - (N : Int) = 4 := by omega
  rw [show n - 4 = N by omega] at hf3 HXX ⊢
  have HN := hd hN
  clear hN
  obtain ⟨S, hS⟩ : ∃ S, Pk.sum (bs.take N) = S := ⟨_, rfl⟩
  have hV : Pk.val (bs.drop N) = S := by rw [← hf3, hS]
  clear hf3
  have hSl : S < 4294967296 := by rw [← hS]; exact Pk.sum_lt _
  have cs : ∀ m, Calls Try.prog 73 #[.slice (some ⟨b, o, none⟩) N c] (W.drewN m) fun e w' => e = .returned (.int .u32 S) ∧ w' = W.drewN m := fun m =>
    (sum_any (some ⟨b, o, none⟩) N c _ (W.drewN m) (hs1.drewN m) (by omega)).mono fun e w' ⟨he, hw⟩ => ⟨by rw [he, hS], hw.symm⟩
  have cg : ∀ m, Calls Try.prog 81 #[.slice (some ⟨b, o + N, none⟩) 4 (c - N)] (W.drewN m) fun e w' => e = .returned (.int .i64 S) ∧ w' = W.drewN m := fun m =>
    (get_any (some ⟨b, o + N, none⟩) 4 (c - N) _ (W.drewN m) (hs2.drewN m) (by omega)).mono fun e w' ⟨he, hw⟩ => ⟨by rw [he, hV], hw.symm⟩
  have CS := hd cs
  have CG := hd cg
  clear cs cg hrW h4 hS hV hs2
  go_upto_region 8 with (fail)
  go_quiet (first | (go_at_call 73; exact Calls.quiet_of_same (CS.out _)) | (go_at_call 81; exact Calls.quiet_of_same (CG.out _)))
  clear CS CG k1 i3 i2
  go_wp2
  refine wp_world (fun W2 => RB W W2 W.heap.size (some ⟨b, o, none⟩) N 4 0 Pk.C0) ⟨((Ext.refl W).drewN nq).alloc _, Nat.le_refl _, none, 0, 0, none, 0, 0, none, 0, 0, Blk.new (W.drewN nq) 119 _, World.ownsRow_nil _ _ _ _, World.ownsRow_nil _ _ _ _, World.ownsRow_nil _ _ _ _, .inl rfl⟩ ?_
  intro W2 hR2
  have hN4 : 4 ≤ N := by have := HN.out; omega
  have hNl : N ≤ 1000000 := by have := HN.out; omega
  have hWs := hX.size
  have hlt0 := hP.lt
  go_loopw [8] (fun _ wr => ∃ (pos kind f : Nat) (c : Pk.C), RB W wr W.heap.size (some ⟨b, o, none⟩) N pos kind c ∧ pos ≤ N ∧ Hid (Pk.Fine ⟨pos, kind, c⟩ ∧ N < pos + f ∧ Pk.sects (bs.take N) f ⟨pos, kind, c⟩ = X)) (fun _ wr => N - posOf W.heap.size wr)
  case atStart => exact ⟨4, 0, n, Pk.C0, hR2, by omega, hd ⟨⟨by simp, by simp [Pk.C0], by simp [Pk.C0]⟩, by omega, HXX.out⟩⟩
  case round =>
    obtain ⟨pos, kind, f, c', hR, hpN, HF⟩ := hrel
    obtain ⟨hXr, _, D, n1, c1, T, n2, c2, C, n3, c3, hB, o1, o2, o3, hne⟩ := id hR
    obtain ⟨p0, p1, p2, p3, p4, p5, p6, p7⟩ := hB.c8
    have hPr := hP.ext hXr
    have hk4 : kind ≤ 4 := HF.out.1.1
    have ht8 : c'.ts.length ≤ 1000 := Nat.le_trans HF.out.1.2.2 (by omega)
    by_cases hlt : pos < N
    · rcases hS : Pk.sect (bs.take N) ⟨pos, kind, c'⟩ with ⟨p, m⟩ | ⟨pos', kind', c''⟩
      · have HSS := hd hS
        clear hS
        go_upto_region 14 with (go_at_call 82; (with_reducible refine (rsection_any W _ _ N pos kind _ c' (bs.take N) hR hs1 hNl hlt hk4 ht8).mono ?_); rw [HSS.out]; rintro e w3 ⟨rfl, hX3⟩)
        refine wp_box121 ?_
        intro W4 hX4 hF4
        have hP4 := hP.ext (hX3.trans hX4)
        obtain ⟨r0, r1, r2, r3, r4⟩ := hP4.c5
        obtain ⟨q0, q1, q2, q3, q4⟩ := hP4.f5
        obtain ⟨y0, y1⟩ := hF4.c2
        have hXF := (hX.trans hX3).trans hX4
        have hEX : decMain N X = (Pk.C0, p, m) := by
          obtain ⟨_, hf, hs⟩ := HF.out
          obtain ⟨f', rfl⟩ : ∃ f', f = f' + 1 := ⟨f - 1, by omega⟩
          rw [Pk.sects, if_pos (by simp only [List.length_take]; have := h.1; rw [bv_length] at this; omega), HSS.out] at hs
          rw [← hs]
          rfl
        have HEX := hd hEX
        have hne3 : w3.heap.size ≠ w.heap.size := by have := hX3.size; omega
        have hne4 : w.heap.size ≠ w3.heap.size := Ne.symm hne3
        clear hEX HF HSS hne o1 o2 o3 hB p0 p1 p2 p3 p4 p5 p6 p7 hR hR2 hs1 h hXr hPr hX4 hX3 hF4
        go_region
        go_wp2
        obtain ⟨x0, x1, x2, x3, x4⟩ := (hP4.s5 (.int .i64 0) (.int .i64 0) (.slice none 0 0) (.slice none 0 0) (.slice none 0 0)).drew.c5
        refine bodyPost_ret (v := .tuple #[.agg #[.int .i64 0, .int .i64 0, .slice none 0 0, .slice none 0 0, .slice none 0 0], .int .i64 p, .int .i64 m]) (by simp [results, Try.results39, go_sem, x0, x1, x2, x3, x4]) rfl
          (DecPost.err (by rw [← HEX.out, show n - 4 = N by have := HN.out; omega]) rfl (Ext.s5 hXF (Nat.le_refl _) _ _ _ _ _).drew)
      · have HSS := hd hS
        clear hS
        go_wp2_with (go_at_call 82; (with_reducible refine (rsection_any W _ _ N pos kind _ c' (bs.take N) hR hs1 hNl hlt hk4 ht8).mono ?_); rw [HSS.out]; rintro e w3 ⟨rfl, hR3⟩)
        obtain ⟨hfi, hfu, hs⟩ := HF.out
        obtain ⟨f', rfl⟩ : ∃ f', f = f' + 1 := ⟨f - 1, by omega⟩
        have hbl : (bs.take N).length = N := by have := hs1.1; rw [bv_length] at this; omega
        have hso := Pk.sect_ok HSS.out hfi
        simp only at hso
        rw [Pk.sects_step (by simp only; omega) HSS.out] at hs
        have hR4 := hR3.grow (Ext.new w3 (.cells #[.int .i64 0, .int .i64 0] 121))
        go_roundw
        case rel => exact ⟨_, _, _, _, _, _, _, _, _, _, _, _, _, _, _, _, _, _, _, _, _, _, ⟨pos', kind', f', c'', hR4, by omega, hd ⟨hso.2.2, by omega, hs⟩⟩, rfl⟩
        case measure =>
          obtain ⟨_, _, _, _, _, _, _, _, _, _, _, hB4, _⟩ := hR4
          have z1 := hB4.c8.2.1
          simp only [posOf, p1, z1, intOf]
          omega
    · obtain ⟨q0, q1, q2, q3, q4⟩ := hPr.f5
      obtain ⟨r0, r1, r2, r3, r4⟩ := hPr.c5
      have hEX : X = .ok ⟨pos, kind, c'⟩ := by
        obtain ⟨_, _, hs⟩ := HF.out
        rw [Pk.sects_end f (by simp only [List.length_take]; omega)] at hs
        exact hs.symm
      have HEX := hd hEX
      clear hEX HF hs1 h hR hR2 hB
      have hXF := hX.trans hXr
      by_cases hk0 : kind = 0
      · subst hk0
        have p2' : wr.cell? ⟨W.heap.size, 2, none⟩ = some (.int .i64 0) := p2
        clear p2
        go_wp2
        obtain ⟨x0, x1, x2, x3, x4⟩ := (hPr.s5 (.int .i64 0) (.int .i64 0) (.slice none 0 0) (.slice none 0 0) (.slice none 0 0)).c5
        refine bodyPost_ret (v := .tuple #[.agg #[.int .i64 0, .int .i64 0, .slice none 0 0, .slice none 0 0, .slice none 0 0], .int .i64 N, .int .i64 120]) (by simp [results, Try.results39, go_sem, x0, x1, x2, x3, x4]) rfl
          (DecPost.err (p := N) (by rw [HEX.out, show n - 4 = N by have := HN.out; omega]; rfl) rfl (Ext.s5 hXF (Nat.le_refl _) _ _ _ _ _))
      · have hkb : ((kind : Int) == 0) = false := by simp; omega
        go_wp2
        obtain ⟨x0, x1, x2, x3, x4⟩ := (hPr.s5 (.int .i64 c'.lo) (.int .i64 c'.hi) (.slice D n1 c1) (.slice T n2 c2) (.slice C n3 c3)).c5
        refine bodyPost_ret (v := .tuple #[.agg #[.int .i64 c'.lo, .int .i64 c'.hi, .slice D n1 c1, .slice T n2 c2, .slice C n3 c3], .int .i64 0, .int .i64 0]) (by simp [results, Try.results39, go_sem, x0, x1, x2, x3, x4]) rfl ?_
        rw [HEX.out, show decMain (n - 4) (.ok ⟨pos, kind, c'⟩) = (c', 0, 0) by simp [decMain, hk0]]
        exact ⟨D, n1, c1, T, n2, c2, C, n3, c3, rfl, Ext.s5 hXF (Nat.le_refl _) _ _ _ _ _, own_base (own_s5 o1 (own_blk_ne o1 hPr (by decide)) _ _ _ _ _) hWs, own_base (own_s5 o2 (own_blk_ne o2 hPr (by decide)) _ _ _ _ _) hWs, own_base (own_s5 o3 (own_blk_ne o3 hPr (by decide)) _ _ _ _ _) hWs, hne⟩

/-- Decode: the container, or where and which error, as Pk says -/
theorem Decode_any (A : Option Addr) (n c : Nat) (bs : List UInt8) (w : World) (h : Rd w 1 A n (bv bs)) (hn : n ≤ 140737488355328) (hnc : n ≤ c) :
    Calls Try.prog 39 #[.slice A n c] w (DecPost (Pk.decode bs) w) := by
  have hl : bs.length = n := by have := h.1; rw [bv_length] at this; omega
  unfold Pk.decode
  rw [hl]
  by_cases h1 : 131072 < n
  · rw [if_pos h1]
    exact Decode_early A n c bs w h hn hnc 0 2 (by omega)
  rw [if_neg h1]
  by_cases h2 : n < 8
  · rw [if_pos h2]
    exact Decode_early A n c bs w h hn hnc n 120 (by omega)
  rw [if_neg h2]
  by_cases h3 : bs.take 4 = Pk.magic
  · rw [if_neg (by simp [h3])]
    by_cases h4 : Pk.sum (bs.take (n - 4)) = Pk.val (bs.drop (n - 4))
    · rw [if_neg (by simp [h4])]
      exact Decode_main A n c bs w h (by omega) hnc (by omega) h3 h4 _ rfl
    · rw [if_pos h4]
      exact Decode_early A n c bs w h hn hnc (n - 4) 124 (.inr ⟨by omega, .inr ⟨by omega, .inr ⟨h3, h4, rfl, rfl⟩⟩⟩)
  · rw [if_pos h3]
    exact Decode_early A n c bs w h hn hnc 0 120 (.inr ⟨by omega, .inr ⟨by omega, .inl ⟨h3, rfl, rfl⟩⟩⟩)

end Go.Proofs.Ytfcbedkidjclhaa
