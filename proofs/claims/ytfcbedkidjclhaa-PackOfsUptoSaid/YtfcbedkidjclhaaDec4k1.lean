/-
  The contract of pack's (*reader).section: a section that is right as far as its contents; the whole.
  Conditions: as in Dec3.
-/
import Derived.Test.YtfcbedkidjclhaaDec4
namespace Go.Proofs.Ytfcbedkidjclhaa
open Go.RowKit
set_option maxRecDepth 100000
set_option linter.unusedSimpArgs false
set_option linter.unusedVariables false

set_option maxHeartbeats 2000000 in
theorem section_good1 (w0 w : World) (g L pos kind size : Nat) (A : Option Addr) (c : Pk.C) (bs : List UInt8) (hR : RB w0 w g A L pos kind c) (hr : Rd w0 1 A L (bv bs)) (hL : L ≤ 1000000) (hpos : pos < L)
    (hk : ∀ h : pos < bs.length, bs[pos].toNat = 1) (kk : kind < 1) (k0 : kind = 0) (hsz : Pk.val ((bs.drop (pos + 1)).take 3) = size) (hz : size = 4) (hlen : pos + 4 + size ≤ L) (hts : c.ts.length ≤ 1000) :
    Calls Try.prog 82 #[.pointer (some ⟨g, 0, none⟩)] w (SectPost (ContSect (Pk.cont 1 ((bs.drop (pos + 4)).take size) (pos + 4) c) (pos + 4 + size) 1) w0 g A L) := by
  have hR0 := hR
  obtain ⟨hX0, hold, D, n1, c1, T, n2, c2, C, n3, c3, hB, o1, o2, o3, hne⟩ := hR
  have hbl : bs.length = L := by have := hr.1; rw [bv_length] at this; omega
  have hpl : pos < bs.length := by omega
  have HK := hd hk
  have hs32 : size < 4294967296 := by rw [← hsz]; exact Pk.val_small _ (by simp; omega)
  have HS := hd hsz
  clear hbl hk hsz
  go_enter Try.func82, Try.ntmps82
  go_upto_region 1 with (fail)
  refine wp_box121 ?_
  intro W hX hF
  have hB' := hB.ext hX
  obtain ⟨p0, p1, p2, p3, p4, p5, p6, p7⟩ := hB'.c8
  obtain ⟨q0, q1, q2, q3, q4, q5, q6, q7⟩ := hB'.f8
  obtain ⟨b, o, rfl, hc⟩ := (hr.ext (hX0.trans hX)).form (by omega) (by omega)
  have ck : W.cell? ⟨b, o + pos, none⟩ = some (.int .u8 1) := by have ck := hc _ _ (bv_get bs pos hpl); rw [HK.out hpl] at ck; exact ck
  clear hc
  have hsz0 := hX0.size
  have hrW := hr.ext (hX0.trans hX)
  have hg : Rd W 1 (some ⟨b, o + (pos + 1), none⟩) 3 (bv ((bs.drop (pos + 1)).take 3)) := by
    have := (hrW.cut (k := pos + 1) (cap := L + 5) (by omega) (by omega)).take (k := 3) (by omega)
    rw [if_neg (by omega), Nat.mul_one, Nat.mul_one, bv_drop, bv_take] at this
    simpa [Addr.add] using this
  subst k0
  have p2' : W.cell? ⟨g, 2, none⟩ = some (.int .i64 0) := p2
  clear p2
  have hs4 : ((size : Int) != 4) = false := by simp [hz]
  have hz0 : size ≠ 0 := by omega
  have HZ := hd hz
  clear hz
  go_upto_region 18 with (go_at_call 81; (with_reducible refine (get_any (some ⟨b, o + (pos + 1), none⟩) 3 _ _ _ hg (by omega)).mono ?_); rw [HS.out]; rintro e v1 ⟨rfl, rfl⟩)
  go_upto_region 19 with (fail)
  refine wp_world (fun W2 => RB w0 W2 g (some ⟨b, o, none⟩) L (pos + 4 + size) 1 c ∧ Blk W2 w.heap.size 121 #[.int .i64 0, .int .i64 0]) ⟨?_, ?_⟩ ?_
  · have hG := ((Gr.of_ext (g := g) hX).at_ 2 (.int .i64 1)).at_ 1 (.int .i64 (((pos + 4 + size : Nat) : Int)))
    exact ⟨hG.ext hX0 hold, hold, D, n1, c1, T, n2, c2, C, n3, c3, (hB'.set_ 2 _).set_ 1 _, hG.own o1 (own_blk_ne o1 hB (by decide)), hG.own o2 (own_blk_ne o2 hB (by decide)), hG.own o3 (own_blk_ne o3 hB (by decide)), hne⟩
  · exact (hF.far (p := ⟨g, 2, none⟩) (hF.ne_ hB' (by decide)) _).far (p := ⟨g, 1, none⟩) (hF.ne_ hB' (by decide)) _
  rintro W2 ⟨hR2, hF2⟩
  clear p0 p1 p3 p4 p5 p6 p7 q0 q1 q2 q3 q4 q5 q6 q7
  obtain ⟨_, _, D2, m1, d1, T2, m2, d2, C2, m3, d3, hB2, r1, r2, r3, hne2⟩ := id hR2
  obtain ⟨p0, p1, p2, p3, p4, p5, p6, p7⟩ := hB2.c8
  have hsub : pos + 4 + size - (pos + 4) = size := by omega
  have i0 : (0 : Int) ≤ (pos : Int) + 4 := by omega
  have i1 : (pos : Int) + 4 ≤ ((pos + 4 + size : Nat) : Int) := by omega
  have i2 : ((pos + 4 + size : Nat) : Int) ≤ (L : Int) := by omega
  have i3 : ((pos : Int) + 4).toNat = pos + 4 := by omega
  have iw : IntKind.i64.wrap ((pos : Int) + 4) = (pos : Int) + 4 := by rw [IntKind.wrap_i64]; omega
  have hcs : Rd w0 1 (some ⟨b, o + (pos + 4), none⟩) size (bv ((bs.drop (pos + 4)).take size)) := by
    have := (hr.cut (k := pos + 4) (cap := L + 5 + size) (by omega) (by omega)).take (k := size) (by omega)
    rw [if_neg (by omega), Nat.mul_one, Nat.mul_one, bv_drop, bv_take] at this
    simpa [Addr.add] using this
  go_region_with (go_at_call 117; (with_reducible refine (contents_any 1 w0 _ g L (pos + 4 + size) (pos + 4) size _ _ c _ _ (by omega) (hR2.grow (Ext.refl _).drew) hcs (by omega) (by omega) (by omega) (by omega) (by first | omega | (have := HZ.out; omega)) (by omega) (by omega) hts _ (by omega)).mono ?_); intro e w3 hP; have hF3 := hP.1 _ _ hF2.drew; obtain ⟨y0, y1⟩ := hF3.c2; obtain ⟨y2, y3⟩ := hF3.f2; have hQ := fun u v => SectPost.stored hP hF3 hsz0 u v; obtain ⟨p, n, bb, rfl⟩ := hP.form)
  all_goals clear p0 p1 p2 p3 p4 p5 p6 p7 i0 i1 i2 i3 iw hcs hg hrW hB hB' hB2 r1 r2 r3 o1 o2 o3 hne hne2 HK HS hF hF2 hX0 hR0 hR2 hr ck hsub
  all_goals go_wp2
  all_goals (obtain ⟨x0, x1⟩ := (hF3.s2 (.int .i64 p) (.int .i64 n)).c2; exact bodyPost_ret (v := .tuple #[.agg #[.int .i64 p, .int .i64 n], .bool bb]) (by simp [results, Try.results82, go_sem, x0, x1]) rfl (hQ _ _))

end Go.Proofs.Ytfcbedkidjclhaa
