/-
  The contract of the statement's decodes: a Decode is the document's; the container's lists are the caller's.
  Conditions: the bytes can be read, are not very many, lie elsewhere than the lender's and the book's.
-/
import Derived.Test.YtfcbedkidjclhaaRd5
import Derived.Test.YtfcbedkidjclhaaGiven
import Derived.Test.YtfcbedkidjclhaaAwake
import Derived.Test.YtfcbedkidjclhaaBook3
namespace Go.Proofs.Ytfcbedkidjclhaa
open Go.RowKit
set_option maxRecDepth 100000
set_option linter.unusedSimpArgs false
set_option linter.unusedVariables false

namespace Pk
def Len (m : Nat) (r : R) : Prop := r.c.data.length ≤ m ∧ r.c.code.length ≤ m
theorem sect_len {bs : List UInt8} {m : Nat} {r r' : R} (h : sect bs r = .ok r') (hm : bs.length ≤ m) (hl : Len m r) : Len m r' := by
  unfold sect at h
  simp only at h
  generalize (bs.getD r.pos 0).toNat = k at h
  generalize val ((bs.drop (r.pos + 1)).take 3) = size at h
  split at h
  · cases h
  split at h
  · cases h
  split at h
  · cases h
  split at h
  · cases h
  split at h
  · cases h
  split at h
  · cases h
  split at h
  · cases h
  · rename_i c hc
    injection h with h
    subst h
    unfold cont at hc
    have e : ((bs.drop (r.pos + 4)).take size).length ≤ m := by simp only [List.length_take, List.length_drop]; omega
    split at hc
    · split at hc
      · cases hc
      · injection hc with hc
        subst hc
        exact hl
    · split at hc
      · split at hc
        · cases hc
        · injection hc with hc
          subst hc
          exact hl
      · split at hc
        · injection hc with hc
          subst hc
          exact ⟨e, hl.2⟩
        · injection hc with hc
          subst hc
          exact ⟨hl.1, e⟩
theorem sects_len {bs : List UInt8} {m : Nat} (hm : bs.length ≤ m) : ∀ (f : Nat) {r r' : R}, sects bs f r = .ok r' → Fine r → Len m r → Fine r' ∧ Len m r'
  | 0, r, r', h, h1, h2 => by
    rw [sects] at h
    injection h with h
    subst h
    exact ⟨h1, h2⟩
  | f + 1, r, r', h, h1, h2 => by
    rw [sects] at h
    split at h
    · split at h
      · cases h
      · rename_i r1 hs
        exact sects_len hm f h (sect_ok hs h1).2.2 (sect_len hs hm h2)
    · injection h with h
      subst h
      exact ⟨h1, h2⟩
theorem decode_len (bs : List UInt8) : (decode bs).1.data.length ≤ bs.length ∧ (decode bs).1.ts.length ≤ 8 ∧ (decode bs).1.code.length ≤ bs.length := by
  have h0 : ∀ n : Nat, (C0.data.length ≤ n ∧ C0.ts.length ≤ 8 ∧ C0.code.length ≤ n) := fun n => by simp [C0]
  unfold decode
  split
  · exact h0 _
  split
  · exact h0 _
  split
  · exact h0 _
  split
  · exact h0 _
  split
  · exact h0 _
  · rename_i r hr
    split
    · exact h0 _
    · have := sects_len (m := bs.length) (by rw [List.length_take]; omega) _ hr ⟨by simp, by simp [C0], by simp [C0]⟩ ⟨by simp [C0], by simp [C0]⟩
      exact ⟨this.2.1, this.1.2.2, this.2.2⟩
end Pk

theorem own_farD {w : World} {base : Nat} {e : TypeId} {sz n : Nat} {v : Value} {xs : List Value} {L : Nat → Prop} (h : w.ownsRow base e sz v n xs) (hL : ∀ b, L b → b < base) : ∀ k, v.ownBlock = some k → ¬ L k := fun k e hk => by
  have h1 := (h.lt k e).1
  have h2 := hL k hk
  omega

theorem own_capD {w : World} {base n c : Nat} {A : Option Addr} {e : TypeId} {sz : Nat} {xs : List Value} (h : w.ownsRow base e sz (.slice A n c) n xs) : n ≤ c := by
  obtain ⟨A', c', he, hc, -⟩ := own_form h
  injection he with h1 h2 h3
  omega

/-- what decodes leaves behind -/
def DecsPost (g gb : Nat) (o : Option Nat) (S : Nat → Prop) (c : Nat) (w : World) (e : Ending) (w' : World) : Prop :=
  e = .returned (.bool true) ∧ ∃ r rs S', LR w' g (some r) rs ∧ rs.length ≤ 1000000000 ∧ (o = some r ∨ w.heap.size ≤ r) ∧ BookOk w' S' gb (c + 2) ∧ (∀ b, S' b → (S b ∨ w.heap.size ≤ b) ∧ b < w'.heap.size ∧ ¬ LS g (some r) b) ∧ Kp (fun b => LS g o b ∨ S b) w w'

set_option maxHeartbeats 4000000 in
theorem decodes_any (g gb : Nat) (o : Option Nat) (rs : List UInt8) (S : Nat → Prop) (c : Nat) (A : Option Addr) (n d : Nat) (bs : List UInt8) (w : World) (hL : LR w g o rs) (hrs : rs.length ≤ 1000000000) (hB : BookOk w S gb c) (hS : ∀ b, S b → b < w.heap.size ∧ ¬ LS g o b) (hc : c ≤ 9000)
    (hR : Rd w 1 A n (bv bs)) (hA : 0 < n → ∀ ad, A = some ad → ¬ LS g o ad.block) (hn : n ≤ 100000000) :
    Calls Try.prog 37 #[.slice A n d, .pointer (some ⟨g, 0, none⟩), .pointer (some ⟨gb, 0, none⟩)] w (DecsPost g gb o S c w) := by
  have hl : bs.length = n := by have := hR.1; rw [bv_length] at this; omega
  obtain ⟨K, at_, er, hdec⟩ : ∃ K at_ er, Pk.decode bs = (K, at_, er) := ⟨_, _, _, rfl⟩
  have HD := hd hdec
  have HL := hd hl
  have HS := hd hS
  obtain ⟨klo, khi, kdata, kts, kcode⟩ := K
  clear hdec hl hS
  go_enter Try.func37, Try.ntmps37
  go_upto_region 2 with (first | (go_at_call 25; (with_reducible refine (Lend_any g o rs A n d bs _ hL hR hA hn hrs).mono ?_); intro e w1 hP; obtain ⟨r, rs1, rfl, hL1, hK1, hr1⟩ := hP.lt (wr := w) (Ext.refl _); clear hP; have hk1 := hL1.k1; have hm1 := hL1.m1) | (go_at_call 39; (with_reducible refine (Decode_any _ n rs1.length bs _ (hL1.rd HL.out) (by omega) (by omega)).mono ?_); rw [HD.out]; rintro e w2 ⟨D, n1, c1, T, n2, c2, C, n3, c3, rfl, hX2, own1, own2, own3, hDC⟩; simp only at own1 own2 own3))
  have HDC := hd hDC
  clear hDC
  have hR1 := hK1.rd0 hR hA
  have hz1 := hK1.size
  have hz2 := hX2.size
  refine wp_world (fun W => Ext w2 W ∧ Blk W w2.heap.size 25 #[.int .i64 klo, .int .i64 khi, .slice D n1 c1, .slice T n2 c2, .slice C n3 c3]) ⟨Ext.new _ _, Blk.new _ _ _⟩ ?_
  obtain ⟨gk, hgk⟩ : ∃ gk, w2.heap.size = gk := ⟨_, rfl⟩
  rw [hgk]
  rintro W2 ⟨hX3, hB3⟩
  have hX13 := hX2.trans hX3
  have hR3 := hR1.ext hX13
  go_upto_region 3 with (first | (go_at_call 36; (with_reducible refine (CopyBytes_any A n d bs _ hR3 (by omega)).mono ?_); rintro e w4 ⟨A4, d4, rfl, own4, hX4⟩; have hd4 := own_capD own4) | (go_at_call 80; (with_reducible refine (RDec_any A4 n d4 bs _ (Rd.of_own own4) (by omega) hd4).mono ?_); rw [HD.out]; rintro e w5 ⟨D', n1', c1', T', n2', c2', C', n3', c3', rfl, hX5, own1', own2', own3', -⟩; simp only at own1' own2' own3'))
  have hX35 := hX4.trans hX5
  refine wp_world (fun W => Ext w5 W ∧ Blk W w5.heap.size 25 #[.int .i64 klo, .int .i64 khi, .slice D' n1' c1', .slice T' n2' c2', .slice C' n3' c3']) ⟨Ext.new _ _, Blk.new _ _ _⟩ ?_
  obtain ⟨gw, hgw⟩ : ∃ gw, w5.heap.size = gw := ⟨_, rfl⟩
  rw [hgw]
  rintro W5 ⟨hX6, hB6⟩
  have hX36 := hX35.trans hX6
  have hX26 := hX3.trans hX36
  have hX16 := hX2.trans hX26
  have hBk6 := hB3.ext hX36
  have hLR6 := hL1.lr.ext hX16
  have hR6 := hR1.ext hX16
  have HT1 := hd hL1.t1
  have HLT := hd hL1.lr.lt
  have hor := hL1.or_
  have o1 := hX26.own own1
  have o2 := hX26.own own2
  have o3 := hX26.own own3
  have o1' := hX6.own own1'
  have o2' := hX6.own own2'
  have o3' := hX6.own own3'
  have hz3 := hX3.size
  have hz4 := hX4.size
  have hz5 := hX5.size
  have hz6 := hX6.size
  have HLT2 := hd (show ∀ b, LS g (some r) b → b < W2.heap.size from fun b hb => by have := HLT.out b hb; omega)
  have hgk1 : ¬ LS g (some r) gk := fun h => by have := HLT.out gk h; omega
  have hgw1 : ¬ LS g (some r) gw := fun h => by have := HLT.out gw h; omega
  have hBook6 : BookOk W5 S gb c := (hB.keep hK1 (fun b hb => (HS.out b hb).2)).ext hX16
  have hSr : ∀ b, S b → ¬ LS g (some r) b := by
    rintro b hb (h | h)
    · exact (HS.out b hb).2 (.inl h)
    · injection h with h
      rcases hor with h5 | h5
      · exact (HS.out b hb).2 (.inr (by rw [h5, h]))
      · have := (HS.out b hb).1; omega
  have HSR := hd hSr
  have HK1 := hd hK1
  have HX16 := hd hX16
  have hsm : samePackB klo khi kdata kts kcode klo khi kdata kts kcode = true := by simp [samePackB]
  have HSM := hd hsm
  have hlen := Pk.decode_len bs
  rw [HD.out] at hlen
  simp only at hlen
  have hn1 : n1 ≤ 100000000 := by have := o1.1; rw [bv_length] at this; have := HL.out; omega
  have hn2 : n2 ≤ 8 := by have := o2.1; rw [tv_length] at this; omega
  have hn3 : n3 ≤ 100000000 := by have := o3.1; rw [bv_length] at this; have := HL.out; omega
  have hn2' : n2' ≤ 8 := by have := o2'.1; rw [tv_length] at this; omega
  have q1 := own_base o1 (show w1.heap.size ≤ w1.heap.size from Nat.le_refl _)
  have q2 := own_base o2 (show w1.heap.size ≤ w1.heap.size from Nat.le_refl _)
  have q3 := own_base o3 (show w1.heap.size ≤ w1.heap.size from Nat.le_refl _)
  have q1' := own_base o1' (show w1.heap.size ≤ w4.heap.size by omega)
  have q2' := own_base o2' (show w1.heap.size ≤ w4.heap.size by omega)
  have q3' := own_base o3' (show w1.heap.size ≤ w4.heap.size by omega)
  have hSD : ∀ b, (Value.slice D n1 c1).ownBlock = some b → ¬ S b := fun b e h => by have := (q1.lt b e).1; have := (HS.out b h).1; omega
  have hSC : ∀ b, (Value.slice C n3 c3).ownBlock = some b → ¬ S b := fun b e h => by have := (q3.lt b e).1; have := (HS.out b h).1; omega
  have hSk : ¬ S gk := fun h => by have := (HS.out gk h).1; omega
  have HSD := hd hSD
  have HSC := hd hSC
  have HSK := hd hSk
  have hDC2 : ∀ b, (Value.slice C n3 c3).ownBlock = some b → (Value.slice D n1 c1).ownBlock ≠ some b := fun b e e2 => by
    rcases HDC.out with h | h
    · rw [h] at e2; cases e2
    · exact h (e2.trans e.symm)
  have HDC2 := hd hDC2
  clear hX2 hX3 hX4 hX5 hX6 hX35 hX36 hX13 hsm hSr own1 own2 own3 own1' own2' own3' own4 hR1 hR3 hL1 hK1 hB3 hL hB hlen hSD hSC hSk hDC2 hX16 hX26 HDC
  go_wp2_with (first | (go_at_call 31; (with_reducible refine (Back_any g r rs1 A n d bs _ hLR6 HT1.out hk1 hm1 hR6 (by omega)).mono ?_); rintro e w7 ⟨rfl, rs2, hl2, hLR7, hK7⟩; have HL2 := hd hl2; clear hl2; have hB7 := hK7.blk hBk6 hgk1; obtain ⟨x0, x1, x2, x3, x4⟩ := hB7.c5; have hW7 := hK7.blk hB6 hgw1; obtain ⟨y0, y1, y2, y3, y4⟩ := hW7.c5; have hBook7 := hBook6.keep hK7 HSR.out; have s1 := hK7.own q1 (own_farD q1 HLT.out); have s2 := hK7.own q2 (own_farD q2 HLT.out); have s3 := hK7.own q3 (own_farD q3 HLT.out); have s1' := hK7.own q1' (own_farD q1' HLT.out); have s2' := hK7.own q2' (own_farD q2' HLT.out); have s3' := hK7.own q3' (own_farD q3' HLT.out)) | (go_at_call 32; (with_reducible refine (Num_any er _).mono ?_); rintro e w8 ⟨rfl, rfl⟩) | (go_at_call 30; (with_reducible refine (SamePack_any klo khi klo khi D T C D' T' C' n1 n2 n3 c1 c2 c3 n1' n2' n3' c1' c2' c3' kdata kcode kdata kcode kts kts _ (Rd.of_own s1) (Rd.of_own s2) (Rd.of_own s3) (Rd.of_own s1') (Rd.of_own s2') (Rd.of_own s3') (by omega) (by omega)).mono ?_); rw [HSM.out]; rintro e w9 ⟨rfl, hX9⟩; have hB9 := hB7.ext hX9; obtain ⟨z0, z1, z2, z3, z4⟩ := hB9.c5) | (go_at_call 34; (with_reducible refine (Own_any _ S1 gb (c + 1) C n3 c3 kcode hBk10 (by omega) (own_base (hK10.own (hX9.own s3) (fun b e h => h.elim (HSC.out b e) (HDC2.out b e))) (Nat.zero_le _)) (fun b e h => (hS1 b h).1.elim (HSC.out b e) (fun h => h.elim (HDC2.out b e) (fun h => absurd ((hX9.own s3).lt b e).2 (Nat.not_lt.mpr h)))) (by omega)).mono ?_); rintro e w11 ⟨rfl, S2, hBk11, hS2, hK11⟩) | (go_at_call 34; (with_reducible refine (Own_any _ S gb c D n1 c1 kdata (hBook7.ext hX9) (by omega) (own_base (hX9.own s1) (Nat.zero_le _)) HSD.out (by omega)).mono ?_); rintro e w10 ⟨rfl, S1, hBk10, hS1, hK10⟩; have hB10 := hK10.blk hB9 (fun h => h.elim HSK.out (fun h => own_blk_ne (hX9.own s1) hB9 (by decide) h)); obtain ⟨u0, u1, u2, u3, u4⟩ := hB10.c5))
  go_ret
  have hz7 := hK7.size
  have hz9 := hX9.size
  have hz10 := hK10.size
  have hz11 := hK11.size
  have hdl : ∀ b, (Value.slice D n1 c1).ownBlock = some b → w1.heap.size ≤ b := fun b e => (q1.lt b e).1
  have hcl : ∀ b, (Value.slice C n3 c3).ownBlock = some b → w1.heap.size ≤ b := fun b e => (q3.lt b e).1
  have hL10 := (hLR7.ext hX9).keep hK10 (fun b hb h => h.elim (fun h => HSR.out b h hb) (fun h => by have y1 := HLT.out b hb; have y2 := hdl b h; omega))
  have hnot1 : ∀ b, S1 b → ¬ LS g (some r) b := fun b h hb => by
    have y1 := HLT.out b hb
    rcases (hS1 b h).1 with h | h | h
    · exact HSR.out b h hb
    · have := hdl b h; omega
    · omega
  have hL11 := hL10.keep hK11 (fun b hb h => h.elim (fun h => hnot1 b h hb) (fun h => by have y1 := HLT.out b hb; have y2 := hcl b h; omega))
  refine ⟨rfl, r, rs2, S2, hL11, by rw [HL2.out]; exact hm1, hor, hBk11, ?_, ?_⟩
  · intro b hb
    obtain ⟨h1, h2⟩ := hS2 b hb
    rcases h1 with h1 | h1 | h1
    · refine ⟨?_, h2, hnot1 b h1⟩
      rcases (hS1 b h1).1 with h | h | h
      · exact .inl h
      · exact .inr (by have := hdl b h; omega)
      · exact .inr (by omega)
    · exact ⟨.inr (by have := hcl b h1; omega), h2, fun hL => by have y1 := HLT.out b hL; have := hcl b h1; omega⟩
    · exact ⟨.inr (by omega), h2, fun hL => by have y1 := HLT.out b hL; omega⟩
  · have k1 : Kp (fun b => LS g o b ∨ S b) w w1 := HK1.out.mono fun i _ h => .inl h
    have k7 := (k1.then_ext HX16.out).trans hK7 (fun i hi h => by
      rcases h with h | h
      · exact .inl (.inl h)
      · injection h with h
        rcases hor with h5 | h5
        · exact .inl (.inr (by rw [h5, h]))
        · omega)
    have k10 := (k7.then_ext hX9).trans hK10 (fun i hi h => h.elim .inr (fun h => by have := hdl i h; omega))
    exact k10.trans hK11 (fun i hi h => by
      rcases h with h | h
      · rcases (hS1 i h).1 with h | h | h
        · exact .inr h
        · have := hdl i h; omega
        · omega
      · have := hcl i h; omega)

end Go.Proofs.Ytfcbedkidjclhaa
