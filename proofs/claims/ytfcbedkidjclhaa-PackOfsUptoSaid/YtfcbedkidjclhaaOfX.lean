/-
  The contract of the statements' 'awake': it answers true. And what Encode and Decode answer, in the form that the statements' walks take.
  No condition.
  The walk of PackOfs: it answers true.
  Conditions: the lists can be read and are not very long.
-/
import Derived.Test.YtfcbedkidjclhaaDec6
import Derived.Test.YtfcbedkidjclhaaOfL
import Derived.Test.YtfcbedkidjclhaaOfP
import Derived.Test.YtfcbedkidjclhaaOfB
namespace Go.Proofs.Ytfcbedkidjclhaa
open Go.RowKit
set_option maxRecDepth 100000
set_option linter.unusedSimpArgs false
set_option linter.unusedVariables false

theorem own_le {w : World} {base n c sz : Nat} {e : TypeId} {A : Option Addr} {xs : List Value} (h : w.ownsRow base e sz (.slice A n c) n xs) : n ≤ c := by
  obtain ⟨A', c', he, hn, _⟩ := own_form h
  injection he with _ _ h3
  omega

theorem EncPost.at_ {l : List UInt8} {n : Int} {m : Nat} {w w' : World} {e : Ending} (h : EncPost (l, n) w e w') (hl : l.length = m) :
    ∃ A c, e = .returned (.tuple #[.slice A m c, .int .i64 n]) ∧ w'.ownsRow w.heap.size 5 1 (.slice A m c) m (bv l) ∧ m ≤ c ∧ Rd w' 1 A m (bv l) ∧ Ext w w' := by
  subst hl
  obtain ⟨A, c, he, ho, hX⟩ := h
  exact ⟨A, c, he, ho, own_le ho, Rd.of_own ho, hX⟩

theorem DecPost.at_ {lo hi : Int} {data code : List UInt8} {ts : List (Int × Int)} {p m1 m2 m3 : Nat} {p' n : Int} {w w' : World} {e : Ending} (h : DecPost (⟨lo, hi, data, ts, code⟩, p, n) w e w') (h1 : data.length = m1) (h2 : ts.length = m2) (h3 : code.length = m3) (hp : (p : Int) = p') :
    ∃ D c1 T c2 C c3, e = .returned (.tuple #[.agg #[.int .i64 lo, .int .i64 hi, .slice D m1 c1, .slice T m2 c2, .slice C m3 c3], .int .i64 p', .int .i64 n]) ∧
      Rd w' 1 D m1 (bv data) ∧ Rd w' 2 T m2 (tv ts) ∧ Rd w' 1 C m3 (bv code) ∧ Ext w w' := by
  obtain ⟨D, n1, c1, T, n2, c2, C, n3, c3, he, hX, o1, o2, o3, _⟩ := h
  have r1 := Rd.of_own o1
  have r2 := Rd.of_own o2
  have r3 := Rd.of_own o3
  have e1 := r1.1
  have e2 := r2.1
  have e3 := r3.1
  simp only [bv_length, tv_length] at e1 e2 e3
  obtain rfl : n1 = m1 := by omega
  obtain rfl : n2 = m2 := by omega
  obtain rfl : n3 = m3 := by omega
  subst hp
  exact ⟨D, c1, T, c2, C, c3, he, r1, r2, r3, hX⟩

theorem Num_any (n : Int) (w : World) : Calls Try.prog 32 #[.int .i64 n] w fun e w' => e = .returned (.int .i64 n) ∧ w = w' := by
  go_enter Try.func32, Try.ntmps32
  go_wp2
  go_ret
  exact ⟨rfl, rfl⟩

set_option maxHeartbeats 1000000 in
theorem awake_any (w : World) : Calls Try.prog 24 #[] w fun e w' => e = .returned (.bool true) ∧ Ext w w' := by
  have hE : Pk.encode 1 258 [7] [] [] = (Pk.bytes 1 258 [7] [] [], 0) := by decide +kernel
  have hD : Pk.decode (Pk.bytes 1 258 [7] [] []) = (⟨1, 258, [7], [], []⟩, 0, 0) := Pk.decode_bytes 1 258 [7] [] [] (by decide +kernel) (by decide +kernel)
  have hl : (Pk.bytes 1 258 [7] [] []).length = 21 := by decide +kernel
  have h8 : (bv (Pk.bytes 1 258 [7] [] []))[8]? = some (.int .u8 1) := by kernel_rfl
  have h10 : (bv (Pk.bytes 1 258 [7] [] []))[10]? = some (.int .u8 2) := by kernel_rfl
  have h16 : (bv (Pk.bytes 1 258 [7] [] []))[16]? = some (.int .u8 7) := by kernel_rfl
  generalize Pk.bytes 1 258 [7] [] [] = L at *
  have HE := hd hE
  have HD := hd hD
  have HL := hd hl
  have H8 := hd h8
  have H10 := hd h10
  have H16 := hd h16
  clear hE hD hl h8 h10 h16
  go_enter Try.func24, Try.ntmps24
  go_wp2_with (first | (go_at_call 27; (with_reducible refine (Encode_any 1 258 (some ⟨w.heap.size, 0, none⟩) none none 1 0 0 1 0 0 [7] [] [] _ (Rd.one w _ 5) Rd.nil_ Rd.nil_ (by omega) (by omega) (by omega)).mono ?_); rw [HE.out]; intro e w1 hP1; obtain ⟨A, c, rfl, own1, hc1, rd1, hX1⟩ := hP1.at_ HL.out; obtain ⟨b, o, rfl, hcc⟩ := rd1.form (by omega) (by omega); have c8 := hcc 8 _ H8.out; have c10 := hcc 10 _ H10.out; have c16 := hcc 16 _ H16.out; clear hcc) | (go_at_call 39; (with_reducible refine (Decode_any (some ⟨b, o, none⟩) 21 c L _ rd1 (by omega) hc1).mono ?_); rw [HD.out]; intro e w2 hP2; obtain ⟨D, c1, T, c2, C, c3, rfl, r1, r2, r3, hX2⟩ := hP2.at_ (m1 := 1) (m2 := 0) (m3 := 0) (p' := 0) rfl rfl rfl rfl) | (go_at_call 32; (with_reducible refine (Num_any _ _).mono ?_); rintro e v ⟨rfl, rfl⟩))
  go_ret
  exact ⟨rfl, (((Ext.new w _).trans hX1).trans hX2).alloc _⟩

end Go.Proofs.Ytfcbedkidjclhaa
namespace Go.Proofs.Ytfcbedkidjclhaa
open Go.RowKit
set_option maxRecDepth 100000
set_option linter.unusedSimpArgs false
set_option linter.unusedVariables false

theorem not_lender {b : Nat} {W : World} {g2 : Nat} {o2 : Option Nat} {rs2 : List UInt8} {cs : Array Value} {t : TypeId} (h : LR W g2 o2 rs2) (hb : Blk W b t cs) (ht1 : t ≠ 28) (ht2 : t ≠ 5) : ¬ LS g2 o2 b := by
  rintro (rfl | ho)
  · cases o2 with
    | none => exact Blk.ne_ hb h.2 ht1 rfl
    | some r => exact Blk.ne_ hb h.1 ht1 rfl
  · subst ho
    exact Blk.ne_ hb h.2 ht2 rfl
theorem not_lenderC {b : Nat} {W : World} {g2 : Nat} {o2 : Option Nat} {rs2 : List Cd.Ins} {cs : Array Value} {t : TypeId} (h : LC W g2 o2 rs2) (hb : Blk W b t cs) (ht1 : t ≠ 92) (ht2 : t ≠ 64) : ¬ LS g2 o2 b := by
  rintro (rfl | ho)
  · cases o2 with
    | none => exact Blk.ne_ hb h.2 ht1 rfl
    | some r => exact Blk.ne_ hb h.1 ht1 rfl
  · subst ho
    exact Blk.ne_ hb h.2 ht2 rfl
theorem own_farE {w : World} {base : Nat} {e : TypeId} {sz n : Nat} {v : Value} {xs : List Value} {L : Nat → Prop} (h : w.ownsRow base e sz v n xs) (hL : ∀ b, L b → b < base) : ∀ k, v.ownBlock = some k → ¬ L k := fun k e hk => by
  have h1 := (h.lt k e).1
  have h2 := hL k hk
  omega
/-- a pack of a program: where it is refused, Check refuses it -/
theorem Pk.pof_check (p : Pk.P) : (Pk.pof p).2 = Pk.pcheck p := by
  unfold Pk.pof
  by_cases h : (Pk.pcheck p).2 = 0
  · have hf := Pk.check_fine h
    rw [if_neg (by rw [h]; simp), Cd.encode_ok hf.2.2.1 hf.2.2.2.1, hf.1]
  · rw [if_pos h]
theorem Pk.pof_len (p : Pk.P) : (Pk.pof p).1.data.length ≤ p.data.length ∧ (Pk.pof p).1.ts.length ≤ p.ts.length ∧ (Pk.pof p).1.code.length ≤ 16 * p.code.length := by
  unfold Pk.pof
  by_cases h : (Pk.pcheck p).2 = 0
  · have hf := Pk.check_fine h
    rw [if_neg (by rw [h]; simp), Cd.encode_ok hf.2.2.1 hf.2.2.2.1]
    refine ⟨Nat.le_refl _, Nat.le_refl _, ?_⟩
    show (Cd.flat p.code).length ≤ _
    rw [Cd.flat_length]
    have := Pk.wid_le2 p.code
    omega
  · rw [if_pos h]
    simp [Pk.C0]

set_option maxHeartbeats 8000000 in
theorem PackOfs_any (lo hi : Int) (A1 A2 A3 : Option Addr) (n1 n2 n3 c1 c2 c3 : Nat) (data : List UInt8) (code : List Cd.Ins) (ts : List (Int × Int)) (w : World)
    (h1 : Rd w 1 A1 n1 (bv data)) (h2 : Rd w 2 A2 n2 (tv ts)) (h3 : Rd w 8 A3 n3 (cv code)) (hn1 : n1 ≤ 83886080) (hn2 : n2 * 16 ≤ 83886080) (hn3 : n3 * 56 ≤ 83886080) :
    Calls Try.prog 19 #[.agg #[.int .i64 lo, .int .i64 hi, .slice A1 n1 c1, .slice A2 n2 c2, .slice A3 n3 c3]] w fun e w' => e = .returned (.bool true) ∧ Ext w w' := by
  have L1 := hd (show data.length = n1 by have := h1.1; rw [bv_length] at this; omega)
  have L2 := hd (show ts.length = n2 by have := h2.1; rw [tv_length] at this; omega)
  have L3 := hd (show code.length = n3 by have := h3.1; rw [cv_length] at this; omega)
  go_enter Try.func19, Try.ntmps19
  go_upto_region 1 with (fail)
  refine wp_world (fun W => Ext w W ∧ Blk W w.heap.size 90 #[.int .i64 lo, .int .i64 hi, .slice A1 n1 c1, .slice A2 n2 c2, .slice A3 n3 c3]) ⟨Ext.new _ _, Blk.new _ _ _⟩ ?_
  obtain ⟨gk, hgk⟩ : ∃ gk, w.heap.size = gk := ⟨_, rfl⟩
  rw [hgk]
  rintro W0 ⟨hX0, hB0⟩
  go_upto_region 3 with (go_at_call 24; (with_reducible refine (awake_any _).mono ?_); rintro e W1 ⟨rfl, hXa⟩)
  have hX1 := hX0.trans hXa
  have hB1 := hB0.ext hXa
  have hgk1 := hB1.lt
  clear hX0 hB0 hXa
  go_upto_region 6 with (fail)
  refine wp_world (fun W => Ext w W ∧ Blk W gk 90 #[.int .i64 lo, .int .i64 hi, .slice A1 n1 c1, .slice A2 n2 c2, .slice A3 n3 c3] ∧ LeC W W1.heap.size (W1.heap.size + 1) none none [] [] ∧ BookOk W (fun b => b = W1.heap.size + 2) (W1.heap.size + 2) 0) ⟨((hX1.alloc _).alloc _).alloc _, ((hB1.alloc _).alloc _).alloc _, ⟨⟨rfl, ((Blk.new _ _ _).alloc _).alloc _⟩, ⟨rfl, by simpa using (Blk.new (W1.alloc _) 92 _).alloc _⟩, by simp, by simp, ?_⟩, BookOk.new (by simpa using Blk.new ((W1.alloc _).alloc _) 33 _)⟩ ?_
  · rintro b (rfl | hb) (hc | hc)
    · omega
    · cases hc
    · cases hb
    · cases hb
  generalize hgd : W1.heap.size = gd
  generalize hgc : gd + 1 = gc
  obtain ⟨gb, hgb⟩ : ∃ gb, gc + 1 = gb := ⟨_, rfl⟩
  rw [show gd + 2 = gb by omega, hgb]
  rintro W2 ⟨hX2, hB2, hLe2, hBk2⟩
  have hlow2 := hBk2.low
  have HG0 := hd (show (∀ b, (LS gd none b ∨ LS gc none b ∨ (b = gb ∧ b < W2.heap.size)) → gk < b) ∧ (∀ b, (b = gb ∧ b < W2.heap.size) → b < W2.heap.size) ∧ (∀ b, (b = gb ∧ b < W2.heap.size) → ¬ LS gd none b ∧ ¬ LS gc none b) by
    refine ⟨?_, fun b h => h.2, ?_⟩
    · rintro b ((h | h) | (h | h) | h)
      · omega
      · cases h
      · omega
      · cases h
      · omega
    · rintro b ⟨h1, h2⟩
      refine ⟨?_, ?_⟩
      · rintro (h | h)
        · omega
        · cases h
      · rintro (h | h)
        · omega
        · cases h)
  go_wp2
  go_loopw [6] (fun i wr => ∃ (k : Nat) (od oc : Option Nat) (rsd : List UInt8) (rsc : List Cd.Ins) (S : Nat → Prop), i = .int .i64 k ∧ k ≤ 3 ∧ Ext w wr ∧ Blk wr gk 90 #[.int .i64 lo, .int .i64 hi, .slice A1 n1 c1, .slice A2 n2 c2, .slice A3 n3 c3] ∧ LeC wr gd gc od oc rsd rsc ∧ BookOk wr S gb (2 * k) ∧ Hid ((∀ b, (LS gd od b ∨ LS gc oc b ∨ S b) → gk < b) ∧ (∀ b, S b → b < wr.heap.size) ∧ (∀ b, S b → ¬ LS gd od b ∧ ¬ LS gc oc b))) (fun i _ => 3 - (intOf i).toNat)
  case atStart => exact ⟨0, none, none, [], [], _, rfl, by omega, hX2, hB2, hLe2, hlow2, HG0⟩
  case round =>
    obtain ⟨k, od, oc, rsd, rsc, S, rfl, hk, hX, hB, hLe, hBook, HGT⟩ := hrel
    clear hX1 hB1 hX2 hB2 hLe2 hBk2 hlow2
    by_cases hlt : k < 3
    · have e1 : (k : Int) < 3 := by omega
      have HGA := hd HGT.out.1
      have HGB := hd HGT.out.2.1
      have HGC := hd HGT.out.2.2
      have hgkw : w.heap.size ≤ gk := by omega
      have d1 := h1.ext hX
      have d2 := h2.ext hX
      have d3 := h3.ext hX
      have hA1 : 0 < n1 → ∀ ad, A1 = some ad → ¬ LS gd od ad.block := fun hn ad e hL => by have y1 := HGA.out _ (.inl hL); have y2 := old_rd h1 (by omega) hn ad e; omega
      have hA2 : 0 < n2 → ∀ ad, A2 = some ad → ¬ LS gd od ad.block := fun hn ad e hL => by have y1 := HGA.out _ (.inl hL); have y2 := old_rd h2 (by omega) hn ad e; omega
      have hA31 : 0 < n3 → ∀ ad, A3 = some ad → ¬ LS gd od ad.block := fun hn ad e hL => by have y1 := HGA.out _ (.inl hL); have y2 := old_rd h3 (by omega) hn ad e; omega
      have hA3 : 0 < n3 → ∀ ad, A3 = some ad → ¬ LS gc oc ad.block := fun hn ad e hL => by have y1 := HGA.out _ (.inr (.inl hL)); have y2 := old_rd h3 (by omega) hn ad e; omega
      have hnb1 : ¬ LS gd od gk := not_lender hLe.ld hB (by decide) (by decide)
      have hnb3 : ¬ LS gc oc gk := not_lenderC hLe.lc hB (by decide) (by decide)
      have hsep : ∀ b, LS gc oc b → ¬ LS gd od b := fun b h1 h2 => hLe.sep b h2 h1
      have hzn : ¬ LS gd od wr.heap.size := fun h => by have := hLe.lt1 _ h; omega
      have hzc : ∀ b, wr.heap.size ≤ b → ¬ LS gc oc b := fun b hb h => by have := hLe.lt2 _ h; omega
      have hgkl := hB.lt
      go_upto_region 9 with (fail)
      go_cut [7] from 25 to 38 (fun v W => ∃ gq r1 r3 rs1 rs3 E2 g2, v = .pointer (some ⟨gq, 0, none⟩) ∧ GvC wr W gd gc od oc lo hi n1 n2 n3 data code ts gq r1 r3 rs1 rs3 E2 g2)
      case first =>
        have hlt0 := hB.lt
        go_region_held3 (fun w' => w'.cell? ⟨gk, 0, none⟩ = some (.int .i64 lo) ∧ w'.cell? ⟨gk, 1, none⟩ = some (.int .i64 hi) ∧ w'.cell? ⟨gk, 2, none⟩ = some (.slice A1 n1 c1) ∧ w'.cell? ⟨gk, 3, none⟩ = some (.slice A2 n2 c2) ∧ w'.cell? ⟨gk, 4, none⟩ = some (.slice A3 n3 c3))
          (first | with_reducible exact hB.drew.c5 | with_reducible exact (hB.alloc _).drew.c5 | with_reducible exact (hB.drew.alloc _).c5 | with_reducible exact hB1.c5 | with_reducible exact (hB1.alloc _).c5 | with_reducible exact hB2.c5 | with_reducible exact (hB2.alloc _).c5 | with_reducible exact hB3.c5 | with_reducible exact (hB3.alloc _).c5 | exact c5_far5 hB3 (by omega) | go_keep)
          (first | (go_at_call 26; (with_reducible refine (CopyTables_any A2 n2 c2 ts _ ?_ (by omega)).mono ?_); (first | exact hT1 | exact hT1.alloc _); rintro e w2 ⟨E2, g2, rfl, own2, hb2⟩; have hX2 : Ext w1 w2 := (by first | exact hb2 | exact (Ext.new _ _).trans hb2); have own2 := own_from own2 (by first | exact Ext.refl _ | exact Ext.new _ _ : Ext w1 _); have hB2 := hB1.ext hX2; have hs2 := hX2.size; (try (have hZ2 := hZ1.ext hX2; obtain ⟨zf0, zf1, zf2, zf3, zf4⟩ := hZ2.f5; obtain ⟨zg0, zg1, zg2, zg3, zg4⟩ := hZ2.c5)); (try (have hZ2 := (Blk.new w1 90 #[.int .i64 0, .int .i64 0, .slice none 0 0, .slice none 0 0, .slice none 0 0]).ext hb2; obtain ⟨zf0, zf1, zf2, zf3, zf4⟩ := hZ2.f5; obtain ⟨zg0, zg1, zg2, zg3, zg4⟩ := hZ2.c5))) | (go_at_call 59; have tok := hX2; (with_reducible refine (LendC_any gc oc rsc A3 n3 c3 code _ ?_ ?_ hA3 (by omega) hLe.mc).mono ?_); (first | exact ((hLe.lc.keep hK1 hsep).ext hX2) | exact ((hLe.lc.keep hK1 hsep).ext hX2).alloc_ _); (first | exact hD1.ext hX2 | exact (hD1.ext hX2).alloc _); intro e w3 hP; obtain ⟨r3, rs3, rfl, hL3, hK3, hr3⟩ := hP.lt (wr := w2) (by first | exact Ext.refl _ | exact Ext.new _ _); (try (have hZ3 := hK3.blk hZ2 (hzc _ (by first | exact Nat.le_refl _ | exact hK1.size | exact Nat.le_trans (Ext.new _ _).size hK1.size)); obtain ⟨zf0, zf1, zf2, zf3, zf4⟩ := hZ3.f5; obtain ⟨zg0, zg1, zg2, zg3, zg4⟩ := hZ3.c5)); (try (have hZ3 := (hP.kp (wr := w2.alloc (.cells #[.int .i64 0, .int .i64 0, .slice none 0 0, .slice none 0 0, .slice none 0 0] 90)) (Ext.refl _)).blk (Blk.new w2 90 #[.int .i64 0, .int .i64 0, .slice none 0 0, .slice none 0 0, .slice none 0 0]) (hzc _ (Nat.le_trans hK1.size hX2.size)); obtain ⟨zf0, zf1, zf2, zf3, zf4⟩ := hZ3.f5; obtain ⟨zg0, zg1, zg2, zg3, zg4⟩ := hZ3.c5)); have hB3 := hK3.blk hB2 hnb3; have hs3 := hK3.size; have hC3 := ca_mkC hLe hK1 hL1 hX2 own2 (Ext.refl _) hK3 hL3; clear hP) | (go_at_call 25; (with_reducible refine (Lend_any gd od rsd A1 n1 c1 data _ ?_ ?_ hA1 (by omega) hLe.md).mono ?_); (first | exact (hLe.ext (Ext.refl _).drew).ld | exact (hLe.ext (Ext.new _ _).drew).ld); (first | exact d1.ext (Ext.refl _).drew | exact d1.ext (Ext.new _ _).drew); intro e w1 hP; obtain ⟨r1, rs1, rfl, hL1, hK1, hr1⟩ := hP.lt (wr := wr) (by first | exact (Ext.refl _).drew | exact (Ext.new _ _).drew); (try (have hZ1 := (hP.kp (wr := wr.alloc (.cells #[.int .i64 0, .int .i64 0, .slice none 0 0, .slice none 0 0, .slice none 0 0] 90)) (Ext.refl _).drew).blk (Blk.new wr 90 #[.int .i64 0, .int .i64 0, .slice none 0 0, .slice none 0 0, .slice none 0 0]) hzn; obtain ⟨zf0, zf1, zf2, zf3, zf4⟩ := hZ1.f5; obtain ⟨zg0, zg1, zg2, zg3, zg4⟩ := hZ1.c5)); clear hP; have hB1 := hK1.blk hB hnb1; have hT1 := hK1.rd0 d2 hA2; have hD1 := hK1.rd0 d3 hA31; have hs1 := hK1.size))
        all_goals go_wp2
        all_goals go_meet
        all_goals case rel =>
          first
            | exact ⟨_, r1, r3, rs1, rs3, E2, g2, rfl, hC3.alloc⟩
            | exact ⟨_, r1, r3, rs1, rs3, E2, g2, rfl, hC3.box (by first | exact Nat.le_refl _ | exact hK1.size | exact Nat.le_trans hK1.size hX2.size) hZ3⟩
      case rest =>
      obtain ⟨gq, r1, r3, rs1, rs3, E2, g2, rfl, hG⟩ := hcut
      have l1 := hG.ld.rd L1.out
      have l3 := hG.lc.rd L3.out
      have hBc := hG.kp.blk hB (fun h => h.elim hnb1 hnb3)
      have hXc : Ext w wc := hG.kp.ext hX (fun k h => by have := HGA.out k (h.elim .inl (fun h => .inr (.inl h))); omega)
      have hBookc := hBook.keep hG.kp (fun b hS h => by have := HGC.out b hS; exact h.elim this.1 this.2)
      have hzr := hG.kp.size
      have T1 := hd hG.ld.t1
      have T3 := hd hG.lc.t1
      have SEP := hd hG.sep
      have HLT1 := hd hG.ld.lr.lt
      have HLT3 := hd hG.lc.lr.lt
      have hor1 := hG.ld.or_
      have hor3 := hG.lc.or_
      have HS1 := hd (show ∀ b, S b → ¬ LS gd (some r1) b by
        intro b hS
        rintro (h | h)
        · exact (HGC.out b hS).1 (.inl h)
        · injection h with h
          rcases hor1 with h5 | h5
          · exact (HGC.out b hS).1 (.inr (by rw [h5, h]))
          · have := HGB.out b hS; omega)
      have HS3 := hd (show ∀ b, S b → ¬ LS gc (some r3) b by
        intro b hS
        rintro (h | h)
        · exact (HGC.out b hS).2 (.inl h)
        · injection h with h
          rcases hor3 with h5 | h5
          · exact (HGC.out b hS).2 (.inr (by rw [h5, h]))
          · have := HGB.out b hS; omega)
      have HG1 := hd (show ∀ b, LS gd (some r1) b → gk < b by
        rintro b (rfl | hb)
        · exact HGA.out _ (.inl (.inl rfl))
        · injection hb with hb
          subst hb
          rcases hor1 with h | h
          · exact HGA.out _ (.inl (.inr h))
          · omega)
      have HG3 := hd (show ∀ b, LS gc (some r3) b → gk < b by
        rintro b (rfl | hb)
        · exact HGA.out _ (.inr (.inl (.inl rfl)))
        · injection hb with hb
          subst hb
          rcases hor3 with h | h
          · exact HGA.out _ (.inr (.inl (.inr h)))
          · omega)
      have hk1m := hG.ld.k1
      have hk3m := hG.lc.k1
      have hm1m := hG.ld.m1
      have hm3m := hG.lc.m1
      have D0 := hG.ld.lr
      have C0 := hG.lc.lr
      have hQ0 := hG.bq
      have t20 := hG.rt
      obtain ⟨m1, hm1⟩ : ∃ m, rs1.length = m := ⟨_, rfl⟩
      obtain ⟨m3, hm3⟩ : ∃ m, rs3.length = m := ⟨_, rfl⟩
      rw [hm1, hm3] at hQ0
      have HM1 := hd hm1
      have HM3 := hd hm3
      obtain ⟨⟨klo, khi, kdata, kts, kcode⟩, at_, er, hof⟩ : ∃ K at_ er, Pk.pof ⟨lo, hi, data, ts, code⟩ = (K, at_, er) := ⟨_, _, _, rfl⟩
      have hck : Pk.pcheck ⟨lo, hi, data, ts, code⟩ = (at_, er) := by rw [← Pk.pof_check, hof]
      have hlen := Pk.pof_len ⟨lo, hi, data, ts, code⟩
      rw [hof] at hlen
      simp only at hlen
      have HOF := hd hof
      have HCK := hd hck
      have hlen1 : kdata.length ≤ 100000000 := by have := L1.out; omega
      have hlen2 : kts.length ≤ 100000000 := by have := L2.out; omega
      have hlen3 : kcode.length ≤ 100000000 := by have := L3.out; omega
      clear hm1 hm3 hor1 hor3 hA1 hA2 hA31 hA3 d1 d2 d3 hG hof hck hlen hLe hX hnb1 hnb3 hsep hzn hzc hBook hB
      obtain ⟨q0, q1, q2, q3, q4⟩ := hQ0.c5
      go_upto_region 11 with (go_at_call 60; (with_reducible refine (POf_any lo hi (some ⟨r1, 0, none⟩) E2 (some ⟨r3, 0, none⟩) n1 n2 n3 m1 g2 m3 data code ts _ l1 t20 l3 (by omega) (by omega) (by omega)).mono ?_); rw [HOF.out]; rintro e w5 ⟨D, a1, b1, T, a2, b2, C, a3, b3, rfl, hX5, own1, own2, own3, hDC⟩; simp only at own1 own2 own3)
      have HDC := hd hDC
      clear hDC
      refine wp_world (fun W => Ext w5 W ∧ Blk W w5.heap.size 25 #[.int .i64 klo, .int .i64 khi, .slice D a1 b1, .slice T a2 b2, .slice C a3 b3]) ⟨Ext.new _ _, Blk.new _ _ _⟩ ?_
      obtain ⟨g8, hg8⟩ : ∃ g8, w5.heap.size = g8 := ⟨_, rfl⟩
      rw [hg8]
      rintro W5 ⟨hX5', hB5⟩
      have Y5 := hX5.trans hX5'
      have X5 := hXc.trans Y5
      have hz5 := hX5.size
      clear q0 q1 q2 q3 q4
      obtain ⟨p0, p1, p2, p3, p4⟩ := (hBc.ext Y5).c5
      obtain ⟨q0, q1, q2, q3, q4⟩ := (hQ0.ext Y5).c5
      go_upto_region 12 with (go_at_call 61; (with_reducible refine (SameProgram_any lo hi lo hi (some ⟨r1, 0, none⟩) E2 (some ⟨r3, 0, none⟩) A1 A2 A3 n1 n2 n3 m1 g2 m3 n1 n2 n3 c1 c2 c3 data data code code ts ts _ (l1.ext Y5) (t20.ext Y5) (l3.ext Y5) (h1.ext X5) (h2.ext X5) (h3.ext X5) (by omega) (by omega) (by omega) (by omega)).mono ?_); rintro e w6 ⟨bb, hbb, rfl, hX6⟩; obtain rfl : bb = true := hbb.mpr ⟨rfl, rfl, rfl, rfl, rfl⟩; clear hbb)
      have Y6 := Y5.trans hX6
      have X6 := hXc.trans Y6
      clear p0 p1 p2 p3 p4 q0 q1 q2 q3 q4
      obtain ⟨q0, q1, q2, q3, q4⟩ := (hQ0.ext Y6).c5
      go_upto_region 13 with (go_at_call 62; (with_reducible refine (PCheck_any lo hi (some ⟨r1, 0, none⟩) E2 (some ⟨r3, 0, none⟩) n1 n2 n3 m1 g2 m3 data code ts _ (l1.ext Y6) (t20.ext Y6) (l3.ext Y6) (by omega) (by omega) (by omega)).mono ?_); rw [HCK.out]; rintro e w7 ⟨rfl, hX7⟩)
      have Y7 := Y6.trans hX7
      have X7 := hXc.trans Y7
      clear q0 q1 q2 q3 q4
      obtain ⟨p0, p1, p2, p3, p4⟩ := (hBc.ext Y7).c5
      go_upto_region 14 with (first | (go_at_call 64; (with_reducible refine (CopyProgram_any lo hi A1 A2 A3 n1 n2 n3 c1 c2 c3 data code ts _ (h1.ext X7) (h2.ext X7) (h3.ext X7) (by omega) (by omega) (by omega)).mono ?_); rintro e w8 ⟨B1, B2, B3, b1', b2', b3', rfl, o1, o2, o3, hX8⟩) | (go_at_call 63; (with_reducible refine (ROf_any lo hi B1 B2 B3 n1 n2 n3 b1' b2' b3' data code ts _ (Rd.of_own o1) (Rd.of_own o2) (Rd.of_own o3) (by omega) (by omega) (by omega)).mono ?_); rw [HOF.out]; rintro e w9 ⟨D', a1', e1', T', a2', e2', C', a3', e3', rfl, hX9, own1', own2', own3', -⟩; simp only at own1' own2' own3'))
      refine wp_world (fun W => Ext w9 W ∧ Blk W w9.heap.size 25 #[.int .i64 klo, .int .i64 khi, .slice D' a1' e1', .slice T' a2' e2', .slice C' a3' e3']) ⟨Ext.new _ _, Blk.new _ _ _⟩ ?_
      obtain ⟨g14, hg14⟩ : ∃ g14, w9.heap.size = g14 := ⟨_, rfl⟩
      rw [hg14]
      rintro W9 ⟨hX9', hB9⟩
      have Z9 := ((hX6.trans hX7).trans hX8).trans (hX9.trans hX9')
      have Y9 := Y5.trans Z9
      have X9 := hXc.trans Y9
      have hz8 := hX8.size
      have hz9 := hX9.size
      have hz9' := hX9'.size
      have hz7 := (hX6.trans hX7).size
      have hz5' := hX5'.size
      have x1 := Z9.own (hX5'.own own1)
      have x2 := Z9.own (hX5'.own own2)
      have x3 := Z9.own (hX5'.own own3)
      have x1' := own_base (hX9'.own own1') (show wc.heap.size ≤ w8.heap.size by omega)
      have x2' := own_base (hX9'.own own2') (show wc.heap.size ≤ w8.heap.size by omega)
      have x3' := own_base (hX9'.own own3') (show wc.heap.size ≤ w8.heap.size by omega)
      have ha1 : a1 ≤ 100000000 := by have := x1.1; rw [bv_length] at this; omega
      have ha2 : a2 ≤ 100000000 := by have := x2.1; rw [tv_length] at this; omega
      have ha2' : a2' ≤ 100000000 := by have := x2'.1; rw [tv_length] at this; omega
      have ha3 : a3 ≤ 100000000 := by have := x3.1; rw [bv_length] at this; omega
      have hQ9 := hQ0.ext Y9
      have hB9k := hBc.ext Y9
      have hB59 := hB5.ext Z9
      have D9 := D0.ext Y9
      have C9 := C0.ext Y9
      have Bk9 := hBookc.ext Y9
      have l1 := l1.ext Y9
      have l3 := l3.ext Y9
      have t20 := t20.ext Y9
      have HXc := hd hXc
      have HX9 := hd X9
      have hSD : ∀ b, (Value.slice D a1 b1).ownBlock = some b → ¬ S b := fun b e h => by have := (x1.lt b e).1; have := HGB.out b h; omega
      have hSC : ∀ b, (Value.slice C a3 b3).ownBlock = some b → ¬ S b := fun b e h => by have := (x3.lt b e).1; have := HGB.out b h; omega
      have hSk : ¬ S g8 := fun h => by have := HGB.out g8 h; omega
      have HSD := hd hSD
      have HSC := hd hSC
      have HSK := hd hSk
      have hDC2 : ∀ b, (Value.slice C a3 b3).ownBlock = some b → (Value.slice D a1 b1).ownBlock ≠ some b := fun b e e2 => by
        rcases HDC.out with h | h
        · rw [h] at e2; cases e2
        · exact h (e2.trans e.symm)
      have HDC2 := hd hDC2
      have HSM := hd (show samePackB klo khi kdata kts kcode klo khi kdata kts kcode = true by simp [samePackB])
      have n81 : ¬ LS gd (some r1) g8 := fun h => by have := HLT1.out g8 h; omega
      have n83 : ¬ LS gc (some r3) g8 := fun h => by have := HLT3.out g8 h; omega
      have n141 : ¬ LS gd (some r1) g14 := fun h => by have := HLT1.out g14 h; omega
      have n143 : ¬ LS gc (some r3) g14 := fun h => by have := HLT3.out g14 h; omega
      have nk1 : ¬ LS gd (some r1) gk := fun h => by have := HG1.out gk h; omega
      have nk3 : ¬ LS gc (some r3) gk := fun h => by have := HG3.out gk h; omega
      clear hX5 hX5' hX6 hX7 hX8 hX9 hX9' own1 own2 own3 own1' own2' own3' o1 o2 o3 Y5 Y6 Y7 X5 X6 X7 hSD hSC hSk hDC2 hB5 D0 C0 hBookc hXc p0 p1 p2 p3 p4 Z9 HDC
      obtain ⟨p0, p1, p2, p3, p4⟩ := hB9k.c5
      obtain ⟨q0, q1, q2, q3, q4⟩ := hQ9.c5
      go_upto_region 15 with (first | (go_at_call 61; (with_reducible refine (SameProgram_any lo hi lo hi (some ⟨r1, 0, none⟩) E2 (some ⟨r3, 0, none⟩) A1 A2 A3 n1 n2 n3 m1 g2 m3 n1 n2 n3 c1 c2 c3 data data code code ts ts _ l1 t20 l3 (h1.ext HX9.out) (h2.ext HX9.out) (h3.ext HX9.out) (by omega) (by omega) (by omega) (by omega)).mono ?_); rintro e w10 ⟨bb, hbb, rfl, hX10⟩; obtain rfl : bb = true := hbb.mpr ⟨rfl, rfl, rfl, rfl, rfl⟩; clear hbb; have hBk10 := hB9k.ext hX10; obtain ⟨x0', x1'', x2'', x3'', x4''⟩ := hBk10.c5; have C10 := C9.ext hX10; have X10 := HX9.out.trans hX10) | (go_at_call 31; (with_reducible refine (Back_any gd r1 rs1 A1 n1 c1 data _ (D9.ext hX10) T1.out hk1m hm1m (h1.ext X10) (by omega)).mono ?_); rintro e w11 ⟨rfl, rs1', hl1, D11, hK11⟩; have HL1 := hd hl1; clear hl1; have C11 := C10.keep hK11 (fun b h1 h2 => SEP.out b h2 h1); have hBk11 := hK11.blk hBk10 nk1; obtain ⟨y0, y1, y2, y3, y4⟩ := hBk11.c5; have X11 : Ext w w11 := hK11.ext X10 (fun k h => by have := HG1.out k h; omega)) | (go_at_call 65; (with_reducible refine (BackC_any gc r3 rs3 A3 n3 c3 code _ C11 T3.out hk3m hm3m (h3.ext X11) (by omega)).mono ?_); rintro e w12 ⟨rfl, rs3', hl3, C12, hK12⟩; have HL3 := hd hl3; clear hl3; have h812 := hK12.blk (hK11.blk (hB59.ext hX10) n81) n83; obtain ⟨u0, u1, u2, u3, u4⟩ := h812.c5; have h1412 := hK12.blk (hK11.blk (hB9.ext hX10) n141) n143; obtain ⟨v0, v1, v2, v3, v4⟩ := h1412.c5; have s1 := hK12.own (hK11.own (hX10.own x1) (own_farE x1 HLT1.out)) (own_farE x1 HLT3.out); have s2 := hK12.own (hK11.own (hX10.own x2) (own_farE x2 HLT1.out)) (own_farE x2 HLT3.out); have s3 := hK12.own (hK11.own (hX10.own x3) (own_farE x3 HLT1.out)) (own_farE x3 HLT3.out); have s1' := hK12.own (hK11.own (hX10.own x1') (own_farE x1' HLT1.out)) (own_farE x1' HLT3.out); have s2' := hK12.own (hK11.own (hX10.own x2') (own_farE x2' HLT1.out)) (own_farE x2' HLT3.out); have s3' := hK12.own (hK11.own (hX10.own x3') (own_farE x3' HLT1.out)) (own_farE x3' HLT3.out); have Bk12 := ((Bk9.ext hX10).keep hK11 HS1.out).keep hK12 HS3.out) | (go_at_call 32; (with_reducible refine (Num_any er _).mono ?_); rintro e wn ⟨rfl, rfl⟩) | (go_at_call 30; (with_reducible refine (SamePack_any klo khi klo khi D T C D' T' C' a1 a2 a3 b1 b2 b3 a1' a2' a3' e1' e2' e3' kdata kcode kdata kcode kts kts _ (Rd.of_own s1) (Rd.of_own s2) (Rd.of_own s3) (Rd.of_own s1') (Rd.of_own s2') (Rd.of_own s3') (by omega) (by omega)).mono ?_); rw [HSM.out]; rintro e w13 ⟨rfl, hX13⟩; have h813 := h812.ext hX13; obtain ⟨z0, z1, z2, z3, z4⟩ := h813.c5) | (go_at_call 34; (with_reducible refine (Own_any _ S1 gb (2 * k + 1) C a3 b3 kcode hBk14 (by omega) (own_base (hK14.own (hX13.own s3) (fun b e h => h.elim (HSC.out b e) (HDC2.out b e))) (Nat.zero_le _)) (fun b e h => (hS1 b h).1.elim (HSC.out b e) (fun h => h.elim (HDC2.out b e) (fun h => absurd ((hX13.own s3).lt b e).2 (Nat.not_lt.mpr h)))) (by omega)).mono ?_); rintro e w15 ⟨rfl, S2, hBk15, hS2, hK15⟩) | (go_at_call 34; (with_reducible refine (Own_any _ S gb (2 * k) D a1 b1 kdata (Bk12.ext hX13) (by omega) (own_base (hX13.own s1) (Nat.zero_le _)) HSD.out (by omega)).mono ?_); rintro e w14 ⟨rfl, S1, hBk14, hS1, hK14⟩; have h814 := hK14.blk h813 (fun h => h.elim HSK.out (fun h => own_blk_ne (hX13.own s1) h813 (by decide) h)); obtain ⟨r0', r1', r2', r3', r4'⟩ := h814.c5))
      have X12 : Ext w w12 := hK12.ext X11 (fun k h => by have := HG3.out k h; omega)
      have hz10 := hX10.size
      have hz11 := hK11.size
      have hz12 := hK12.size
      have hz13 := hX13.size
      have hz14 := hK14.size
      have hz15 := hK15.size
      have hzW9 : wc.heap.size ≤ W9.heap.size := by omega
      have hdl : ∀ b, (Value.slice D a1 b1).ownBlock = some b → wc.heap.size ≤ b := fun b e => (x1.lt b e).1
      have hcl : ∀ b, (Value.slice C a3 b3).ownBlock = some b → wc.heap.size ≤ b := fun b e => (x3.lt b e).1
      have hS1' : ∀ b, S1 b → S b ∨ wc.heap.size ≤ b := fun b h => by
        rcases (hS1 b h).1 with h | h | h
        · exact .inl h
        · exact .inr (hdl b h)
        · exact .inr (by omega)
      have hS2' : ∀ b, S2 b → (S b ∨ wc.heap.size ≤ b) ∧ b < w15.heap.size := fun b h => by
        refine ⟨?_, (hS2 b h).2⟩
        rcases (hS2 b h).1 with h | h | h
        · exact hS1' b h
        · exact .inr (hcl b h)
        · exact .inr (by omega)
      have hnotL1 : ∀ b, LS gd (some r1) b → ¬ (S b ∨ wc.heap.size ≤ b) := fun b hb h => h.elim (fun h => HS1.out b h hb) (fun h => by have := HLT1.out b hb; omega)
      have hnotL3 : ∀ b, LS gc (some r3) b → ¬ (S b ∨ wc.heap.size ≤ b) := fun b hb h => h.elim (fun h => HS3.out b h hb) (fun h => by have := HLT3.out b hb; omega)
      have hnotk : ¬ (S gk ∨ wc.heap.size ≤ gk) := fun h => h.elim (fun h => by have := HGA.out gk (.inr (.inr h)); omega) (fun h => by omega)
      have k14 : Kp (fun b => S b ∨ wc.heap.size ≤ b) w13 w14 := hK14.mono fun i _ h => h.elim .inl (fun h => .inr (hdl i h))
      have k15 : Kp (fun b => S b ∨ wc.heap.size ≤ b) w14 w15 := hK15.mono fun i _ h => h.elim (hS1' i) (fun h => .inr (hcl i h))
      have k135 := k14.trans k15 (fun i _ h => h)
      have D15 := ((D11.keep hK12 (fun b h1 h2 => SEP.out b h1 h2)).ext hX13).keep k135 hnotL1
      have C15 := (C12.ext hX13).keep k135 hnotL3
      have hBk12 := hK12.blk hBk11 nk3
      have B15 := k135.blk (hBk12.ext hX13) hnotk
      have X15 : Ext w w15 := k135.ext (X12.trans hX13) (fun k h => h.elim (fun h => by have := HGA.out k (.inr (.inr h)); omega) (fun h => by have := HXc.out.size; omega))
      have HGF := hd (show (∀ b, (LS gd (some r1) b ∨ LS gc (some r3) b ∨ S2 b) → gk < b) ∧ (∀ b, S2 b → b < w15.heap.size) ∧ (∀ b, S2 b → ¬ LS gd (some r1) b ∧ ¬ LS gc (some r3) b) by
        refine ⟨?_, fun b h => (hS2' b h).2, fun b h => ⟨fun hL => hnotL1 b hL (hS2' b h).1, fun hL => hnotL3 b hL (hS2' b h).1⟩⟩
        rintro b (h | h | h)
        · exact HG1.out b h
        · exact HG3.out b h
        · rcases (hS2' b h).1 with h | h
          · exact HGA.out b (.inr (.inr h))
          · omega)
      have L15 : LeC w15 gd gc (some r1) (some r3) rs1' rs3' := ⟨D15, C15, by rw [HL1.out]; exact hm1m, by rw [HL3.out]; exact hm3m, SEP.out⟩
      have hBk15' : BookOk w15 S2 gb (2 * (k + 1)) := by rw [show 2 * (k + 1) = 2 * k + 1 + 1 by omega]; exact hBk15
      clear x0' x1'' x2'' x3'' x4'' y0 y1 y2 y3 y4 u0 u1 u2 u3 u4 v0 v1 v2 v3 v4 z0 z1 z2 z3 z4 r0' r1' r2' r3' r4' p0 p1 p2 p3 p4 q0 q1 q2 q3 q4 s1 s2 s3 s1' s2' s3' x1 x2 x3 x1' x2' x3' D9 C9 C10 C11 C12 D11 Bk9 Bk12 hBk14 hBk15 hB59 hB9 hB9k hQ9 h812 h813 h814 h1412 hBk10 hBk11 hBk12 l1 l3 t20 k14 k15 k135 D15 C15 hK11 hK12 hK14 hK15 hX10 hX13
      go_wp2
      go_roundw
      case rel => exact ⟨k + 1, some r1, some r3, rs1', rs3', S2, by go_num, by omega, X15, B15, L15, hBk15', HGF⟩
      case measure => simp [intOf]; omega
    · obtain rfl : k = 3 := by omega
      have e1 : ¬ ((3 : Nat) : Int) < 3 := by omega
      go_wp2_with (go_at_call 35; (with_reducible refine (Done_any _ S gb (2 * 3) hBook (by omega)).mono ?_); rintro e w3 ⟨rfl, hK3⟩)
      go_ret
      exact ⟨rfl, hK3.ext hX fun b hb => by have := HGT.out.1 b (.inr (.inr hb)); omega⟩

end Go.Proofs.Ytfcbedkidjclhaa
