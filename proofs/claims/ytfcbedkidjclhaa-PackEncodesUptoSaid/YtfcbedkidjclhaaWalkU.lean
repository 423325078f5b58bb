/-
  The walk of PackEncodes: it answers true.
  Conditions: the lists can be read and are not very long.
-/
import Derived.Test.YtfcbedkidjclhaaGiven
import Derived.Test.YtfcbedkidjclhaaAwake
import Derived.Test.YtfcbedkidjclhaaRd2
import Derived.Test.YtfcbedkidjclhaaBook3
namespace Go.Proofs.Ytfcbedkidjclhaa
open Go.RowKit
set_option maxRecDepth 100000
set_option linter.unusedSimpArgs false
set_option linter.unusedVariables false

/-- a container as it is handed in -/
structure Kv where
  lo : Int
  hi : Int
  A1 : Option Addr
  n1 : Nat
  c1 : Nat
  A2 : Option Addr
  n2 : Nat
  c2 : Nat
  A3 : Option Addr
  n3 : Nat
  c3 : Nat
  data : List UInt8
  ts : List (Int × Int)
  code : List UInt8
def Kv.cs (x : Kv) : Array Value := #[.int .i64 x.lo, .int .i64 x.hi, .slice x.A1 x.n1 x.c1, .slice x.A2 x.n2 x.c2, .slice x.A3 x.n3 x.c3]
structure Kv.Ok (x : Kv) (w : World) : Prop where
  h1 : Rd w 1 x.A1 x.n1 (bv x.data)
  h2 : Rd w 2 x.A2 x.n2 (tv x.ts)
  h3 : Rd w 1 x.A3 x.n3 (bv x.code)
  b1 : x.n1 ≤ 83886080
  b2 : x.n2 * 16 ≤ 83886080
  b3 : x.n3 ≤ 83886080

theorem not_lender {b : Nat} {W : World} {g2 : Nat} {o2 : Option Nat} {rs2 : List UInt8} {cs : Array Value} {t : TypeId} (h : LR W g2 o2 rs2) (hb : Blk W b t cs) (ht1 : t ≠ 28) (ht2 : t ≠ 5) : ¬ LS g2 o2 b := by
  rintro (rfl | ho)
  · cases o2 with
    | none => exact Blk.ne_ hb h.2 ht1 rfl
    | some r => exact Blk.ne_ hb h.1 ht1 rfl
  · subst ho
    exact Blk.ne_ hb h.2 ht2 rfl
theorem own_farE {w : World} {base : Nat} {e : TypeId} {sz n : Nat} {v : Value} {xs : List Value} {L : Nat → Prop} (h : w.ownsRow base e sz v n xs) (hL : ∀ b, L b → b < base) : ∀ k, v.ownBlock = some k → ¬ L k := fun k e hk => by
  have h1 := (h.lt k e).1
  have h2 := hL k hk
  omega
theorem encode_short (lo hi : Int) (data : List UInt8) (ts : List (Int × Int)) (code : List UInt8) : (Pk.encode lo hi data ts code).1.length ≤ 131072 := by
  unfold Pk.encode Pk.short
  (repeat' split) <;> simp <;> omega

set_option maxHeartbeats 8000000 in
theorem PackEncodes_any (K O : Kv) (w : World) (hK : K.Ok w) (hO : O.Ok w) :
    Calls Try.prog 3 #[.agg K.cs, .agg O.cs] w fun e w' => e = .returned (.bool true) ∧ Ext w w' := by
  have HKO := hd (⟨hK, hO⟩ : K.Ok w ∧ O.Ok w)
  clear hK hO
  obtain ⟨klo, khi, KA1, kn1, kc1, KA2, kn2, kc2, KA3, kn3, kc3, kdata, kts, kcode⟩ := K
  obtain ⟨olo, ohi, OA1, on1, oc1, OA2, on2, oc2, OA3, on3, oc3, odata, ots, ocode⟩ := O
  simp only [Kv.cs]
  go_enter Try.func3, Try.ntmps3
  go_upto_region 1 with (fail)
  refine wp_world (fun W => Ext w W ∧ Blk W w.heap.size 25 #[.int .i64 klo, .int .i64 khi, .slice KA1 kn1 kc1, .slice KA2 kn2 kc2, .slice KA3 kn3 kc3] ∧ Blk W (w.heap.size + 1) 25 #[.int .i64 olo, .int .i64 ohi, .slice OA1 on1 oc1, .slice OA2 on2 oc2, .slice OA3 on3 oc3]) ⟨(Ext.new _ _).alloc _, (Blk.new _ _ _).alloc _, by simpa using Blk.new (w.alloc _) 25 _⟩ ?_
  obtain ⟨gk, hgk⟩ : ∃ gk, w.heap.size = gk := ⟨_, rfl⟩
  obtain ⟨go_, hgo⟩ : ∃ go_, gk + 1 = go_ := ⟨_, rfl⟩
  rw [hgk, hgo]
  rintro W0 ⟨hX0, hB0, hO0⟩
  go_upto_region 3 with (go_at_call 24; (with_reducible refine (awake_any _).mono ?_); rintro e W1 ⟨rfl, hXa⟩)
  have hX1 := hX0.trans hXa
  have hB1 := hB0.ext hXa
  have hO1 := hO0.ext hXa
  have hgo1 := hO1.lt
  clear hX0 hB0 hO0 hXa
  go_upto_region 5 with (fail)
  refine wp_world (fun W => Ext w W ∧ Blk W gk 25 #[.int .i64 klo, .int .i64 khi, .slice KA1 kn1 kc1, .slice KA2 kn2 kc2, .slice KA3 kn3 kc3] ∧ Blk W go_ 25 #[.int .i64 olo, .int .i64 ohi, .slice OA1 on1 oc1, .slice OA2 on2 oc2, .slice OA3 on3 oc3] ∧ Le W W1.heap.size (W1.heap.size + 1) none none [] [] ∧ BookOk W (fun b => b = W1.heap.size + 2) (W1.heap.size + 2) 0) ⟨((hX1.alloc _).alloc _).alloc _, ((hB1.alloc _).alloc _).alloc _, ((hO1.alloc _).alloc _).alloc _, ⟨⟨rfl, ((Blk.new _ _ _).alloc _).alloc _⟩, ⟨rfl, by simpa using (Blk.new (W1.alloc _) 28 _).alloc _⟩, by simp, by simp, ?_⟩, BookOk.new (by simpa using Blk.new ((W1.alloc _).alloc _) 33 _)⟩ ?_
  · rintro b (rfl | hb) (hc | hc)
    · omega
    · cases hc
    · cases hb
    · cases hb
  generalize hgd : W1.heap.size = gd
  generalize hgc : gd + 1 = gc
  obtain ⟨gb, hgb⟩ : ∃ gb, gc + 1 = gb := ⟨_, rfl⟩
  rw [show gd + 2 = gb by omega, hgb]
  rintro W2 ⟨hX2, hB2, hO2, hLe2, hBk2⟩
  have hlow2 := hBk2.low
  have HG0 := hd (show (∀ b, (LS gd none b ∨ LS gc none b ∨ (b = gb ∧ b < W2.heap.size)) → go_ < b) ∧ (∀ b, (b = gb ∧ b < W2.heap.size) → b < W2.heap.size) ∧ (∀ b, (b = gb ∧ b < W2.heap.size) → ¬ LS gd none b ∧ ¬ LS gc none b) by
    refine ⟨?_, fun b h => h.2, ?_⟩
    · rintro b ((h | h) | (h | h) | h)
      · omega
      · cases h
      · omega
      · cases h
      · omega
    · rintro b ⟨h1, h2⟩
      refine ⟨?_, ?_⟩
      · rintro (h | h)
        · omega
        · cases h
      · rintro (h | h)
        · omega
        · cases h)
  go_wp2
  go_loopw [8, 9, 10] (fun i _ _ wr => ∃ (k : Nat) (od oc : Option Nat) (rsd rsc : List UInt8) (S : Nat → Prop), i = .int .i64 k ∧ k ≤ 3 ∧ Ext w wr ∧ Blk wr gk 25 #[.int .i64 klo, .int .i64 khi, .slice KA1 kn1 kc1, .slice KA2 kn2 kc2, .slice KA3 kn3 kc3] ∧ Blk wr go_ 25 #[.int .i64 olo, .int .i64 ohi, .slice OA1 on1 oc1, .slice OA2 on2 oc2, .slice OA3 on3 oc3] ∧ Le wr gd gc od oc rsd rsc ∧ BookOk wr S gb k ∧ Hid ((∀ b, (LS gd od b ∨ LS gc oc b ∨ S b) → go_ < b) ∧ (∀ b, S b → b < wr.heap.size) ∧ (∀ b, S b → ¬ LS gd od b ∧ ¬ LS gc oc b))) (fun i _ _ _ => 3 - (intOf i).toNat)
  case atStart => exact ⟨0, none, none, [], [], _, rfl, by omega, hX2, hB2, hO2, hLe2, hlow2, HG0⟩
  case round =>
    obtain ⟨k, od, oc, rsd, rsc, S, rfl, hk, hX, hBK, hBO, hLe, hBook, HGT⟩ := hrel
    clear hX1 hB1 hO1 hX2 hB2 hO2 hLe2 hBk2 hlow2
    by_cases hlt : k < 3
    · have e1 : (k : Int) < 3 := by omega
      obtain ⟨p0, p1, p2, p3, p4⟩ := hBK.c5
      obtain ⟨q0, q1, q2, q3, q4⟩ := hBO.c5
      obtain ⟨X, hXcs, hXok⟩ : ∃ X : Kv, (X.cs = if k = 1 then #[.int .i64 olo, .int .i64 ohi, .slice OA1 on1 oc1, .slice OA2 on2 oc2, .slice OA3 on3 oc3] else #[.int .i64 klo, .int .i64 khi, .slice KA1 kn1 kc1, .slice KA2 kn2 kc2, .slice KA3 kn3 kc3]) ∧ X.Ok w := by
        by_cases h1 : k = 1
        · exact ⟨_, by rw [if_pos h1]; rfl, HKO.out.2⟩
        · exact ⟨_, by rw [if_neg h1]; rfl, HKO.out.1⟩
      have HXC := hd hXcs
      have HXO := hd hXok
      clear hXcs hXok
      obtain ⟨w0, rfl⟩ : ∃ w0, w0 = wr := ⟨_, rfl⟩
      have hgox := hBO.lt
      go_upto_region 9 with (fail)
      refine wp_world (fun W => Ext w0 W ∧ Blk W w0.heap.size 25 #[.int .i64 klo, .int .i64 khi, .slice KA1 kn1 kc1, .slice KA2 kn2 kc2, .slice KA3 kn3 kc3]) ⟨Ext.new _ _, Blk.new _ _ _⟩ ?_
      obtain ⟨gx, hgx⟩ : ∃ gx, w0.heap.size = gx := ⟨_, rfl⟩
      rw [hgx]
      rintro Wx ⟨hXx0, hBx0⟩
      obtain ⟨f0, f1, f2, f3, f4⟩ := hBx0.f5
      obtain ⟨g0, g1, g2, g3, g4⟩ := hBx0.c5
      clear q0 q1 q2 q3 q4
      obtain ⟨q0, q1, q2, q3, q4⟩ := (hBO.ext hXx0).c5
      go_upto_if 25 with (fail)
      go_cut [] from 26 to 26 (fun W => Ext w0 W ∧ Blk W gx 25 X.cs)
      case first =>
        by_cases h1 : k = 1
        · subst h1
          have HXC2 := hd (show X.cs = _ from HXC.out.trans (if_pos rfl))
          have HS5 := hd (show Ext w0 (((((Wx.setCell ⟨gx, 0, none⟩ (.int .i64 olo)).setCell ⟨gx, 1, none⟩ (.int .i64 ohi)).setCell ⟨gx, 2, none⟩ (.slice OA1 on1 oc1)).setCell ⟨gx, 3, none⟩ (.slice OA2 on2 oc2)).setCell ⟨gx, 4, none⟩ (.slice OA3 on3 oc3)) ∧ Blk (((((Wx.setCell ⟨gx, 0, none⟩ (.int .i64 olo)).setCell ⟨gx, 1, none⟩ (.int .i64 ohi)).setCell ⟨gx, 2, none⟩ (.slice OA1 on1 oc1)).setCell ⟨gx, 3, none⟩ (.slice OA2 on2 oc2)).setCell ⟨gx, 4, none⟩ (.slice OA3 on3 oc3)) gx 25 #[.int .i64 olo, .int .i64 ohi, .slice OA1 on1 oc1, .slice OA2 on2 oc2, .slice OA3 on3 oc3] from ⟨hXx0.s5 (by omega) _ _ _ _ _, hBx0.s5 _ _ _ _ _⟩)
          clear hXx0 hBx0
          go_wp2
          go_meet
          case rel =>
            rw [HXC2.out]
            exact HS5.out
        · have e2 : ((k : Int) == 1) = false := by simp; omega
          have HXC2 := hd (show X.cs = _ from HXC.out.trans (if_neg h1))
          go_wp2
          go_meet
          case rel =>
            rw [HXC2.out]
            exact ⟨hXx0, hBx0⟩
      case rest =>
      obtain ⟨hXx, hBx⟩ := hcut
      clear f0 f1 f2 f3 f4 g0 g1 g2 g3 g4 hXx0 hBx0
      have hbG := HGT.out
      obtain ⟨lo, hi, A1, n1, c1, A2, n2, c2, A3, n3, c3, data, ts, code⟩ := X
      simp only [Kv.cs] at hBx
      have hX2 := hX.trans hXx
      have hBK2 := hBK.ext hXx
      have hBO2 := hBO.ext hXx
      have hLe2 := hLe.ext hXx
      have hBook2 := hBook.ext hXx
      have HGA := hd hbG.1
      have HGB := hd hbG.2.1
      have HGC := hd hbG.2.2
      have h1 := HXO.out.h1
      have h2 := HXO.out.h2
      have h3 := HXO.out.h3
      have hn1 := HXO.out.b1
      have hn2 := HXO.out.b2
      have hn3 := HXO.out.b3
      simp only at h1 h2 h3 hn1 hn2 hn3
      have L1 := hd (show data.length = n1 by have := h1.1; rw [bv_length] at this; omega)
      have L2 := hd (show ts.length = n2 by have := h2.1; rw [tv_length] at this; omega)
      have L3 := hd (show code.length = n3 by have := h3.1; rw [bv_length] at this; omega)
      clear HXC HXO hbG hX hBK hBO hLe hBook HGT p0 p1 p2 p3 p4 q0 q1 q2 q3 q4
      have hgow : w.heap.size < go_ := by omega
      have hgx0 : go_ < gx := by rw [← hgx]; exact hgox
      obtain ⟨wr, rfl⟩ : ∃ wr, wr = wc := ⟨_, rfl⟩
      have d1 := h1.ext hX2
      have d2 := h2.ext hX2
      have d3 := h3.ext hX2
      have hAx : ∀ {sz n : Nat} {A : Option Addr} {xs : List Value}, Rd w sz A n xs → 0 < sz → 0 < n → ∀ ad, A = some ad → ad.block < w.heap.size := fun h hs hn ad e => old_rd h hs hn ad e
      have hA1 : 0 < n1 → ∀ ad, A1 = some ad → ¬ LS gd od ad.block := fun hn ad e hL => by have y1 := HGA.out _ (.inl hL); have y2 := old_rd h1 (by omega) hn ad e; omega
      have hA2 : 0 < n2 → ∀ ad, A2 = some ad → ¬ LS gd od ad.block := fun hn ad e hL => by have y1 := HGA.out _ (.inl hL); have y2 := old_rd h2 (by omega) hn ad e; omega
      have hA31 : 0 < n3 → ∀ ad, A3 = some ad → ¬ LS gd od ad.block := fun hn ad e hL => by have y1 := HGA.out _ (.inl hL); have y2 := old_rd h3 (by omega) hn ad e; omega
      have hA3 : 0 < n3 → ∀ ad, A3 = some ad → ¬ LS gc oc ad.block := fun hn ad e hL => by have y1 := HGA.out _ (.inr (.inl hL)); have y2 := old_rd h3 (by omega) hn ad e; omega
      have hB := hBx
      have hLe := hLe2
      have hX := hX2
      have hnb1 : ¬ LS gd od gx := not_lender hLe.ld hB (by decide) (by decide)
      have hnb3 : ¬ LS gc oc gx := not_lender hLe.lc hB (by decide) (by decide)
      have hsep : ∀ b, LS gc oc b → ¬ LS gd od b := fun b h1 h2 => hLe.sep b h2 h1
      have hzn : ¬ LS gd od wr.heap.size := fun h => by have := hLe.lt1 _ h; omega
      have hzc : ∀ b, wr.heap.size ≤ b → ¬ LS gc oc b := fun b hb h => by have := hLe.lt2 _ h; omega
      clear hBx hLe2 hX2 hAx
      go_upto_region 11 with (fail)
      go_cut [10] from 27 to 40 (fun v W => ∃ gq r1 r3 rs1 rs3 E2 g2, v = .pointer (some ⟨gq, 0, none⟩) ∧ Gv wr W gd gc od oc lo hi n1 n2 n3 data code ts gq r1 r3 rs1 rs3 E2 g2)
      case first =>
        have hlt0 := hB.lt
        go_region_held3 (fun w' => w'.cell? ⟨gx, 0, none⟩ = some (.int .i64 lo) ∧ w'.cell? ⟨gx, 1, none⟩ = some (.int .i64 hi) ∧ w'.cell? ⟨gx, 2, none⟩ = some (.slice A1 n1 c1) ∧ w'.cell? ⟨gx, 3, none⟩ = some (.slice A2 n2 c2) ∧ w'.cell? ⟨gx, 4, none⟩ = some (.slice A3 n3 c3))
          (first | with_reducible exact hB.drew.c5 | with_reducible exact (hB.alloc _).drew.c5 | with_reducible exact (hB.drew.alloc _).c5 | with_reducible exact hB1.c5 | with_reducible exact (hB1.alloc _).c5 | with_reducible exact hB2.c5 | with_reducible exact (hB2.alloc _).c5 | with_reducible exact hB3.c5 | with_reducible exact (hB3.alloc _).c5 | exact c5_far5 hB3 (by omega) | go_keep)
          (first | (go_at_call 26; (with_reducible refine (CopyTables_any A2 n2 c2 ts _ ?_ (by omega)).mono ?_); (first | exact hT1 | exact hT1.alloc _); rintro e w2 ⟨E2, g2, rfl, own2, hb2⟩; have hX2 : Ext w1 w2 := (by first | exact hb2 | exact (Ext.new _ _).trans hb2); have own2 := own_from own2 (by first | exact Ext.refl _ | exact Ext.new _ _ : Ext w1 _); have hB2 := hB1.ext hX2; have hs2 := hX2.size; (try (have hZ2 := hZ1.ext hX2; obtain ⟨zf0, zf1, zf2, zf3, zf4⟩ := hZ2.f5; obtain ⟨zg0, zg1, zg2, zg3, zg4⟩ := hZ2.c5)); (try (have hZ2 := (Blk.new w1 25 #[.int .i64 0, .int .i64 0, .slice none 0 0, .slice none 0 0, .slice none 0 0]).ext hb2; obtain ⟨zf0, zf1, zf2, zf3, zf4⟩ := hZ2.f5; obtain ⟨zg0, zg1, zg2, zg3, zg4⟩ := hZ2.c5))) | (go_at_call 25; have tok := hX2; (with_reducible refine (Lend_any gc oc rsc A3 n3 c3 code _ ?_ ?_ hA3 (by omega) hLe.mc).mono ?_); (first | exact ((hLe.lc.keep hK1 hsep).ext hX2) | exact ((hLe.lc.keep hK1 hsep).ext hX2).alloc_ _); (first | exact hD1.ext hX2 | exact (hD1.ext hX2).alloc _); intro e w3 hP; obtain ⟨r3, rs3, rfl, hL3, hK3, hr3⟩ := hP.lt (wr := w2) (by first | exact Ext.refl _ | exact Ext.new _ _); (try (have hZ3 := hK3.blk hZ2 (hzc _ (by first | exact Nat.le_refl _ | exact hK1.size | exact Nat.le_trans (Ext.new _ _).size hK1.size)); obtain ⟨zf0, zf1, zf2, zf3, zf4⟩ := hZ3.f5; obtain ⟨zg0, zg1, zg2, zg3, zg4⟩ := hZ3.c5)); (try (have hZ3 := (hP.kp (wr := w2.alloc (.cells #[.int .i64 0, .int .i64 0, .slice none 0 0, .slice none 0 0, .slice none 0 0] 25)) (Ext.refl _)).blk (Blk.new w2 25 #[.int .i64 0, .int .i64 0, .slice none 0 0, .slice none 0 0, .slice none 0 0]) (hzc _ (Nat.le_trans hK1.size hX2.size)); obtain ⟨zf0, zf1, zf2, zf3, zf4⟩ := hZ3.f5; obtain ⟨zg0, zg1, zg2, zg3, zg4⟩ := hZ3.c5)); have hB3 := hK3.blk hB2 hnb3; have hs3 := hK3.size; have hC3 := ca_mk hLe hK1 hL1 hX2 own2 (Ext.refl _) hK3 hL3; clear hP) | (go_at_call 25; (with_reducible refine (Lend_any gd od rsd A1 n1 c1 data _ ?_ ?_ hA1 (by omega) hLe.md).mono ?_); (first | exact (hLe.ext (Ext.refl _).drew).ld | exact (hLe.ext (Ext.new _ _).drew).ld); (first | exact d1.ext (Ext.refl _).drew | exact d1.ext (Ext.new _ _).drew); intro e w1 hP; obtain ⟨r1, rs1, rfl, hL1, hK1, hr1⟩ := hP.lt (wr := wr) (by first | exact (Ext.refl _).drew | exact (Ext.new _ _).drew); (try (have hZ1 := (hP.kp (wr := wr.alloc (.cells #[.int .i64 0, .int .i64 0, .slice none 0 0, .slice none 0 0, .slice none 0 0] 25)) (Ext.refl _).drew).blk (Blk.new wr 25 #[.int .i64 0, .int .i64 0, .slice none 0 0, .slice none 0 0, .slice none 0 0]) hzn; obtain ⟨zf0, zf1, zf2, zf3, zf4⟩ := hZ1.f5; obtain ⟨zg0, zg1, zg2, zg3, zg4⟩ := hZ1.c5)); clear hP; have hB1 := hK1.blk hB hnb1; have hT1 := hK1.rd0 d2 hA2; have hD1 := hK1.rd0 d3 hA31; have hs1 := hK1.size))
        all_goals go_wp2
        all_goals go_meet
        all_goals case rel =>
          first
            | exact ⟨_, r1, r3, rs1, rs3, E2, g2, rfl, hC3.alloc⟩
            | exact ⟨_, r1, r3, rs1, rs3, E2, g2, rfl, hC3.box (by first | exact Nat.le_refl _ | exact hK1.size | exact Nat.le_trans hK1.size hX2.size) hZ3⟩
      case rest =>
      obtain ⟨gq, r1, r3, rs1, rs3, E2, g2, rfl, hG⟩ := hcut
      have l1 := hG.ld.rd L1.out
      have l3 := hG.lc.rd L3.out
      have hBxc := hG.kp.blk hB (fun h => h.elim hnb1 hnb3)
      have hBKc := hG.kp.blk hBK2 (fun h => h.elim (not_lender hLe.ld hBK2 (by decide) (by decide)) (not_lender hLe.lc hBK2 (by decide) (by decide)))
      have hBOc := hG.kp.blk hBO2 (fun h => h.elim (not_lender hLe.ld hBO2 (by decide) (by decide)) (not_lender hLe.lc hBO2 (by decide) (by decide)))
      have hXc : Ext w wc := hG.kp.ext hX (fun k h => by have := HGA.out k (h.elim .inl (fun h => .inr (.inl h))); omega)
      have hBookc := hBook2.keep hG.kp (fun b hS h => by have := HGC.out b hS; exact h.elim this.1 this.2)
      have hz0 := hXx.size
      have hzr := hG.kp.size
      have T1 := hd hG.ld.t1
      have T3 := hd hG.lc.t1
      have SEP := hd hG.sep
      have HLT1 := hd hG.ld.lr.lt
      have HLT3 := hd hG.lc.lr.lt
      have hor1 := hG.ld.or_
      have hor3 := hG.lc.or_
      have HS1 := hd (show ∀ b, S b → ¬ LS gd (some r1) b by
        intro b hS
        rintro (h | h)
        · exact (HGC.out b hS).1 (.inl h)
        · injection h with h
          rcases hor1 with h5 | h5
          · exact (HGC.out b hS).1 (.inr (by rw [h5, h]))
          · have := HGB.out b hS; omega)
      have HS3 := hd (show ∀ b, S b → ¬ LS gc (some r3) b by
        intro b hS
        rintro (h | h)
        · exact (HGC.out b hS).2 (.inl h)
        · injection h with h
          rcases hor3 with h5 | h5
          · exact (HGC.out b hS).2 (.inr (by rw [h5, h]))
          · have := HGB.out b hS; omega)
      have hgor := hBO2.lt
      have HG1 := hd (show ∀ b, LS gd (some r1) b → go_ < b by
        rintro b (rfl | hb)
        · exact HGA.out _ (.inl (.inl rfl))
        · injection hb with hb
          subst hb
          rcases hor1 with h | h
          · exact HGA.out _ (.inl (.inr h))
          · omega)
      have HG3 := hd (show ∀ b, LS gc (some r3) b → go_ < b by
        rintro b (rfl | hb)
        · exact HGA.out _ (.inr (.inl (.inl rfl)))
        · injection hb with hb
          subst hb
          rcases hor3 with h | h
          · exact HGA.out _ (.inr (.inl (.inr h)))
          · omega)
      have hk1m := hG.ld.k1
      have hk3m := hG.lc.k1
      have hm1m := hG.ld.m1
      have hm3m := hG.lc.m1
      have D0 := hG.ld.lr
      have C0 := hG.lc.lr
      have hQ0 := hG.bq
      have t20 := hG.rt
      obtain ⟨m1, hm1⟩ : ∃ m, rs1.length = m := ⟨_, rfl⟩
      obtain ⟨m3, hm3⟩ : ∃ m, rs3.length = m := ⟨_, rfl⟩
      rw [hm1, hm3] at hQ0
      have HM1 := hd hm1
      have HM3 := hd hm3
      obtain ⟨Bb, er, hen⟩ : ∃ Bb er, Pk.encode lo hi data ts code = (Bb, er) := ⟨_, _, rfl⟩
      have hBl : Bb.length ≤ 131072 := by have := encode_short lo hi data ts code; rw [hen] at this; exact this
      obtain ⟨NB, hNB⟩ : ∃ NB, Bb.length = NB := ⟨_, rfl⟩
      rw [hNB] at hBl
      have LB := hd hNB
      have HEN := hd hen
      clear hm1 hm3 hor1 hor3 hA1 hA2 hA31 hA3 d1 d2 d3 hG hen hNB hBK2 hBO2 hBook2 hB hLe hX hXx hnb1 hnb3 hsep hzn hzc
      obtain ⟨q0, q1, q2, q3, q4⟩ := hQ0.c5
      go_upto_region 13 with (go_at_call 27; (with_reducible refine (Encode_any lo hi (some ⟨r1, 0, none⟩) E2 (some ⟨r3, 0, none⟩) n1 n2 n3 m1 g2 m3 data code ts _ l1 t20 l3 (by omega) (by omega) (by omega)).mono ?_); rw [HEN.out]; intro e w5 hP; obtain ⟨Ag, cg, rfl, own5, hcg, rd5, hX5⟩ := hP.at_ LB.out; clear hP)
      have hBx5 := hBxc.ext hX5
      obtain ⟨p0, p1, p2, p3, p4⟩ := hBx5.c5
      have X5 := hXc.trans hX5
      go_upto_region 14 with (first | (go_at_call 29; (with_reducible refine (CopyPack_any lo hi A1 A2 A3 n1 n2 n3 c1 c2 c3 data code ts _ (h1.ext X5) (h2.ext X5) (h3.ext X5) (by omega) (by omega) (by omega)).mono ?_); rintro e w7 ⟨B1, B2, B3, b1, b2, b3, rfl, o1, o2, o3, hX7⟩) | (go_at_call 28; (with_reducible refine (REnc_head lo hi B1 B2 B3 n1 n2 n3 b1 b2 b3 data code ts _ (Rd.of_own o1) (Rd.of_own o2) (Rd.of_own o3) (by omega) (by omega) (by omega)).mono ?_); rw [HEN.out]; intro e w8 hP; obtain ⟨Aw, cw, rfl, own8, hcw, rd8, hX8⟩ := hP.at_ LB.out; clear hP))
      have Y8 := hX7.trans hX8
      have Yc := hX5.trans Y8
      have hz5 := hX5.size
      have hz7 := hX7.size
      have X8 := X5.trans Y8
      have own5 := Y8.own own5
      have own8 := own_base own8 (Nat.le_trans hz5 hz7)
      have hBx8 := hBx5.ext Y8
      have hQ8 := hQ0.ext Yc
      have l1 := l1.ext Yc
      have l3 := l3.ext Yc
      have t20 := t20.ext Yc
      have D8 := D0.ext Yc
      have C8 := C0.ext Yc
      have K8 := hBKc.ext Yc
      have O8 := hBOc.ext Yc
      have Bk8 := hBookc.ext Yc
      have hz8 := Yc.size
      have hKl := hBKc.lt
      have hOl := hBOc.lt
      clear hX5 hX7 hX8 Y8 Yc o1 o2 o3 rd5 rd8 hBx5 hQ0 D0 C0 hBKc hBOc hBookc X5 q0 q1 q2 q3 q4 p0 p1 p2 p3 p4 hBxc hXc
      obtain ⟨p0, p1, p2, p3, p4⟩ := hBx8.c5
      obtain ⟨q0, q1, q2, q3, q4⟩ := hQ8.c5
      have HSM := hd (show samePackB lo hi data ts code lo hi data ts code = true by simp [samePackB])
      go_upto_region 15 with (first | (go_at_call 30; (with_reducible refine (SamePack_any lo hi lo hi (some ⟨r1, 0, none⟩) E2 (some ⟨r3, 0, none⟩) A1 A2 A3 n1 n2 n3 m1 g2 m3 n1 n2 n3 c1 c2 c3 data code data code ts ts _ l1 t20 l3 (h1.ext X8) (h2.ext X8) (h3.ext X8) (by omega) (by omega)).mono ?_); rw [HSM.out]; rintro e w10 ⟨rfl, hX10⟩; obtain ⟨x0, x1, x2, x3, x4⟩ := (hBx8.ext hX10).c5; have X10 := X8.trans hX10; have D10 := D8.ext hX10; have C10 := C8.ext hX10) | (go_at_call 31; (with_reducible refine (Back_any gc r3 rs3 A3 n3 c3 code _ C11 T3.out hk3m hm3m (h3.ext X11) (by omega)).mono ?_); rintro e w12 ⟨rfl, rs3', hl3, C12, hK12⟩; have HL3 := hd hl3; clear hl3) | (go_at_call 31; (with_reducible refine (Back_any gd r1 rs1 A1 n1 c1 data _ D10 T1.out hk1m hm1m (h1.ext X10) (by omega)).mono ?_); rintro e w11 ⟨rfl, rs1', hl1, D11, hK11⟩; have HL1 := hd hl1; clear hl1; have C11 := C10.keep hK11 (fun b h1 h2 => SEP.out b h2 h1); have hBx11 := hK11.blk (hBx8.ext hX10) (not_lender D10 (hBx8.ext hX10) (by decide) (by decide)); obtain ⟨x0, x1, x2, x3, x4⟩ := hBx11.c5; have X11 : Ext w w11 := hK11.ext X10 (fun k h => by have := HG1.out k h; omega)) | (go_at_call 32; (with_reducible refine (Num_any er _).mono ?_); rintro e w13 ⟨rfl, rfl⟩) | (go_at_call 33; (with_reducible refine (SameBytes_any Ag Aw NB NB cg cw Bb Bb _ (Rd.of_own (hK12.own (hK11.own (hX10.own own5) (own_farE own5 HLT1.out)) (own_farE own5 HLT3.out))) (Rd.of_own (hK12.own (hK11.own (hX10.own own8) (own_farE own8 HLT1.out)) (own_farE own8 HLT3.out)))).mono ?_); rw [beq_self_eq_true]; rintro e w13 ⟨rfl, rfl⟩) | (go_at_call 34; (with_reducible refine (Own_any _ S gb k Ag NB cg Bb (((Bk8.ext hX10).keep hK11 HS1.out).keep hK12 HS3.out) (by omega) (own_base (hK12.own (hK11.own (hX10.own own5) (own_farE own5 HLT1.out)) (own_farE own5 HLT3.out)) (Nat.zero_le _)) (fun b e hS => by have y1 := (own5.lt b e).1; have y2 := HGB.out b hS; omega) (by omega)).mono ?_); rintro e w14 ⟨rfl, S', hBk', hS', hKo⟩))
      have X12 : Ext w w12 := hK12.ext X11 (fun k h => by have := HG3.out k h; omega)
      have hfar : ∀ b, (Value.slice Ag NB cg).ownBlock = some b → wc.heap.size ≤ b := fun b e => (own5.lt b e).1
      have hz12 : wc.heap.size ≤ w12.heap.size := Nat.le_trans hz8 (Nat.le_trans hX10.size (Nat.le_trans hK11.size hK12.size))
      have D14 := (D11.keep hK12 (fun b h1 h2 => SEP.out b h1 h2)).keep hKo (fun b hL h => h.elim (fun h => HS1.out b h hL) (fun h => by have y1 := hfar b h; have y2 := HLT1.out b hL; omega))
      have C14 := C12.keep hKo (fun b hL h => h.elim (fun h => HS3.out b h hL) (fun h => by have y1 := hfar b h; have y2 := HLT3.out b hL; omega))
      have K12 := hK12.blk (hK11.blk (K8.ext hX10) (not_lender D10 (K8.ext hX10) (by decide) (by decide))) (not_lender C11 (hK11.blk (K8.ext hX10) (not_lender D10 (K8.ext hX10) (by decide) (by decide))) (by decide) (by decide))
      have O12 := hK12.blk (hK11.blk (O8.ext hX10) (not_lender D10 (O8.ext hX10) (by decide) (by decide))) (not_lender C11 (hK11.blk (O8.ext hX10) (not_lender D10 (O8.ext hX10) (by decide) (by decide))) (by decide) (by decide))
      have K14 := hKo.blk K12 (fun h => h.elim (fun h => by have := HGA.out gk (.inr (.inr h)); omega) (fun h => by have := hfar gk h; omega))
      have O14 := hKo.blk O12 (fun h => h.elim (fun h => by have := HGA.out go_ (.inr (.inr h)); omega) (fun h => by have := hfar go_ h; omega))
      have X14 : Ext w w14 := hKo.ext X12 (fun k h => h.elim (fun h => by have := HGA.out k (.inr (.inr h)); omega) (fun h => by have := hfar k h; omega))
      have HGF := hd (show (∀ b, (LS gd (some r1) b ∨ LS gc (some r3) b ∨ S' b) → go_ < b) ∧ (∀ b, S' b → b < w14.heap.size) ∧ (∀ b, S' b → ¬ LS gd (some r1) b ∧ ¬ LS gc (some r3) b) by
        refine ⟨?_, fun b h => (hS' b h).2, ?_⟩
        · rintro b (h | h | h)
          · exact HG1.out b h
          · exact HG3.out b h
          · rcases (hS' b h).1 with h | h | h
            · exact HGA.out b (.inr (.inr h))
            · have := hfar b h; omega
            · omega
        · intro b h
          rcases (hS' b h).1 with h | h | h
          · exact ⟨HS1.out b h, HS3.out b h⟩
          · have y1 := hfar b h
            exact ⟨fun hL => by have := HLT1.out b hL; omega, fun hL => by have := HLT3.out b hL; omega⟩
          · exact ⟨fun hL => by have := HLT1.out b hL; omega, fun hL => by have := HLT3.out b hL; omega⟩)
      have L14 : Le w14 gd gc (some r1) (some r3) rs1' rs3' := ⟨D14, C14, by rw [HL1.out]; exact hm1m, by rw [HL3.out]; exact hm3m, SEP.out⟩
      clear x0 x1 x2 x3 x4 p0 p1 p2 p3 p4 q0 q1 q2 q3 q4 hBx11 hBx8 hQ8 own5 own8 D8 C8 K8 O8 Bk8 D10 C10 D11 C11 C12 K12 O12 D14 C14 X8 X10 X11 X12 hK11 hK12 hKo hX10 l1 l3 t20 hfar hS'
      go_wp2
      go_roundw
      case rel => exact ⟨k + 1, some r1, some r3, rs1', rs3', S', by go_num, by omega, X14, K14, O14, L14, hBk', HGF⟩
      case measure => simp [intOf]; omega
    · obtain rfl : k = 3 := by omega
      have e1 : ¬ ((3 : Nat) : Int) < 3 := by omega
      go_wp2_with (go_at_call 35; (with_reducible refine (Done_any _ S gb 3 hBook (by omega)).mono ?_); rintro e w3 ⟨rfl, hK3⟩)
      go_ret
      exact ⟨rfl, hK3.ext hX fun b hb => by have := HGT.out.1 b (.inr (.inr hb)); omega⟩

end Go.Proofs.Ytfcbedkidjclhaa
