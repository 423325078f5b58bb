/-
  The walk of PackDecodes: it answers true.
  Conditions: the lists can be read and are not very long.
-/
import Derived.Test.YtfcbedkidjclhaaDecs
import Derived.Test.YtfcbedkidjclhaaSumd
namespace Go.Proofs.Ytfcbedkidjclhaa
open Go.RowKit
set_option maxRecDepth 100000
set_option linter.unusedSimpArgs false
set_option linter.unusedVariables false

theorem mask_ltV (b : Int) : ∃ m : Nat, bits .and .i64 b 4611686018427387903 = (m : Int) := by
  have h : ((BitVec.ofInt 64 b &&& BitVec.ofInt 64 4611686018427387903).toNat : Int) ≤ 4611686018427387903 := by
    rw [BitVec.toNat_and, show (BitVec.ofInt 64 4611686018427387903).toNat = 4611686018427387903 from rfl]
    have := @Nat.and_le_right (BitVec.ofInt 64 b).toNat 4611686018427387903
    omega
  refine ⟨(BitVec.ofInt 64 b &&& BitVec.ofInt 64 4611686018427387903).toNat, ?_⟩
  show IntKind.i64.wrap ((BitVec.ofInt 64 b &&& BitVec.ofInt 64 4611686018427387903).toNat : Int) = _
  rw [IntKind.wrap_i64]
  omega
theorem own_xorV {w : World} {base n c g : Nat} {cs : List UInt8} (h : w.ownsRow base 5 1 (.slice (some ⟨g, 0, none⟩) n c) n (bv cs)) {j : Nat} (hj : j < n) (a b : Int) :
    ∃ cs' : List UInt8, (w.setCell ⟨g, j, none⟩ (.int .u8 (bits .xor .u8 a b))).ownsRow base 5 1 (.slice (some ⟨g, 0, none⟩) n c) n (bv cs') := by
  obtain ⟨x, hx⟩ := xor_u8K a b
  have := x.toNat_lt
  exact own_u8 h hj (by rw [hx]; omega) (by rw [hx]; omega)
theorem slice4V (g n d : Nat) (h : 4 ≤ n) (hd : n ≤ d) : ∃ A4, (∀ v, Sem.run Try.prog (Instr.slice 22 (.slice (some ⟨g, 0, none⟩) n d) (some (.int .i64 4)) none none) v = .ok (.slice A4 (n - 4) (d - 4)) v) ∧
    ∀ (w : World) (l : List UInt8), Rd w 1 (some ⟨g, 0, none⟩) n (bv l) → Rd w 1 A4 (n - 4) (bv (l.drop 4)) := by
  have h1 : (4 : Int) ≤ (n : Int) := by omega
  have h2 : (n : Int) ≤ (d : Int) := by omega
  refine ⟨if d = 4 then some ⟨g, 0, none⟩ else (some (⟨g, 0, none⟩ : Addr)).map (·.add (4 * 1)), fun v => ?_, fun w l hr => ?_⟩
  · by_cases h4 : d = 4
    · subst h4
      obtain rfl : n = 4 := by omega
      simp [go_sem, Try.underlying22]
    · simp [go_sem, Try.underlying22, h1, h2, h4]
  · have := hr.cut (k := 4) (cap := d) h hd
    rwa [Nat.mul_one, bv_drop] at this

/-- what is known at the loop's head -/
structure Vq (w wr : World) (g gb base : Nat) (B : Option Addr) (n d : Nat) (o : Option Nat) (rs : List UInt8) (S : Nat → Prop) (cnt : Nat) (cs : List UInt8) : Prop where
  lr : LR wr g o rs
  len : rs.length ≤ 1000000000
  bk : BookOk wr S gb cnt
  own : wr.ownsRow base 5 1 (.slice B n d) n (bv cs)
  ext : Ext w wr
  s : ∀ b, S b → w.heap.size ≤ b ∧ b < wr.heap.size ∧ ¬ LS g o b ∧ (Value.slice B n d).ownBlock ≠ some b
  l : ∀ b, LS g o b → w.heap.size ≤ b ∧ (Value.slice B n d).ownBlock ≠ some b
section
variable {w wr w' : World} {g gb base : Nat} {B : Option Addr} {n d : Nat} {o : Option Nat} {rs : List UInt8} {S : Nat → Prop} {cnt : Nat} {cs : List UInt8}
theorem Vq.ext_ (h : Vq w wr g gb base B n d o rs S cnt cs) (k : Ext wr w') : Vq w w' g gb base B n d o rs S cnt cs :=
  ⟨h.lr.ext k, h.len, h.bk.ext k, k.own h.own, h.ext.trans k, fun b hb => ⟨(h.s b hb).1, Nat.lt_of_lt_of_le (h.s b hb).2.1 k.size, (h.s b hb).2.2⟩, h.l⟩
theorem Vq.put (h : Vq w wr g gb base B n d o rs S cnt cs) {cs' : List UInt8} (k : Kp (fun b => (Value.slice B n d).ownBlock = some b) wr w') (ho : w'.ownsRow base 5 1 (.slice B n d) n (bv cs')) (hb : w.heap.size ≤ base) : Vq w w' g gb base B n d o rs S cnt cs' :=
  ⟨h.lr.keep k fun b hL e => (h.l b hL).2 e, h.len, h.bk.keep k fun b hS e => (h.s b hS).2.2.2 e, ho, k.ext h.ext fun b e => Nat.le_trans hb (h.own.lt b e).1, fun b hS => ⟨(h.s b hS).1, Nat.lt_of_lt_of_le (h.s b hS).2.1 k.size, (h.s b hS).2.2⟩, h.l⟩
def VPost (w wr : World) (g gb base : Nat) (B : Option Addr) (n d : Nat) (cnt : Nat) (cs : List UInt8) (e : Ending) (w' : World) : Prop := e = .returned (.bool true) ∧ wr.heap.size ≤ w'.heap.size ∧ ∃ r rs S, Vq w w' g gb base B n d (some r) rs S cnt cs
theorem Vq.call (h : Vq w wr g gb base B n d o rs S cnt cs) (A : Option Addr) (m c : Nat) (bs : List UInt8) (hR : Rd wr 1 A m (bv bs)) (hA : 0 < m → ∀ ad, A = some ad → ¬ LS g o ad.block) (hm : m ≤ 100000000) (hc : cnt ≤ 9000) :
    Calls Try.prog 37 #[.slice A m c, .pointer (some ⟨g, 0, none⟩), .pointer (some ⟨gb, 0, none⟩)] wr (VPost w wr g gb base B n d (cnt + 2) cs) := by
  refine (decodes_any g gb o rs S cnt A m c bs wr h.lr h.len h.bk (fun b hb => ⟨(h.s b hb).2.1, (h.s b hb).2.2.1⟩) hc hR hA hm).mono ?_
  rintro e w' ⟨rfl, r, rs', S', l1, l2, l3, b1, b2, k⟩
  have hz := h.ext.size
  have hob : ∀ b, (Value.slice B n d).ownBlock = some b → b < wr.heap.size := fun b e => (h.own.lt b e).2
  refine ⟨rfl, k.size, r, rs', S', l1, l2, b1, k.own h.own fun b e hb => hb.elim (fun hb => (h.l b hb).2 e) (fun hb => (h.s b hb).2.2.2 e), k.ext h.ext fun b hb => hb.elim (fun hb => (h.l b hb).1) (fun hb => (h.s b hb).1), fun b hb => ?_, fun b hb => ?_⟩
  · obtain ⟨h1, h2, h3⟩ := b2 b hb
    rcases h1 with h1 | h1
    · exact ⟨(h.s b h1).1, h2, h3, (h.s b h1).2.2.2⟩
    · exact ⟨by omega, h2, h3, fun e => by have := hob b e; omega⟩
  · rcases hb with hb | hb
    · exact h.l b (.inl hb)
    · injection hb with hb
      subst hb
      rcases l3 with l3 | l3
      · exact h.l r (.inr l3)
      · exact ⟨by omega, fun e => by have := hob r e; omega⟩
theorem Vq.far (h : Vq w wr g gb base B n d o rs S cnt cs) {A : Option Addr} {m : Nat} (hA : ∀ ad, A = some ad → wr.heap.size ≤ ad.block) : 0 < m → ∀ ad, A = some ad → ¬ LS g o ad.block := fun _ ad e hL => by
  have := h.lr.lt _ hL
  have := hA ad e
  omega
theorem Vq.near (h : Vq w wr g gb base B n d o rs S cnt cs) : 0 < n → ∀ ad, B = some ad → ¬ LS g o ad.block := fun _ ad e hL => (h.l _ hL).2 (by subst e; rfl)
end
theorem own_new {w wr : World} {base n c : Nat} {A : Option Addr} {e : TypeId} {sz : Nat} {xs : List Value} (h : w.ownsRow base e sz (.slice A n c) n xs) (hb : wr.heap.size ≤ base) : ∀ ad, A = some ad → wr.heap.size ≤ ad.block := fun ad ha => by
  have := (h.lt ad.block (by subst ha; rfl)).1
  omega

theorem own_magic (w : World) : (w.alloc (.cells #[.int .u8 87, .int .u8 80, .int .u8 75, .int .u8 49] 5)).ownsRow w.heap.size 5 1 (.slice (some ⟨w.heap.size, 0, none⟩) 4 4) 4 (bv [87, 80, 75, 49]) :=
  ⟨rfl, .inr ⟨w.heap.size, 4, #[.int .u8 87, .int .u8 80, .int .u8 75, .int .u8 49], rfl, Nat.le_refl _, Blk.new _ _ _, Nat.le_refl _, by decide, rfl, rfl⟩⟩

set_option maxHeartbeats 4000000 in
theorem PackDecodes_any (A : Option Addr) (n c : Nat) (bs : List UInt8) (T : Option Addr) (m cT : Nat) (ts : List Int) (w : World) (hR : Rd w 1 A n (bv bs)) (hT : Rd w 1 T m (iv ts)) (hn : n ≤ 83886080) (hm : m ≤ 1000000000) :
    Calls Try.prog 4 #[.slice A n c, .slice T m cT] w fun e w' => e = .returned (.bool true) ∧ Ext w w' := by
  have hl : ts.length = m := by have := hT.1; rw [iv_length] at this; omega
  have HL := hd hl
  clear hl
  go_enter Try.func4, Try.ntmps4
  go_upto_region 3 with (go_at_call 24; (with_reducible refine (awake_any _).mono ?_); rintro e W1 ⟨rfl, hX1⟩)
  go_upto_region 5 with (fail)
  refine wp_world (fun W => Ext w W ∧ LR W W1.heap.size none [] ∧ BookOk W (fun b => b = W1.heap.size + 1) (W1.heap.size + 1) 0) ⟨(hX1.alloc _).alloc _, ⟨rfl, (Blk.new _ _ _).alloc _⟩, BookOk.new (by simpa using Blk.new (W1.alloc _) 33 _)⟩ ?_
  obtain ⟨g, hg⟩ : ∃ g, W1.heap.size = g := ⟨_, rfl⟩
  obtain ⟨gb, hgb⟩ : ∃ gb, g + 1 = gb := ⟨_, rfl⟩
  rw [hg, hgb]
  have hgw : w.heap.size ≤ g := by rw [← hg]; exact hX1.size
  clear hX1 hg
  rintro W2 ⟨hX2, hLR2, hBk2⟩
  have hlow2 := hBk2.low
  have hgW : g < W2.heap.size := hLR2.2.lt
  go_upto_region 6 with (go_at_call 36; (with_reducible refine (CopyBytes_any A n c bs _ (hR.ext hX2) (by omega)).mono ?_); rintro e W3 ⟨B, d, rfl, own3, hX3⟩)
  have hq0 : Vq w W3 g gb W2.heap.size B n d none [] (fun b => b = gb ∧ b < W2.heap.size) 0 bs := by
    have hob : ∀ b, (Value.slice B n d).ownBlock = some b → W2.heap.size ≤ b := fun b e => (own3.lt b e).1
    have hz3 := hX3.size
    refine ⟨hLR2.ext hX3, by simp, hlow2.ext hX3, own3, hX2.trans hX3, fun b hb => ?_, fun b hb => ?_⟩
    · refine ⟨by omega, by omega, ?_, fun e => by have := hob b e; omega⟩
      rintro (h | h)
      · omega
      · cases h
    · rcases hb with h | h
      · exact ⟨by omega, fun e => by have := hob b e; omega⟩
      · cases h
  have hbw : w.heap.size ≤ W2.heap.size := hX2.size
  have hnd : n ≤ d := own_capD own3
  clear hLR2 hBk2 hlow2 own3 hX2
  go_wp2
  go_loopw [8] (fun i wr => ∃ (k cnt : Nat) (o : Option Nat) (rs : List UInt8) (S : Nat → Prop) (cs : List UInt8), i = .int .i64 ((k : Int) - 1) ∧ k ≤ 9 ∧ cnt ≤ 6 * k ∧ Vq w wr g gb W2.heap.size B n d o rs S cnt cs) (fun i _ => (8 - intOf i).toNat)
  case atStart => exact ⟨0, 0, none, [], _, bs, rfl, by omega, by omega, hq0⟩
  case round =>
    obtain ⟨k, cnt, o, rs, S, cs, rfl, hk, hcnt, hq⟩ := hrel
    clear hq0
    obtain ⟨J, hJ⟩ : ∃ J : Int, (k : Int) - 1 = J := ⟨_, rfl⟩
    rw [hJ]
    have hJ1 : -1 ≤ J := by omega
    have hJ8 : J ≤ 8 := by omega
    have HJ := hd hJ
    clear hJ
    by_cases hgo : J < (m : Int) ∧ J < 8
    · obtain ⟨e1, e2⟩ := hgo
      have hk8 : k + 1 ≤ 9 := by have := HJ.out; omega
      obtain ⟨t, ht⟩ : ∃ t : Bool, (decide (0 ≤ J) && decide (0 < n)) = t := ⟨_, rfl⟩
      go_upto_region 9 with (fail)
      go_cut [33] from 27 to 33 (fun v W => v = .bool t ∧ W = wr)
      case first =>
        by_cases h0 : 0 ≤ J
        · by_cases hn0 : 0 < n
          · have e3 : (0 : Int) < (n : Int) := by omega
            go_wp2
            go_meet
            case rel => exact ⟨by rw [← ht, decide_eq_true h0, decide_eq_true hn0]; rfl, rfl⟩
          · have e3 : ¬ (0 : Int) < (n : Int) := by omega
            go_wp2
            go_meet
            case rel => exact ⟨by rw [← ht, decide_eq_true h0, decide_eq_false hn0]; rfl, rfl⟩
        · go_wp2
          go_meet
          case rel => exact ⟨by rw [← ht, decide_eq_false (by omega)]; rfl, rfl⟩
      case rest =>
      obtain ⟨rfl, hwc⟩ := hcut
      rw [hwc]
      clear hwc
      go_upto_if 33 with (fail)
      go_cut [] from 34 to 52 (fun W => ∃ cs', Vq w W g gb W2.heap.size B n d o rs S cnt cs')
      case first =>
        cases t with
        | false =>
          go_wp2
          go_meet
          case rel => exact ⟨cs, hq⟩
        | true =>
          have ht2 := ht
          simp only [Bool.and_eq_true, decide_eq_true_eq] at ht2
          obtain ⟨h0, hn0⟩ := ht2
          clear ht
          obtain ⟨j, hj⟩ : ∃ j : Nat, J.toNat = j := ⟨_, rfl⟩
          have hjm : j < ts.length := by rw [HL.out]; omega
          obtain ⟨bT, oT, rfl, hcT⟩ := (hT.ext hq.ext).form (by omega) (by omega)
          have cT0 := hcT _ _ (iv_get ts j hjm)
          clear hcT
          generalize ts[j] = x at cT0
          obtain ⟨V, hV⟩ := mask_ltV x
          have hrem : Int.tmod (V : Int) (n : Int) = ((V % n : Nat) : Int) := by rw [Int.ofNat_tmod]
          have hqn : V % n < n := Nat.mod_lt _ hn0
          generalize V % n = q at hrem hqn
          have hown := hq.own
          obtain ⟨gB, d', hv, hd1, hgB⟩ := own_some hown hn0
          injection hv with hv1 hv2 hv3
          subst hv1
          clear hv2 hv3
          have hcell := (Rd.of_own hown).cells
          have hlc : cs.length = n := by have := hown.1; rw [bv_length] at this; omega
          have kB := hcell q _ (bv_get cs q (by omega))
          rw [show (⟨gB, 0, none⟩ : Addr).add q = ⟨gB, q, none⟩ by unfold Addr.add; split <;> simp_all] at kB
          have fB : wr.frozen? ⟨gB, q, none⟩ = false := by
            rcases hown.2 with ⟨h1, h0⟩ | ⟨g', cap, cur, hv, _, hh, _⟩
            · omega
            · injection hv with hv
              injection hv with hv
              injection hv with hv
              subst hv
              exact Blk.free (t := 5) hh q
          clear hcell
          generalize cs[q].toNat = c0 at kB
          have z1 : (0 : Int) ≤ (q : Int) := by omega
          have z2 : (q : Int) < (n : Int) := by omega
          have z3 : ((n : Int) == 0) = false := by simp; omega
          have z5 : ¬ n = 0 := by omega
          go_upto_region 10 with (fail)
          refine wp_region_still_tail 19 (by kernel_rfl) (by kernel_rfl) ?_
          simp only [List.take_succ_cons, List.take_zero, List.drop_succ_cons, List.drop_zero]
          repeat still_step
          try refine wpStill_nil ?_
          change wpList _ _ _ _ _ wr.drew
          go_wp2
          go_meet
          case rel => exact Exists.elim (own_xorV (w := wr) hown hqn _ _) fun cs' ho => ⟨cs', hq.put (((Kp.refl (S := fun b => (Value.slice (some ⟨gB, 0, none⟩) n d).ownBlock = some b) wr).set ⟨gB, q, none⟩ (.inl rfl) _).drew) ho hbw⟩
      case rest =>
      obtain ⟨cs1, hq1⟩ := hcut
      clear ht hq
      obtain ⟨i0, hi0, hz0, hz1, hz2⟩ := info_parts info5
      by_cases h4 : 4 ≤ n
      · have e4 : (4 : Int) ≤ (n : Int) := by omega
        obtain ⟨gB, d', hv, hd1, hgB⟩ := own_some hq1.own (by omega)
        injection hv with hv1 hv2 hv3
        subst hv1
        clear hv2 hv3
        obtain ⟨A4, hsl, hA4⟩ := slice4V gB n d h4 hnd
        have HA4 := hd hA4
        clear hA4
        go_wp2_with (first | (go_at_call 37; (with_reducible refine (hq1.call _ n d cs1 (Rd.of_own hq1.own) hq1.near (by omega) (by omega)).mono ?_); rintro e w1 ⟨rfl, hz1', r1, rs1, S1, q1⟩) | (go_at_call 38; (with_reducible refine (summed_any _ n d cs1 _ (Rd.of_own q1.own) (by omega)).mono ?_); rintro e w2 ⟨B2, d2, cs2, rfl, own2, hX2⟩; have q2 := q1.ext_ hX2) | (go_at_call 37; (with_reducible refine (q2.call B2 n d2 cs2 (Rd.of_own own2) (fun _ ad e hL => by have y1 := q1.lr.lt _ hL; have y2 := own_new own2 (Nat.le_refl _) ad e; omega) (by omega) (by omega)).mono ?_); rintro e w3 ⟨rfl, hz3', r3, rs3, S3, q3⟩; have rd4 := HA4.out _ _ (Rd.of_own q3.own)) | ((with_reducible refine wl_appendK_g (P := Try.prog) _ _ 22 ?_ w3.heap.size 5 i0 (.int .u8 0) 1 1 Try.underlying22 hi0 hz0 hz1 hz2 ?_ ?_ (.slice (some ⟨w3.heap.size, 0, none⟩) 4 4) 4 (bv [87, 80, 75, 49]) ?_ (own_magic w3) A4 (n - 4) (d - 4) (bv (cs1.drop 4)) ?_ (rd4.alloc _) (bv_one _) ?_ ?_ ?_ ?_); rfl; rfl; omega; rfl; rfl; omega; omega; (simp); (intro v4 w4 own4 hg4; have hX4 := (Ext.new w3 _).grown_own (own_magic w3) hg4 (Nat.le_refl _); rw [← bv_append, show 4 + (n - 4) = n by omega] at own4; obtain ⟨A5, c5, rfl, -⟩ := own_form own4; have q4 := q3.ext_ hX4)) | (go_at_call 38; (with_reducible refine (summed_any A5 n c5 _ _ (Rd.of_own own4) (by omega)).mono ?_); rintro e w5 ⟨B6, d6, cs6, rfl, own6, hX6⟩; have q6 := q4.ext_ hX6) | (go_at_call 37; (with_reducible refine (q6.call B6 n d6 cs6 (Rd.of_own own6) (fun _ ad e hL => by have y1 := q4.lr.lt _ hL; have y2 := own_new own6 (Nat.le_refl _) ad e; omega) (by omega) (by omega)).mono ?_); rintro e w7 ⟨rfl, hz7', r7, rs7, S7, q7⟩))
        go_roundw
        case rel => exact ⟨k + 1, cnt + 2 + 2 + 2, some r7, rs7, S7, cs1, by rw [show ((k + 1 : Nat) : Int) - 1 = J + 1 by have := HJ.out; omega], hk8, by omega, q7⟩
        case measure => simp [intOf]; omega
      · have e4 : ¬ (4 : Int) ≤ (n : Int) := by omega
        go_wp2_with (first | (go_at_call 37; (with_reducible refine (hq1.call _ n d cs1 (Rd.of_own hq1.own) hq1.near (by omega) (by omega)).mono ?_); rintro e w1 ⟨rfl, hz1', r1, rs1, S1, q1⟩) | (go_at_call 38; (with_reducible refine (summed_any _ n d cs1 _ (Rd.of_own q1.own) (by omega)).mono ?_); rintro e w2 ⟨B2, d2, cs2, rfl, own2, hX2⟩; have q2 := q1.ext_ hX2) | (go_at_call 37; (with_reducible refine (q2.call B2 n d2 cs2 (Rd.of_own own2) (fun _ ad e hL => by have y1 := q1.lr.lt _ hL; have y2 := own_new own2 (Nat.le_refl _) ad e; omega) (by omega) (by omega)).mono ?_); rintro e w3 ⟨rfl, hz3', r3, rs3, S3, q3⟩))
        go_roundw
        case rel => exact ⟨k + 1, cnt + 2 + 2, some r3, rs3, S3, cs1, by rw [show ((k + 1 : Nat) : Int) - 1 = J + 1 by have := HJ.out; omega], hk8, by omega, q3⟩
        case measure => simp [intOf]; omega
    · by_cases e1 : J < (m : Int)
      · have e2 : ¬ J < 8 := fun h => hgo ⟨e1, h⟩
        go_wp2_with (go_at_call 35; (with_reducible refine (Done_any _ S gb cnt hq.bk (by omega)).mono ?_); rintro e w3 ⟨rfl, hK3⟩)
        go_ret
        exact ⟨rfl, hK3.ext hq.ext fun b hb => (hq.s b hb).1⟩
      · go_wp2_with (go_at_call 35; (with_reducible refine (Done_any _ S gb cnt hq.bk (by omega)).mono ?_); rintro e w3 ⟨rfl, hK3⟩)
        go_ret
        exact ⟨rfl, hK3.ext hq.ext fun b hb => (hq.s b hb).1⟩

end Go.Proofs.Ytfcbedkidjclhaa
