/-
  The contract of pack.Encode: it answers the bytes or the error that Pk.encode says, in new memory; nothing that was there has turned.
  Conditions: the container's lists read as lists; each takes no more than 2^47 bytes.
-/
import Derived.Test.YtfcbedkidjclhaaPack1
import Derived.Test.YtfcbedkidjclhaaPack2
namespace Go.Proofs.Ytfcbedkidjclhaa
open Go.RowKit
set_option maxRecDepth 100000
set_option linter.unusedSimpArgs false
set_option linter.unusedVariables false

theorem wp_box25 {c : Code} {Q : Exit → Act → World → Prop} {a : Act} {w : World} {cs : Array Value} (h : ∀ W, Ext w W → Blk W w.heap.size 25 cs → Code.wp Try.prog c Q a W) : Code.wp Try.prog c Q a (w.alloc (.cells cs 25)) := h _ (Ext.new _ _) (Blk.new _ _ _)

set_option maxHeartbeats 400000 in
theorem Encode_bad (lo hi : Int) (A1 A2 A3 : Option Addr) (n1 n2 n3 c1 c2 c3 : Nat) (ts : List (Int × Int)) (w : World)
    (h2 : Rd w 2 A2 n2 (tv ts)) (hn1 : n1 ≤ 140737488355328) (hn2 : n2 * 16 ≤ 140737488355328) (_hn3 : n3 ≤ 140737488355328) (hs : ¬ Pk.sizes lo hi n1 ts = 0) :
    Calls Try.prog 27 #[.agg #[.int .i64 lo, .int .i64 hi, .slice A1 n1 c1, .slice A2 n2 c2, .slice A3 n3 c3]] w fun e w' =>
      e = .returned (.tuple #[.slice none 0 0, .int .i64 (Pk.sizes lo hi n1 ts)]) ∧ Ext w w' := by
  go_enter Try.func27, Try.ntmps27
  go_upto_region 1 with (fail)
  refine wp_box25 ?_
  intro W hX hP
  obtain ⟨p0, p1, p2, p3, p4⟩ := hP.c5
  go_wp2_with (go_at_call 70; (with_reducible refine (sizes_any lo hi A1 A2 n1 n2 c1 c2 ts _ (h2.ext hX) (by omega) hn2).mono ?_); rintro e w1 ⟨rfl, hX1⟩)
  go_ret2
  exact ⟨rfl, hX.trans hX1⟩

set_option maxHeartbeats 400000 in
theorem Encode_long (lo hi : Int) (A1 A2 A3 : Option Addr) (n1 n2 n3 c1 c2 c3 : Nat) (ts : List (Int × Int)) (w : World)
    (h2 : Rd w 2 A2 n2 (tv ts)) (hn1 : n1 ≤ 140737488355328) (hn2 : n2 * 16 ≤ 140737488355328) (hn3 : n3 ≤ 140737488355328) (hs : Pk.sizes lo hi n1 ts = 0) (hc : 131072 < n3) :
    Calls Try.prog 27 #[.agg #[.int .i64 lo, .int .i64 hi, .slice A1 n1 c1, .slice A2 n2 c2, .slice A3 n3 c3]] w fun e w' =>
      e = .returned (.tuple #[.slice none 0 0, .int .i64 2]) ∧ Ext w w' := by
  have Hs := hd hs
  clear hs
  go_enter Try.func27, Try.ntmps27
  go_upto_region 1 with (fail)
  refine wp_box25 ?_
  intro W hX hP
  obtain ⟨p0, p1, p2, p3, p4⟩ := hP.c5
  go_wp2_with (go_at_call 70; (with_reducible refine (sizes_any lo hi A1 A2 n1 n2 c1 c2 ts _ (h2.ext hX) (by omega) hn2).mono ?_); rw [Hs.out]; rintro e w1 ⟨rfl, hX1⟩; have p41 := hX1.cell p4)
  go_ret2
  exact ⟨rfl, hX.trans hX1⟩

set_option maxHeartbeats 400000 in
/-- 'section' onto a slice that is full (the magic letters) -/
theorem section_full (b : Addr) (B : Option Addr) (n m d : Nat) (k : Int) (xs cs : List UInt8) (w : World) (h : Rd w 1 (some b) n (bv xs)) (hn : n ≤ 1000000) (hm : m ≤ 1000000) (hm0 : 0 < m)
    (hr : Rd w 1 B m (bv cs)) :
    Calls Try.prog 71 #[.slice (some b) n n, .int .i64 k, .slice B m d] w fun e w' => ∃ A' c', e = .returned (.slice A' (n + (Pk.one k cs).length) c') ∧ w'.ownsRow w.heap.size 5 1 (.slice A' (n + (Pk.one k cs).length) c') (n + (Pk.one k cs).length) (bv (xs ++ Pk.one k cs)) ∧ Ext w w' := by
  have hcs : cs.length = m := by have := hr.1; rw [bv_length] at this; omega
  have Hcs := hd hcs
  clear hcs
  have hm1 : ¬ m = 0 := by omega
  obtain ⟨i0, hi0, hz0, hz1, hz2⟩ := info_parts info5
  go_enter Try.func71, Try.ntmps71
  go_wp2_with (first | (at_builtin; refine wpList_app_full _ rfl (.tmp 11) (.tmp 14) 22 rfl 5 i0 _ 1 1 Try.underlying22 hi0 hz0 hz1 hz2 rfl b n (bv xs) rfl (h.alloc _) ⟨w.heap.size, 0, none⟩ 1 1 [.int .u8 (k % 256)] rfl (Rd.one _ _ _) (by omega) (by omega) (by omega) ?_; intro A1 c1 w1 hown1 hX1; have hX := (Ext.new w _).trans hX1; rw [bv_snoc] at hown1; have hs1 := hX.size; have hown1' := own_base hown1 (Ext.new w _).size) | (go_at_call 72; (with_reducible refine (put_any A1 (n + 1) c1 3 3 m _ w.heap.size _ hown1' (by omega) (by omega) (by omega) rfl).mono ?_); rintro e w2 ⟨A2, c2, rfl, hown2, hX2⟩; have hXX := hX2.ext_own hX hown1' (Nat.le_refl _); have hs2 := hXX.size; have hr2 := hr.ext hXX) | (at_builtin; refine wpList_app _ rfl (.tmp 20) (.tmp 21) 22 rfl w.heap.size 5 i0 _ 1 1 Try.underlying22 hi0 hz0 hz1 hz2 rfl (by omega) (.slice A2 (n + 1 + 3) c2) (n + 1 + 3) _ rfl hown2 B m d (bv cs) rfl hr2 (bv_one _) (by omega) (by omega) (by omega) ?_; intro v3 w3 hown3 hg3 hat3; have hX3 := hXX.grown_own hown2 hg3 (Nat.le_refl _); obtain ⟨A3, c3, rfl, _⟩ := own_form hown3))
  go_ret
  have eL : (Pk.one k cs).length = m + 4 := by rw [one_length, Hcs.out, if_neg hm1]
  have e1 : n + 1 + 3 + m = n + (Pk.one k cs).length := by omega
  have e2 : xs ++ [Pk.byte k] ++ Pk.low 3 ↑m ++ cs = xs ++ Pk.one k cs := by
    unfold Pk.one
    rw [Hcs.out, if_neg hm1]
    simp
  rw [← bv_append, e1, e2] at hown3
  exact ⟨A3, c3, by rw [← e1]; rfl, hown3, hX3⟩

theorem oneCell_two (k k' : IntKind) (x y : Int) : ∀ u ∈ [Value.int k x, Value.int k' y], u.oneCell' = true := by
  intro u hu
  simp at hu
  rcases hu with rfl | rfl <;> rfl
theorem bv_snoc2 (l : List UInt8) (v u : Int) : bv l ++ [Value.int IntKind.u8 (v % 256), Value.int IntKind.u8 (u % 256)] = bv (l ++ [Pk.byte v, Pk.byte u]) := by
  rw [bv_append]
  congr 1
  simp only [bv, List.map_cons, List.map_nil, Pk.byte_toNat]
theorem sum_ex (A : Option Addr) (n c : Nat) (xs : List UInt8) (w : World) (h : Rd w 1 A n (bv xs)) (hn : n ≤ 9000000000000000000) :
    Calls Try.prog 73 #[.slice A n c] w fun e w' => ∃ s : Nat, s < 4294967296 ∧ Hid (s = Pk.sum xs) ∧ e = .returned (.int .u32 s) ∧ w = w' :=
  (sum_any A n c xs w h hn).mono fun _ _ h => ⟨_, Pk.sum_lt xs, hd rfl, h⟩
theorem magic_rd {w : World} {g : Nat} (h : Blk w g 5 #[.int .u8 87, .int .u8 80, .int .u8 75, .int .u8 49]) : Rd w 1 (some ⟨g, 0, none⟩) 4 (bv Pk.magic) :=
  ⟨rfl, fun _ => ⟨_, rfl, fun j u hu => by
    have e : (⟨g, 0, none⟩ : Addr).add j = ⟨g, j, none⟩ := by unfold Addr.add; split <;> simp_all
    rw [e, h.cell j]
    have : bv Pk.magic = [.int .u8 87, .int .u8 80, .int .u8 75, .int .u8 49] := rfl
    rw [this] at hu
    simpa using hu⟩⟩

/-- behind the box of a container, nothing that was there has turned -/
def SE (w : World) (cs : Array Value) (w' : World) : Prop := Ext w w' ∧ Blk w' w.heap.size 25 cs
theorem SE.s {w w' : World} {a b c d e : Value} (h : SE w #[a, b, c, d, e] w') : SE w #[a, b, c, d, e] w' ∧ w'.cell? ⟨w.heap.size, 0, none⟩ = some a ∧ w'.cell? ⟨w.heap.size, 1, none⟩ = some b ∧ w'.cell? ⟨w.heap.size, 2, none⟩ = some c ∧ w'.cell? ⟨w.heap.size, 3, none⟩ = some d ∧ w'.cell? ⟨w.heap.size, 4, none⟩ = some e := ⟨h, h.2.c5⟩
theorem SE.alloc {w w' : World} {cs : Array Value} (h : SE w cs w') (o : Obj) : SE w cs (w'.alloc o) := ⟨h.1.alloc o, h.2.alloc o⟩
theorem SE.drew {w w' : World} {cs : Array Value} (h : SE w cs w') : SE w cs w'.drew := ⟨h.1.drew, h.2.drew⟩
theorem SE.ext {w w' w2 : World} {cs : Array Value} (h : SE w cs w') (hx : Ext w' w2) : SE w cs w2 := ⟨h.1.trans hx, h.2.ext hx⟩
theorem SE.mkd {w w' w2 : World} {cs : Array Value} (h : SE w cs w') {g : Nat} (m : Mkd w' w2 g) (hg : w.heap.size < g) : SE w cs w2 := ⟨m.ext h.1 (Nat.le_of_lt hg), m.blk h.2 (Nat.ne_of_lt hg)⟩
theorem SE.app {w w' w2 : World} {cs : Array Value} (h : SE w cs w') {u v : Value} (a : App w' w2 u v) (hu : ∀ k, u.ownBlock = some k → w.heap.size < k) : SE w cs w2 :=
  ⟨a.ext' h.1 fun k hk => Nat.le_of_lt (hu k hk), a.blk h.2 fun e => Nat.lt_irrefl _ (hu _ e)⟩
theorem SE.e {w w' : World} {cs : Array Value} (h : SE w cs w') : Ext w w' := h.1
theorem SE.lt {w w' : World} {cs : Array Value} (h : SE w cs w') : w.heap.size < w'.heap.size := h.2.lt

/-- bytes that the call has made, and an error -/
def EncPost (r : List UInt8 × Int) (w : World) (e : Ending) (w' : World) : Prop :=
  ∃ A c, e = .returned (.tuple #[.slice A r.1.length c, .int .i64 r.2]) ∧ w'.ownsRow w.heap.size 5 1 (.slice A r.1.length c) r.1.length (bv r.1) ∧ Ext w w'

theorem EncPost.long {l : List UInt8} {w w' : World} (h : 131072 < l.length) (hX : Ext w w') : EncPost (Pk.short l) w (.returned (.tuple #[.slice none 0 0, .int .i64 2])) w' := by
  unfold Pk.short
  rw [if_pos h]
  exact ⟨none, 0, rfl, World.ownsRow_nil _ _ _ _, hX⟩
theorem EncPost.short {l : List UInt8} {w w' : World} {N c : Nat} {A : Option Addr} (h : ¬ 131072 < l.length) (hN : l.length = N) (ho : w'.ownsRow w.heap.size 5 1 (.slice A N c) N (bv l)) (hX : Ext w w') : EncPost (Pk.short l) w (.returned (.tuple #[.slice A N c, .int .i64 0])) w' := by
  unfold Pk.short
  rw [if_neg h]
  subst hN
  exact ⟨A, c, rfl, ho, hX⟩

set_option maxHeartbeats 1000000 in
theorem Encode_good (lo hi : Int) (A1 A2 A3 : Option Addr) (n1 n2 n3 c1 c2 c3 : Nat) (data code : List UInt8) (ts : List (Int × Int)) (w : World)
    (h1 : Rd w 1 A1 n1 (bv data)) (h2 : Rd w 2 A2 n2 (tv ts)) (h3 : Rd w 1 A3 n3 (bv code)) (hs : Pk.sizes lo hi n1 ts = 0) (hn1 : n1 ≤ 4096) (hn2 : n2 ≤ 8) (hc : n3 ≤ 131072) :
    Calls Try.prog 27 #[.agg #[.int .i64 lo, .int .i64 hi, .slice A1 n1 c1, .slice A2 n2 c2, .slice A3 n3 c3]] w fun e w' =>
      EncPost (Pk.short (Pk.bytes lo hi data ts code)) w e w' := by
  have Hs := hd hs
  clear hs
  go_enter Try.func27, Try.ntmps27
  go_upto_region 1 with (fail)
  refine wp_box25 ?_
  intro W hX hP
  obtain ⟨p0, p1, p2, p3, p4⟩ := hP.c5
  go_wp2_with (go_at_call 70; (with_reducible refine (sizes_any lo hi A1 A2 n1 n2 c1 c2 ts _ (h2.ext hX) (by omega) (by omega)).mono ?_); rw [Hs.out]; rintro e w1 ⟨rfl, hX1⟩; have p41 := hX1.cell p4)
  have hP1 := hP.ext hX1
  have hXW := hX.trans hX1
  clear hP p0 p1 p2 p3 p4 p41 hX hX1 W
  have hS1 : SE w #[.int .i64 lo, .int .i64 hi, .slice A1 n1 c1, .slice A2 n2 c2, .slice A3 n3 c3] w1 := ⟨hXW, hP1⟩
  have hl := hS1.lt
  go_cut [5] from 25 to 33 (fun b W => ∃ A' c', b = .slice A' (4 + (Pk.one 1 (Pk.lens lo hi)).length) c' ∧ W.ownsRow w1.heap.size 5 1 (.slice A' (4 + (Pk.one 1 (Pk.lens lo hi)).length) c') (4 + (Pk.one 1 (Pk.lens lo hi)).length) (bv (Pk.magic ++ Pk.one 1 (Pk.lens lo hi))) ∧ SE w #[.int .i64 lo, .int .i64 hi, .slice A1 n1 c1, .slice A2 n2 c2, .slice A3 n3 c3] W ∧ w1.heap.size ≤ W.heap.size)
  case first =>
    refine wp_region_held_drew (S := fun w' => SE w #[.int .i64 lo, .int .i64 hi, .slice A1 n1 c1, .slice A2 n2 c2, .slice A3 n3 c3] w' ∧ w'.cell? ⟨w.heap.size, 0, none⟩ = some (.int .i64 lo) ∧ w'.cell? ⟨w.heap.size, 1, none⟩ = some (.int .i64 hi) ∧ w'.cell? ⟨w.heap.size, 2, none⟩ = some (.slice A1 n1 c1) ∧ w'.cell? ⟨w.heap.size, 3, none⟩ = some (.slice A2 n2 c2) ∧ w'.cell? ⟨w.heap.size, 4, none⟩ = some (.slice A3 n3 c3)) rfl hS1.drew.s (fun hSS => ?_)
    refine wpAnyH_take (i := 2) (oi := _) (v := .pointer (some ⟨w.heap.size, 0, none⟩)) rfl (by kernel_rfl) (by kernel_rfl) (by kernel_rfl) (fun _ _ _ h => h) (Or.inl ⟨by rfl, fun w' hSw => by obtain ⟨_, z0, z1, z2, z3, z4⟩ := hSw; go_simp⟩) hSS ?_
    try simp only [Act.put, List.setIfInBounds_toArray, List.set_cons_zero, List.set_cons_succ]
    refine wpAnyH_take (i := 3) (oi := _) (v := .int .i64 lo) rfl (by kernel_rfl) (by kernel_rfl) (by kernel_rfl) (fun _ _ _ h => h) (Or.inl ⟨by rfl, fun w' hSw => by obtain ⟨_, z0, z1, z2, z3, z4⟩ := hSw; go_simp⟩) hSS ?_
    try simp only [Act.put, List.setIfInBounds_toArray, List.set_cons_zero, List.set_cons_succ]
    refine wpAnyH_take (i := 5) (oi := _) (v := .pointer (some ⟨w.heap.size, 1, none⟩)) rfl (by kernel_rfl) (by kernel_rfl) (by kernel_rfl) (fun _ _ _ h => h) (Or.inl ⟨by rfl, fun w' hSw => by obtain ⟨_, z0, z1, z2, z3, z4⟩ := hSw; go_simp⟩) hSS ?_
    try simp only [Act.put, List.setIfInBounds_toArray, List.set_cons_zero, List.set_cons_succ]
    refine wpAnyH_take (i := 6) (oi := _) (v := .int .i64 hi) rfl (by kernel_rfl) (by kernel_rfl) (by kernel_rfl) (fun _ _ _ h => h) (Or.inl ⟨by rfl, fun w' hSw => by obtain ⟨_, z0, z1, z2, z3, z4⟩ := hSw; go_simp⟩) hSS ?_
    try simp only [Act.put, List.setIfInBounds_toArray, List.set_cons_zero, List.set_cons_succ]
    have hw0 : w1.heap.size ≤ w1.drew.heap.size := Nat.le_refl _
    refine wpAnyH_ready (rs := [0, 4]) (by kernel_rfl) (by simp) (AllReadyH.cons (o := _) rfl (fun K hK => ?_) (AllReadyH.cons (o := _) rfl (fun K hK => ?_) AllReadyH.nil))
    · go_simp
      have hl1 := hSS.1.lt
      have mg1 := (Blk.new w1 5 #[.int .u8 87, .int .u8 80, .int .u8 75, .int .u8 49]).drew
      have hg1 : w.heap.size < w1.heap.size := by first | exact hl1 | simpa using hl1
      have hS1_ : SE w _ _ := (SE.alloc (o := .cells #[.int .u8 87, .int .u8 80, .int .u8 75, .int .u8 49] 5) hS1).drew
      have hw1 : w1.heap.size ≤ w1.heap.size + 1 := by have := hw0; (try simp at this); omega
      refine hK.out _ _ hS1_.s (fun hS1 => ?_)
      clear hK K
      try simp only [Act.put, List.setIfInBounds_toArray, List.set_cons_zero, List.set_cons_succ]
      refine wpAnyH_ready (rs := [1, 4]) (by kernel_rfl) (by simp) (AllReadyH.cons (o := _) rfl (fun K hK => ?_) (AllReadyH.cons (o := _) rfl (fun K hK => ?_) AllReadyH.nil))
      · go_simp
        refine upon_conv 22 5 w1.heap.size 4 4 #[.int .u8 87, .int .u8 80, .int .u8 75, .int .u8 49] Try.underlying22 Try.underlying5 mg1 ?_
        intro v2 mk2
        have hS2_ := SE.mkd hS1.1 mk2 hg1
        have hw2 : w1.heap.size ≤ v2.heap.size := by first | exact Nat.le_trans hw1 (Nat.le_of_eq mk2.size.symm) | (have h0 := mk2.size; simp at h0; omega)
        have gl2 : w1.heap.size < v2.heap.size := by rw [mk2.size]; exact mg1.lt
        have mr2 := mk2.rd (magic_rd mg1)
        refine hK.out _ _ hS2_.s (fun hS2 => ?_)
        clear hK K
        try simp only [Act.put, List.setIfInBounds_toArray, List.set_cons_zero, List.set_cons_succ]
        refine wpAnyH_ready (rs := [4]) (by kernel_rfl) (by simp) (AllReadyH.cons (o := _) rfl (fun K hK => ?_) AllReadyH.nil)
        · go_simp
          have hl3 := hS2.1.lt
          refine (put_any none 0 0 2 2 lo [] _ _ (World.ownsRow_nil _ _ _ _) (Nat.le_refl _) (by omega) (by omega) rfl).mono ?_
          rintro e v3 ⟨B1, d1, rfl, own1, app1⟩
          go_wp2_with fail
          have x3 := app1.ext rfl
          have hS3_ := SE.ext hS2.1 x3
          have hw3 : w1.heap.size ≤ v3.heap.size := by have h0 := x3.size; have h1 := hw2; (try simp at h0 h1); omega
          have bs3 := x3.size
          have lo3 : ∀ q, (Value.slice B1 (0 + 2) d1).ownBlock = some q → w.heap.size < q := fun q e => by have := (own1.lt _ e).1; omega
          have ne3 : (Value.slice B1 (0 + 2) d1).ownBlock ≠ some w1.heap.size := fun e => by have := (own1.lt _ e).1; have := gl2; (try simp at *); omega
          have mr3 := mr2.ext x3
          refine hK.out _ _ hS3_.s (fun hS3 => ?_)
          clear hK K
          try simp only [Act.put, List.setIfInBounds_toArray, List.set_cons_zero, List.set_cons_succ]
          refine wpAnyH_ready (rs := [7]) (by kernel_rfl) (by simp) (AllReadyH.cons (o := _) rfl (fun K hK => ?_) AllReadyH.nil)
          · go_simp
            have hl4 := hS3.1.lt
            refine (put_any B1 (0 + 2) d1 2 2 hi _ _ _ own1 bs3 (by omega) (by omega) rfl).mono ?_
            rintro e v4 ⟨B2, d2, rfl, own2, app2⟩
            go_wp2_with fail
            have hS4_ := SE.app hS3.1 app2 lo3
            have hw4 : w1.heap.size ≤ v4.heap.size := by have h0 := app2.size; have h1 := hw3; (try simp at h0 h1); omega
            have mr4 := app2.rd mr3 (by rintro ad e; injection e with e; subst e; exact ne3)
            refine hK.out _ _ hS4_.s (fun hS4 => ?_)
            clear hK K
            try simp only [Act.put, List.setIfInBounds_toArray, List.set_cons_zero, List.set_cons_succ]
            refine wpAnyH_ready (rs := [8]) (by kernel_rfl) (by simp) (AllReadyH.cons (o := _) rfl (fun K hK => ?_) AllReadyH.nil)
            · go_simp
              refine (section_full _ B2 4 4 d2 1 Pk.magic (Pk.lens lo hi) _ mr4 (by omega) (by omega) (by omega) (Rd.of_own own2)).mono ?_
              rintro e v5 ⟨A5, c5, rfl, own5, x5⟩
              go_wp2_with fail
              have hS5_ := SE.ext hS4.1 x5
              have hw5 : w1.heap.size ≤ v5.heap.size := by have h0 := x5.size; have h1 := hw4; omega
              have own5' := own_base own5 hw4
              refine hK.out _ _ hS5_.s (fun hS5 => ?_)
              clear hK K
              try simp only [Act.put, List.setIfInBounds_toArray, List.set_cons_zero, List.set_cons_succ]
              refine wpAnyH_ready (rs := [9]) (by kernel_rfl) (by simp) (AllReadyH.cons (o := _) rfl (fun K hK => ?_) AllReadyH.nil)
              go_simp
              refine hK.out _ _ hS5 (fun hT => ?_)
              clear hK K
              try simp only [Act.put, List.setIfInBounds_toArray, List.set_cons_zero, List.set_cons_succ]
              refine wpAnyH_done (by kernel_rfl) ?_ _
              go_wp2_with fail
              go_meet
              case rel => exact ⟨A5, c5, rfl, own5', hS5.1, hw5⟩
      · go_simp
        have hl6 := hS1.1.lt
        refine (put_any none 0 0 2 2 lo [] _ _ (World.ownsRow_nil _ _ _ _) (Nat.le_refl _) (by omega) (by omega) rfl).mono ?_
        rintro e v6 ⟨B1, d1, rfl, own1, app1⟩
        go_wp2_with fail
        have x6 := app1.ext rfl
        have hS6_ := SE.ext hS1.1 x6
        have hw6 : w1.heap.size ≤ v6.heap.size := by have h0 := x6.size; have h1 := hw1; (try simp at h0 h1); omega
        have bs6 := x6.size
        have lo6 : ∀ q, (Value.slice B1 (0 + 2) d1).ownBlock = some q → w.heap.size < q := fun q e => by have := (own1.lt _ e).1; omega
        have ne6 : (Value.slice B1 (0 + 2) d1).ownBlock ≠ some w1.heap.size := fun e => by have := (own1.lt _ e).1; have := mg1.lt; (try simp at *); omega
        have mg6 := mg1.ext x6
        refine hK.out _ _ hS6_.s (fun hS6 => ?_)
        clear hK K
        try simp only [Act.put, List.setIfInBounds_toArray, List.set_cons_zero, List.set_cons_succ]
        refine wpAnyH_ready (rs := [1, 7]) (by kernel_rfl) (by simp) (AllReadyH.cons (o := _) rfl (fun K hK => ?_) (AllReadyH.cons (o := _) rfl (fun K hK => ?_) AllReadyH.nil))
        · go_simp
          refine upon_conv 22 5 w1.heap.size 4 4 #[.int .u8 87, .int .u8 80, .int .u8 75, .int .u8 49] Try.underlying22 Try.underlying5 mg6 ?_
          intro v7 mk7
          have hS7_ := SE.mkd hS6.1 mk7 hg1
          have hw7 : w1.heap.size ≤ v7.heap.size := by first | exact Nat.le_trans hw6 (Nat.le_of_eq mk7.size.symm) | (have h0 := mk7.size; simp at h0; omega)
          have gl7 : w1.heap.size < v7.heap.size := by rw [mk7.size]; exact mg6.lt
          have mr7 := mk7.rd (magic_rd mg6)
          have own1_7 := mk7.own own1 ne6
          have bs7 := Nat.le_trans bs6 (Nat.le_of_eq mk7.size.symm)
          refine hK.out _ _ hS7_.s (fun hS7 => ?_)
          clear hK K
          try simp only [Act.put, List.setIfInBounds_toArray, List.set_cons_zero, List.set_cons_succ]
          refine wpAnyH_ready (rs := [7]) (by kernel_rfl) (by simp) (AllReadyH.cons (o := _) rfl (fun K hK => ?_) AllReadyH.nil)
          · go_simp
            have hl8 := hS7.1.lt
            refine (put_any B1 (0 + 2) d1 2 2 hi _ _ _ own1_7 bs7 (by omega) (by omega) rfl).mono ?_
            rintro e v8 ⟨B2, d2, rfl, own2, app2⟩
            go_wp2_with fail
            have hS8_ := SE.app hS7.1 app2 lo6
            have hw8 : w1.heap.size ≤ v8.heap.size := by have h0 := app2.size; have h1 := hw7; (try simp at h0 h1); omega
            have mr8 := app2.rd mr7 (by rintro ad e; injection e with e; subst e; exact ne6)
            refine hK.out _ _ hS8_.s (fun hS8 => ?_)
            clear hK K
            try simp only [Act.put, List.setIfInBounds_toArray, List.set_cons_zero, List.set_cons_succ]
            refine wpAnyH_ready (rs := [8]) (by kernel_rfl) (by simp) (AllReadyH.cons (o := _) rfl (fun K hK => ?_) AllReadyH.nil)
            · go_simp
              refine (section_full _ B2 4 4 d2 1 Pk.magic (Pk.lens lo hi) _ mr8 (by omega) (by omega) (by omega) (Rd.of_own own2)).mono ?_
              rintro e v9 ⟨A5, c5, rfl, own5, x5⟩
              go_wp2_with fail
              have hS9_ := SE.ext hS8.1 x5
              have hw9 : w1.heap.size ≤ v9.heap.size := by have h0 := x5.size; have h1 := hw8; omega
              have own5' := own_base own5 hw8
              refine hK.out _ _ hS9_.s (fun hS9 => ?_)
              clear hK K
              try simp only [Act.put, List.setIfInBounds_toArray, List.set_cons_zero, List.set_cons_succ]
              refine wpAnyH_ready (rs := [9]) (by kernel_rfl) (by simp) (AllReadyH.cons (o := _) rfl (fun K hK => ?_) AllReadyH.nil)
              go_simp
              refine hK.out _ _ hS9 (fun hT => ?_)
              clear hK K
              try simp only [Act.put, List.setIfInBounds_toArray, List.set_cons_zero, List.set_cons_succ]
              refine wpAnyH_done (by kernel_rfl) ?_ _
              go_wp2_with fail
              go_meet
              case rel => exact ⟨A5, c5, rfl, own5', hS9.1, hw9⟩
        · go_simp
          have hl10 := hS6.1.lt
          refine (put_any B1 (0 + 2) d1 2 2 hi _ _ _ own1 bs6 (by omega) (by omega) rfl).mono ?_
          rintro e v10 ⟨B2, d2, rfl, own2, app2⟩
          go_wp2_with fail
          have hS10_ := SE.app hS6.1 app2 lo6
          have hw10 : w1.heap.size ≤ v10.heap.size := by have h0 := app2.size; have h1 := hw6; (try simp at h0 h1); omega
          have mg10 := app2.blk mg6 ne6
          have ne10 : (Value.slice B2 (0 + 2 + 2) d2).ownBlock ≠ some w1.heap.size := by rcases app2.lies with e | ⟨q, e, hq⟩; (rw [e]; exact ne6); (rw [e]; intro e'; injection e' with e'; have := mg6.lt; (try simp at *); omega)
          refine hK.out _ _ hS10_.s (fun hS10 => ?_)
          clear hK K
          try simp only [Act.put, List.setIfInBounds_toArray, List.set_cons_zero, List.set_cons_succ]
          refine wpAnyH_ready (rs := [1]) (by kernel_rfl) (by simp) (AllReadyH.cons (o := _) rfl (fun K hK => ?_) AllReadyH.nil)
          · go_simp
            refine upon_conv 22 5 w1.heap.size 4 4 #[.int .u8 87, .int .u8 80, .int .u8 75, .int .u8 49] Try.underlying22 Try.underlying5 mg10 ?_
            intro v11 mk11
            have hS11_ := SE.mkd hS10.1 mk11 hg1
            have hw11 : w1.heap.size ≤ v11.heap.size := by first | exact Nat.le_trans hw10 (Nat.le_of_eq mk11.size.symm) | (have h0 := mk11.size; simp at h0; omega)
            have gl11 : w1.heap.size < v11.heap.size := by rw [mk11.size]; exact mg10.lt
            have mr11 := mk11.rd (magic_rd mg10)
            have own2_11 := mk11.own own2 ne10
            refine hK.out _ _ hS11_.s (fun hS11 => ?_)
            clear hK K
            try simp only [Act.put, List.setIfInBounds_toArray, List.set_cons_zero, List.set_cons_succ]
            refine wpAnyH_ready (rs := [8]) (by kernel_rfl) (by simp) (AllReadyH.cons (o := _) rfl (fun K hK => ?_) AllReadyH.nil)
            · go_simp
              refine (section_full _ B2 4 4 d2 1 Pk.magic (Pk.lens lo hi) _ mr11 (by omega) (by omega) (by omega) (Rd.of_own own2_11)).mono ?_
              rintro e v12 ⟨A5, c5, rfl, own5, x5⟩
              go_wp2_with fail
              have hS12_ := SE.ext hS11.1 x5
              have hw12 : w1.heap.size ≤ v12.heap.size := by have h0 := x5.size; have h1 := hw11; omega
              have own5' := own_base own5 hw11
              refine hK.out _ _ hS12_.s (fun hS12 => ?_)
              clear hK K
              try simp only [Act.put, List.setIfInBounds_toArray, List.set_cons_zero, List.set_cons_succ]
              refine wpAnyH_ready (rs := [9]) (by kernel_rfl) (by simp) (AllReadyH.cons (o := _) rfl (fun K hK => ?_) AllReadyH.nil)
              go_simp
              refine hK.out _ _ hS12 (fun hT => ?_)
              clear hK K
              try simp only [Act.put, List.setIfInBounds_toArray, List.set_cons_zero, List.set_cons_succ]
              refine wpAnyH_done (by kernel_rfl) ?_ _
              go_wp2_with fail
              go_meet
              case rel => exact ⟨A5, c5, rfl, own5', hS12.1, hw12⟩
    · go_simp
      have hl13 := hSS.1.lt
      refine (put_any none 0 0 2 2 lo [] _ _ (World.ownsRow_nil _ _ _ _) (Nat.le_refl _) (by omega) (by omega) rfl).mono ?_
      rintro e v13 ⟨B1, d1, rfl, own1, app1⟩
      go_wp2_with fail
      have x13 := app1.ext rfl
      have hS13_ := SE.ext hSS.1 x13
      have hw13 : w1.heap.size ≤ v13.heap.size := by have h0 := x13.size; have h1 := hw0; (try simp at h0 h1); omega
      have bs13 := x13.size
      have lo13 : ∀ q, (Value.slice B1 (0 + 2) d1).ownBlock = some q → w.heap.size < q := fun q e => by have := (own1.lt _ e).1; omega
      refine hK.out _ _ hS13_.s (fun hS13 => ?_)
      clear hK K
      try simp only [Act.put, List.setIfInBounds_toArray, List.set_cons_zero, List.set_cons_succ]
      refine wpAnyH_ready (rs := [0, 7]) (by kernel_rfl) (by simp) (AllReadyH.cons (o := _) rfl (fun K hK => ?_) (AllReadyH.cons (o := _) rfl (fun K hK => ?_) AllReadyH.nil))
      · go_simp
        have hl14 := hS13.1.lt
        have mg14 := Blk.new v13 5 #[.int .u8 87, .int .u8 80, .int .u8 75, .int .u8 49]
        have hg14 : w.heap.size < v13.heap.size := by first | exact hl14 | simpa using hl14
        have hS14_ : SE w _ _ := SE.alloc (o := .cells #[.int .u8 87, .int .u8 80, .int .u8 75, .int .u8 49] 5) hS13.1
        have hw14 : w1.heap.size ≤ v13.heap.size + 1 := by have := hw13; (try simp at this); omega
        have own1_14 := own1.alloc (.cells #[.int .u8 87, .int .u8 80, .int .u8 75, .int .u8 49] 5)
        have bs14 := Nat.le_trans bs13 (Ext.new v13 (.cells #[.int .u8 87, .int .u8 80, .int .u8 75, .int .u8 49] 5)).size
        have ne14 : (Value.slice B1 (0 + 2) d1).ownBlock ≠ some v13.heap.size := fun e => by have := (own1.lt _ e).2; omega
        refine hK.out _ _ hS14_.s (fun hS14 => ?_)
        clear hK K
        try simp only [Act.put, List.setIfInBounds_toArray, List.set_cons_zero, List.set_cons_succ]
        refine wpAnyH_ready (rs := [1, 7]) (by kernel_rfl) (by simp) (AllReadyH.cons (o := _) rfl (fun K hK => ?_) (AllReadyH.cons (o := _) rfl (fun K hK => ?_) AllReadyH.nil))
        · go_simp
          refine upon_conv 22 5 v13.heap.size 4 4 #[.int .u8 87, .int .u8 80, .int .u8 75, .int .u8 49] Try.underlying22 Try.underlying5 mg14 ?_
          intro v15 mk15
          have hS15_ := SE.mkd hS14.1 mk15 hg14
          have hw15 : w1.heap.size ≤ v15.heap.size := by first | exact Nat.le_trans hw14 (Nat.le_of_eq mk15.size.symm) | (have h0 := mk15.size; simp at h0; omega)
          have gl15 : v13.heap.size < v15.heap.size := by rw [mk15.size]; exact mg14.lt
          have mr15 := mk15.rd (magic_rd mg14)
          have own1_15 := mk15.own own1_14 ne14
          have bs15 := Nat.le_trans bs14 (Nat.le_of_eq mk15.size.symm)
          refine hK.out _ _ hS15_.s (fun hS15 => ?_)
          clear hK K
          try simp only [Act.put, List.setIfInBounds_toArray, List.set_cons_zero, List.set_cons_succ]
          refine wpAnyH_ready (rs := [7]) (by kernel_rfl) (by simp) (AllReadyH.cons (o := _) rfl (fun K hK => ?_) AllReadyH.nil)
          · go_simp
            have hl16 := hS15.1.lt
            refine (put_any B1 (0 + 2) d1 2 2 hi _ _ _ own1_15 bs15 (by omega) (by omega) rfl).mono ?_
            rintro e v16 ⟨B2, d2, rfl, own2, app2⟩
            go_wp2_with fail
            have hS16_ := SE.app hS15.1 app2 lo13
            have hw16 : w1.heap.size ≤ v16.heap.size := by have h0 := app2.size; have h1 := hw15; (try simp at h0 h1); omega
            have mr16 := app2.rd mr15 (by rintro ad e; injection e with e; subst e; exact ne14)
            refine hK.out _ _ hS16_.s (fun hS16 => ?_)
            clear hK K
            try simp only [Act.put, List.setIfInBounds_toArray, List.set_cons_zero, List.set_cons_succ]
            refine wpAnyH_ready (rs := [8]) (by kernel_rfl) (by simp) (AllReadyH.cons (o := _) rfl (fun K hK => ?_) AllReadyH.nil)
            · go_simp
              refine (section_full _ B2 4 4 d2 1 Pk.magic (Pk.lens lo hi) _ mr16 (by omega) (by omega) (by omega) (Rd.of_own own2)).mono ?_
              rintro e v17 ⟨A5, c5, rfl, own5, x5⟩
              go_wp2_with fail
              have hS17_ := SE.ext hS16.1 x5
              have hw17 : w1.heap.size ≤ v17.heap.size := by have h0 := x5.size; have h1 := hw16; omega
              have own5' := own_base own5 hw16
              refine hK.out _ _ hS17_.s (fun hS17 => ?_)
              clear hK K
              try simp only [Act.put, List.setIfInBounds_toArray, List.set_cons_zero, List.set_cons_succ]
              refine wpAnyH_ready (rs := [9]) (by kernel_rfl) (by simp) (AllReadyH.cons (o := _) rfl (fun K hK => ?_) AllReadyH.nil)
              go_simp
              refine hK.out _ _ hS17 (fun hT => ?_)
              clear hK K
              try simp only [Act.put, List.setIfInBounds_toArray, List.set_cons_zero, List.set_cons_succ]
              refine wpAnyH_done (by kernel_rfl) ?_ _
              go_wp2_with fail
              go_meet
              case rel => exact ⟨A5, c5, rfl, own5', hS17.1, hw17⟩
        · go_simp
          have hl18 := hS14.1.lt
          refine (put_any B1 (0 + 2) d1 2 2 hi _ _ _ own1_14 bs14 (by omega) (by omega) rfl).mono ?_
          rintro e v18 ⟨B2, d2, rfl, own2, app2⟩
          go_wp2_with fail
          have hS18_ := SE.app hS14.1 app2 lo13
          have hw18 : w1.heap.size ≤ v18.heap.size := by have h0 := app2.size; have h1 := hw14; (try simp at h0 h1); omega
          have mg18 := app2.blk mg14 ne14
          have ne18 : (Value.slice B2 (0 + 2 + 2) d2).ownBlock ≠ some v13.heap.size := by rcases app2.lies with e | ⟨q, e, hq⟩; (rw [e]; exact ne14); (rw [e]; intro e'; injection e' with e'; have := mg14.lt; (try simp at *); omega)
          refine hK.out _ _ hS18_.s (fun hS18 => ?_)
          clear hK K
          try simp only [Act.put, List.setIfInBounds_toArray, List.set_cons_zero, List.set_cons_succ]
          refine wpAnyH_ready (rs := [1]) (by kernel_rfl) (by simp) (AllReadyH.cons (o := _) rfl (fun K hK => ?_) AllReadyH.nil)
          · go_simp
            refine upon_conv 22 5 v13.heap.size 4 4 #[.int .u8 87, .int .u8 80, .int .u8 75, .int .u8 49] Try.underlying22 Try.underlying5 mg18 ?_
            intro v19 mk19
            have hS19_ := SE.mkd hS18.1 mk19 hg14
            have hw19 : w1.heap.size ≤ v19.heap.size := by first | exact Nat.le_trans hw18 (Nat.le_of_eq mk19.size.symm) | (have h0 := mk19.size; simp at h0; omega)
            have gl19 : v13.heap.size < v19.heap.size := by rw [mk19.size]; exact mg18.lt
            have mr19 := mk19.rd (magic_rd mg18)
            have own2_19 := mk19.own own2 ne18
            refine hK.out _ _ hS19_.s (fun hS19 => ?_)
            clear hK K
            try simp only [Act.put, List.setIfInBounds_toArray, List.set_cons_zero, List.set_cons_succ]
            refine wpAnyH_ready (rs := [8]) (by kernel_rfl) (by simp) (AllReadyH.cons (o := _) rfl (fun K hK => ?_) AllReadyH.nil)
            · go_simp
              refine (section_full _ B2 4 4 d2 1 Pk.magic (Pk.lens lo hi) _ mr19 (by omega) (by omega) (by omega) (Rd.of_own own2_19)).mono ?_
              rintro e v20 ⟨A5, c5, rfl, own5, x5⟩
              go_wp2_with fail
              have hS20_ := SE.ext hS19.1 x5
              have hw20 : w1.heap.size ≤ v20.heap.size := by have h0 := x5.size; have h1 := hw19; omega
              have own5' := own_base own5 hw19
              refine hK.out _ _ hS20_.s (fun hS20 => ?_)
              clear hK K
              try simp only [Act.put, List.setIfInBounds_toArray, List.set_cons_zero, List.set_cons_succ]
              refine wpAnyH_ready (rs := [9]) (by kernel_rfl) (by simp) (AllReadyH.cons (o := _) rfl (fun K hK => ?_) AllReadyH.nil)
              go_simp
              refine hK.out _ _ hS20 (fun hT => ?_)
              clear hK K
              try simp only [Act.put, List.setIfInBounds_toArray, List.set_cons_zero, List.set_cons_succ]
              refine wpAnyH_done (by kernel_rfl) ?_ _
              go_wp2_with fail
              go_meet
              case rel => exact ⟨A5, c5, rfl, own5', hS20.1, hw20⟩
      · go_simp
        have hl21 := hS13.1.lt
        refine (put_any B1 (0 + 2) d1 2 2 hi _ _ _ own1 bs13 (by omega) (by omega) rfl).mono ?_
        rintro e v21 ⟨B2, d2, rfl, own2, app2⟩
        go_wp2_with fail
        have hS21_ := SE.app hS13.1 app2 lo13
        have hw21 : w1.heap.size ≤ v21.heap.size := by have h0 := app2.size; have h1 := hw13; (try simp at h0 h1); omega
        refine hK.out _ _ hS21_.s (fun hS21 => ?_)
        clear hK K
        try simp only [Act.put, List.setIfInBounds_toArray, List.set_cons_zero, List.set_cons_succ]
        refine wpAnyH_ready (rs := [0]) (by kernel_rfl) (by simp) (AllReadyH.cons (o := _) rfl (fun K hK => ?_) AllReadyH.nil)
        · go_simp
          have hl22 := hS21.1.lt
          have mg22 := Blk.new v21 5 #[.int .u8 87, .int .u8 80, .int .u8 75, .int .u8 49]
          have hg22 : w.heap.size < v21.heap.size := by first | exact hl22 | simpa using hl22
          have hS22_ : SE w _ _ := SE.alloc (o := .cells #[.int .u8 87, .int .u8 80, .int .u8 75, .int .u8 49] 5) hS21.1
          have hw22 : w1.heap.size ≤ v21.heap.size + 1 := by have := hw21; (try simp at this); omega
          have own2_22 := own2.alloc (.cells #[.int .u8 87, .int .u8 80, .int .u8 75, .int .u8 49] 5)
          have ne22 : (Value.slice B2 (0 + 2 + 2) d2).ownBlock ≠ some v21.heap.size := fun e => by have := (own2.lt _ e).2; omega
          refine hK.out _ _ hS22_.s (fun hS22 => ?_)
          clear hK K
          try simp only [Act.put, List.setIfInBounds_toArray, List.set_cons_zero, List.set_cons_succ]
          refine wpAnyH_ready (rs := [1]) (by kernel_rfl) (by simp) (AllReadyH.cons (o := _) rfl (fun K hK => ?_) AllReadyH.nil)
          · go_simp
            refine upon_conv 22 5 v21.heap.size 4 4 #[.int .u8 87, .int .u8 80, .int .u8 75, .int .u8 49] Try.underlying22 Try.underlying5 mg22 ?_
            intro v23 mk23
            have hS23_ := SE.mkd hS22.1 mk23 hg22
            have hw23 : w1.heap.size ≤ v23.heap.size := by first | exact Nat.le_trans hw22 (Nat.le_of_eq mk23.size.symm) | (have h0 := mk23.size; simp at h0; omega)
            have gl23 : v21.heap.size < v23.heap.size := by rw [mk23.size]; exact mg22.lt
            have mr23 := mk23.rd (magic_rd mg22)
            have own2_23 := mk23.own own2_22 ne22
            refine hK.out _ _ hS23_.s (fun hS23 => ?_)
            clear hK K
            try simp only [Act.put, List.setIfInBounds_toArray, List.set_cons_zero, List.set_cons_succ]
            refine wpAnyH_ready (rs := [8]) (by kernel_rfl) (by simp) (AllReadyH.cons (o := _) rfl (fun K hK => ?_) AllReadyH.nil)
            · go_simp
              refine (section_full _ B2 4 4 d2 1 Pk.magic (Pk.lens lo hi) _ mr23 (by omega) (by omega) (by omega) (Rd.of_own own2_23)).mono ?_
              rintro e v24 ⟨A5, c5, rfl, own5, x5⟩
              go_wp2_with fail
              have hS24_ := SE.ext hS23.1 x5
              have hw24 : w1.heap.size ≤ v24.heap.size := by have h0 := x5.size; have h1 := hw23; omega
              have own5' := own_base own5 hw23
              refine hK.out _ _ hS24_.s (fun hS24 => ?_)
              clear hK K
              try simp only [Act.put, List.setIfInBounds_toArray, List.set_cons_zero, List.set_cons_succ]
              refine wpAnyH_ready (rs := [9]) (by kernel_rfl) (by simp) (AllReadyH.cons (o := _) rfl (fun K hK => ?_) AllReadyH.nil)
              go_simp
              refine hK.out _ _ hS24 (fun hT => ?_)
              clear hK K
              try simp only [Act.put, List.setIfInBounds_toArray, List.set_cons_zero, List.set_cons_succ]
              refine wpAnyH_done (by kernel_rfl) ?_ _
              go_wp2_with fail
              go_meet
              case rel => exact ⟨A5, c5, rfl, own5', hS24.1, hw24⟩

  case rest =>
    obtain ⟨B5, e5, rfl, own5, hS5, hsz5⟩ := hcut
    obtain ⟨z0, z1, z2, z3, z4⟩ := hS5.2.c5
    obtain ⟨i0, hi0, hz0, hz1, hz2⟩ := info_parts info5
    have hx : ts.length = n2 := by have := h2.1; rw [tv_length] at this; omega
    have Hx := hd hx
    clear hx
    have hL5 : (Pk.one 1 (Pk.lens lo hi)).length ≤ 8 := by rw [one_length, Pk.lens_length]; split <;> omega
    go_wp2
    go_loopw [6, 37] (fun t i wr => ∃ (k : Nat) (A' : Option Addr) (c' : Nat), k ≤ n2 ∧ i = .int .i64 k ∧ t = .slice A' (2 * k) c' ∧ wr.ownsRow wc.heap.size 5 1 (.slice A' (2 * k) c') (2 * k) (bv (Pk.tabBytes (ts.take k))) ∧ Ext wc wr) (fun _ i _ => n2 - (intOf i).toNat)
    case atStart => exact ⟨0, none, 0, by omega, rfl, rfl, World.ownsRow_nil _ _ _ _, Ext.refl _⟩
    case round =>
      obtain ⟨k, A', c', hk, rfl, rfl, hown, hXr⟩ := hrel
      have hszr := hXr.size
      by_cases hlt : k < n2
      · obtain ⟨b, o, rfl, hc⟩ := ((h2.ext hS5.1).ext hXr).form (by omega) (by omega)
        have hkx : k < ts.length := by have := Hx.out; omega
        have q0 := hc _ _ (tv_get0 ts k hkx)
        have q1 : wr.cell? ⟨b, o + k * 2 + 1, none⟩ = some (.int .i64 ts[k].2) := hc _ _ (tv_get1 ts k hkx)
        clear hc
        go_wp2_with (at_builtin; refine wpList_app _ rfl (.tmp 41) (.tmp 48) 22 rfl wc.heap.size 5 i0 _ 1 1 Try.underlying22 hi0 hz0 hz1 hz2 rfl (by omega) (.slice A' (2 * k) c') (2 * k) _ rfl ((hown.alloc _).alloc _) (some ⟨wr.heap.size + 1, 0, none⟩) 2 2 [.int .u8 (ts[k].1 % 256), .int .u8 (ts[k].2 % 256)] rfl (Rd.two' _ _ _ _ _) (oneCell_two _ _ _ _) (by omega) (by omega) (by simp; omega) ?_; intro v1 w2 hown1 hg1 hat1; have hX1 := ((hXr.alloc _).alloc _).grown_own ((hown.alloc _).alloc _) hg1 (Nat.le_refl _); obtain ⟨A3, c3', rfl, _⟩ := own_form hown1; rw [bv_snoc2] at hown1; clear hown hat1 hg1)
        go_roundw
        case rel => exact ⟨k + 1, A3, c3', by omega, by go_num, rfl, by rw [Pk.tab_snoc ts k hkx]; exact hown1, hX1⟩
        case measure => simp [intOf]; omega
      · have hkn : k = n2 := by omega
        have e2 : ts.take k = ts := List.take_of_length_le (by rw [Hx.out]; omega)
        rw [e2] at hown
        clear e2 hkn
        have hS6 := hS5.ext hXr
        obtain ⟨y0, y1, y2, y3, y4⟩ := hS6.2.c5
        have own6 := hXr.own own5
        have hTl : (Pk.one 2 (Pk.tabBytes ts)).length ≤ 20 := by rw [one_length, Pk.tab_length, Hx.out]; split <;> omega
        have hDl : (Pk.one 3 data).length ≤ 4100 := by rw [one_length]; have := h1.1; rw [bv_length] at this; split <;> omega
        have hCl : (Pk.one 4 code).length ≤ 131076 := by rw [one_length]; have := h3.1; rw [bv_length] at this; split <;> omega
        have HD := hd hDl
        have HC := hd hCl
        clear hDl hCl
        have neT := hd (ne_of_own own5 hown (Nat.le_refl _))
        have hB6 := Nat.le_trans hsz5 hszr
        have hwl := Nat.le_of_lt hl
        clear own5 hS5
        go_upto_region 17 with (first | (go_at_call 71; (with_reducible refine (section_any B5 A' _ e5 (2 * k) c' 2 _ (Pk.tabBytes ts) w1.heap.size _ own6 hB6 (by omega) (by omega) (Rd.of_own hown) neT.out).mono ?_); rintro e w6 ⟨B6, e6, rfl, own7, app7⟩; have hS7 := hS6.app app7 (fun q hq => Nat.lt_of_lt_of_le hl (own6.lt q hq).1); obtain ⟨x0, x1, x2, x3, x4⟩ := hS7.2.c5; have hB7 := Nat.le_trans hB6 app7.size; clear own6 app7) | (go_at_call 71; (with_reducible refine (section_any B6 A1 _ e6 n1 c1 3 _ data w1.heap.size _ own7 hB7 (by omega) (by omega) (h1.ext hS7.e) (ne_of_old h1 (by omega) own7 hwl)).mono ?_); rintro e w7 ⟨B7, e7, rfl, own8, app8⟩; have hS8 := hS7.app app8 (fun q hq => Nat.lt_of_lt_of_le hl (own7.lt q hq).1); obtain ⟨t0, t1, t2, t3, t4⟩ := hS8.2.c5; have hB8 := Nat.le_trans hB7 app8.size; clear own7 app8) | (go_at_call 71; (with_reducible refine (section_any B7 A3 _ e7 n3 c3 4 _ code w1.heap.size _ own8 hB8 (by have := HD.out; omega) (by omega) (h3.ext hS8.e) (ne_of_old h3 (by omega) own8 hwl)).mono ?_); rintro e w8 ⟨B8, e8, rfl, own9, app9⟩; have hS9 := hS8.app app9 (fun q hq => Nat.lt_of_lt_of_le hl (own8.lt q hq).1); have hB9 := Nat.le_trans hB8 app9.size; clear own8 app9) | (go_at_call 73; (with_reducible refine (sum_ex B8 _ e8 _ _ (Rd.of_own own9) (by have := HD.out; have := HC.out; omega)).mono ?_); rintro e w9 ⟨su, hsu, HSU, rfl, rfl⟩) | (go_at_call 72; (with_reducible refine (put_any B8 _ e8 4 4 _ _ w1.heap.size _ own9 hB9 (by have := HD.out; have := HC.out; omega) (by omega) rfl).mono ?_); rintro e w10 ⟨B10, e10, rfl, own10, app10⟩; have hS10 := hS9.app app10 (fun q hq => Nat.lt_of_lt_of_le hl (own9.lt q hq).1)))
        obtain ⟨N, hN⟩ : ∃ N, N = 4 + (Pk.one 1 (Pk.lens lo hi)).length + (Pk.one 2 (Pk.tabBytes ts)).length + (Pk.one 3 data).length + (Pk.one 4 code).length + 4 := ⟨_, rfl⟩
        rw [← hN] at own10 ⊢
        have hXF := hS10.e
        have hbl : (Pk.bytes lo hi data ts code).length = N := by rw [hN]; simp [Pk.bytes, Pk.body, Pk.low_length, Pk.magic]; omega
        have hbv : Pk.magic ++ Pk.one 1 (Pk.lens lo hi) ++ Pk.one 2 (Pk.tabBytes ts) ++ Pk.one 3 data ++ Pk.one 4 code ++ Pk.low 4 su = Pk.bytes lo hi data ts code := by rw [HSU.out]; rfl
        rw [hbv] at own10
        have HBL := hd hbl
        have own11 := own_base own10 hwl
        have hNs : N ≤ 200000 := by have := HD.out; have := HC.out; omega
        clear neT HSU HD HC x0 x1 x2 x3 x4 y0 y1 y2 y3 y4 z0 z1 z2 z3 z4 t0 t1 t2 t3 t4 hbl hbv hN own10 own9 app10 hS10 hS9 hS8 hS7 hS6 hTl hL5 hB9 hB8 hB7 hB6
        by_cases hbig : 131072 < N
        · go_wp2
          go_ret2
          exact EncPost.long (by rw [HBL.out]; exact hbig) hXF
        · go_wp2
          go_ret2
          exact EncPost.short (by rw [HBL.out]; exact hbig) HBL.out own11 hXF

theorem sizes_ts {lo hi : Int} {n : Nat} {ts : List (Int × Int)} (h : Pk.sizes lo hi n ts = 0) : ts.length ≤ 8 ∧ n ≤ 4096 ∧ (0 ≤ lo ∧ lo ≤ hi ∧ hi ≤ 65535) ∧ ts.any Pk.wrongB = false := by
  unfold Pk.sizes at h
  split at h
  · cases h
  · split at h
    · cases h
    · split at h
      · cases h
      · rename_i h1 h2 h3
        simp only [not_or, Bool.not_eq_true] at h2
        exact ⟨by omega, by omega, by omega, h2.2⟩

/-- Encode: the bytes, or the error, as Pk says -/
theorem Encode_any (lo hi : Int) (A1 A2 A3 : Option Addr) (n1 n2 n3 c1 c2 c3 : Nat) (data code : List UInt8) (ts : List (Int × Int)) (w : World)
    (h1 : Rd w 1 A1 n1 (bv data)) (h2 : Rd w 2 A2 n2 (tv ts)) (h3 : Rd w 1 A3 n3 (bv code)) (hn1 : n1 ≤ 140737488355328) (hn2 : n2 * 16 ≤ 140737488355328) (hn3 : n3 ≤ 140737488355328) :
    Calls Try.prog 27 #[.agg #[.int .i64 lo, .int .i64 hi, .slice A1 n1 c1, .slice A2 n2 c2, .slice A3 n3 c3]] w (EncPost (Pk.encode lo hi data ts code) w) := by
  have hd1 : data.length = n1 := by have := h1.1; rw [bv_length] at this; omega
  have ht1 : ts.length = n2 := by have := h2.1; rw [tv_length] at this; omega
  have hc1 : code.length = n3 := by have := h3.1; rw [bv_length] at this; omega
  unfold Pk.encode
  rw [hd1, hc1]
  by_cases hs : Pk.sizes lo hi n1 ts = 0
  · rw [if_neg (by simp [hs])]
    have hb := sizes_ts hs
    by_cases hl : 131072 < n3
    · rw [if_pos hl]
      exact (Encode_long lo hi A1 A2 A3 n1 n2 n3 c1 c2 c3 ts w h2 hn1 hn2 hn3 hs hl).mono fun e w' ⟨he, hX⟩ => ⟨none, 0, he, World.ownsRow_nil _ _ _ _, hX⟩
    · rw [if_neg hl]
      exact Encode_good lo hi A1 A2 A3 n1 n2 n3 c1 c2 c3 data code ts w h1 h2 h3 hs hb.2.1 (by omega) (by omega)
  · rw [if_pos hs]
    exact (Encode_bad lo hi A1 A2 A3 n1 n2 n3 c1 c2 c3 ts w h2 hn1 hn2 hn3 hs).mono fun e w' ⟨he, hX⟩ => ⟨none, 0, he, World.ownsRow_nil _ _ _ _, hX⟩

end Go.Proofs.Ytfcbedkidjclhaa
