/-
  The contracts of the lender of bytes: Lend, Back.
  Conditions: the bytes can be read, lie elsewhere than the lender's, and are not very many.
  The contract of the lender's Back: what was lent lies there still.
  Conditions: the bytes can be read; the room holds them, with the marks behind.
  A container that is handed in by two lenders: what is known behind it.
  No condition: definitions and lemmas.
  The contracts of the lender of instructions: mark, Lend.
  Conditions: the instructions can be read, lie elsewhere than the lender's, and are not very many.
  The contracts of the lender of instructions: Lend, Back.
  Conditions: the instructions can be read, lie elsewhere than the lender's, and are not very many.
  A program that is handed in by two lenders: what is known behind it.
  No condition: definitions and lemmas.
-/
import Derived.Test.YtfcbedkidjclhaaKeep
import Derived.Laws.CopyOwn
import Derived.Laws.OwnMore
import Derived.Deep.CutBlock
import Derived.Test.YtfcbedkidjclhaaCopy
import Derived.Test.YtfcbedkidjclhaaCode8
import Derived.Test.YtfcbedkidjclhaaCode16
import Derived.Deep.MidRow
import Derived.Deep.RegionLaw
namespace Go.Proofs.Ytfcbedkidjclhaa
open Go.RowKit
set_option maxRecDepth 100000
set_option linter.unusedSimpArgs false
set_option linter.unusedVariables false

/-- the mark at a place behind what is lent -/
def mk (i : Nat) : UInt8 := Pk.byte (151 + 7 * (i : Int))
def mks (k : Nat) : List UInt8 := (List.range k).map mk
theorem mks_succ (k : Nat) : mks (k + 1) = mks k ++ [mk k] := by simp [mks, List.range_succ]
theorem mks_length (k : Nat) : (mks k).length = k := by simp [mks]
theorem mks_get {k i : Nat} (h : i < k) : (mks k)[i]? = some (mk i) := by simp [mks, h]

theorem behind_any (i : Nat) (hi : i ≤ 4000000000) (w : World) : Calls Try.prog 69 #[.int .i64 i] w fun e w' => e = .returned (.int .u8 (((mk i).toNat : Nat) : Int)) ∧ w = w' := by
  have hv : IntKind.u8.wrap (151 + 7 * (i : Int)) = (((mk i).toNat : Nat) : Int) := by rw [IntKind.wrap_u8, mk, Pk.byte_toNat]
  have HV := hd hv
  clear hv
  go_enter Try.func69, Try.ntmps69
  go_wp2
  go_ret
  refine ⟨?_, rfl⟩
  rw [← HV.out, IntKind.wrap_u8]
  rfl

/-- the lender's room: its box, where the room lies, what lies there -/
def LR (w : World) (g : Nat) : Option Nat → List UInt8 → Prop
  | none, rs => rs = [] ∧ Blk w g 28 #[.slice none 0 0]
  | some r, rs => Blk w g 28 #[.slice (some ⟨r, 0, none⟩) rs.length rs.length] ∧ Blk w r 5 (bv rs).toArray
/-- what the lender may change -/
def LS (g : Nat) (o : Option Nat) (b : Nat) : Prop := b = g ∨ o = some b

theorem LR.ne {w : World} {g r : Nat} {rs : List UInt8} (h : LR w g (some r) rs) : r ≠ g := Ne.symm (Blk.ne_ h.1 h.2 (by decide))
theorem LR.keep {S : Nat → Prop} {w w' : World} {g : Nat} {o : Option Nat} {rs : List UInt8} (h : LR w g o rs) (k : Kp S w w') (hS : ∀ b, LS g o b → ¬ S b) : LR w' g o rs := by
  cases o with
  | none => exact ⟨h.1, k.blk h.2 (hS _ (.inl rfl))⟩
  | some r => exact ⟨k.blk h.1 (hS _ (.inl rfl)), k.blk h.2 (hS _ (.inr rfl))⟩
theorem LR.ext {w w' : World} {g : Nat} {o : Option Nat} {rs : List UInt8} (h : LR w g o rs) (k : Ext w w') : LR w' g o rs := h.keep (S := fun _ => False) (Kp.of_ext k) fun _ _ e => e
theorem LR.put {w : World} {g r j : Nat} {rs : List UInt8} (h : LR w g (some r) rs) (x : UInt8) : LR (w.setCell ⟨r, j, none⟩ (.int .u8 ((x.toNat : Nat) : Int))) g (some r) (rs.set j x) := by
  have hne := h.ne
  refine ⟨?_, ?_⟩
  · rw [List.length_set]
    exact h.1.far (p := ⟨r, j, none⟩) (Ne.symm hne) _
  · have := h.2.set_ j (.int .u8 ((x.toNat : Nat) : Int))
    rwa [List.setIfInBounds_toArray, bv_set] at this
theorem LR.rd {w : World} {g r : Nat} {rs : List UInt8} (h : LR w g (some r) rs) : Rd w 1 (some ⟨r, 0, none⟩) rs.length (bv rs) := by
  refine ⟨by rw [bv_length]; omega, fun _ => ⟨_, rfl, fun j u hj => ?_⟩⟩
  rw [show (⟨r, 0, none⟩ : Addr).add j = ⟨r, j, none⟩ by unfold Addr.add; split <;> simp_all, h.2.cell j]
  simpa using hj
theorem LR.cell {w : World} {g r : Nat} {rs : List UInt8} (h : LR w g (some r) rs) {j : Nat} {x : UInt8} (hj : rs[j]? = some x) : w.cell? ⟨r, j, none⟩ = some (.int .u8 ((x.toNat : Nat) : Int)) := by
  rw [h.2.cell j]
  simp [bv, hj]
theorem set_next {rs l : List UInt8} {m : Nat} {x : UInt8} (h : rs.take m = l) (hm : m < rs.length) : (rs.set m x).take (m + 1) = l ++ [x] := by
  rw [List.take_succ_eq_append_getElem (by rw [List.length_set]; exact hm), List.take_set_of_le (Nat.le_refl _), h]
  simp

theorem wl_copyK {P : Program} {w : World} {ops : Array Oper} {rest : List Oper} {dst : Option Tmp} {ty : TypeId} {ps : String} {af : Array Edge} {a : Act} {Q : Exit → Act → World → Prop} (d s : Operand) (dT sT : TypeId)
    (elem : TypeId) (hu : P.underlying dT = some (.slice elem)) (hsz : (P.info? elem).map (·.size) = some 1)
    (r dLen dCap : Nat) (A : Option Addr) (n c : Nat) (hd : a.eval d = .slice (some ⟨r, 0, none⟩) dLen dCap) (hs : a.eval s = .slice A n c)
    (rs bs : List UInt8) (hg : Blk w r 5 (bv rs).toArray) (hR : Rd w 1 A n (bv bs)) (hl : bs.length = n) (hn : n ≤ dLen) (hr : dLen = rs.length)
    (h : ∀ w', Blk w' r 5 (bv (bs ++ rs.drop n)).toArray → Kp (fun b => b = r) w w' → wpList P ops Q rest (a.put dst (.int .i64 (n : Int))) w') :
    wpList P ops Q (⟨dst, .call { callee := .builtin .copy, args := #[d, s], argTypes := #[dT, sT] }, ty, ps, af, none⟩ :: rest) a w := by
  have hgi : goInt (bv bs).length = .int .i64 (n : Int) := by rw [bv_length, hl]; rfl
  by_cases h0 : n = 0
  · obtain rfl : bs = [] := List.eq_nil_of_length_eq_zero (by omega)
    refine wpList_copy_nothing rfl d s dT sT rfl elem hu hsz (some ⟨r, 0, none⟩) A dLen dCap n c hd hs (by rw [h0]; exact Nat.zero_min _) ?_
    subst h0
    exact h w (by simpa using hg) (Kp.refl w)
  · obtain ⟨ad, rfl, hsrc⟩ := hR.2 (by omega)
    refine wpList_copy_own rfl d s dT sT rfl elem hu hsz r 0 dLen dCap ad n c hd hs (bv rs).toArray 5 hg (bv bs) (by rw [bv_length, hl]; exact (Nat.min_eq_left hn).symm) hsrc (by rw [List.size_toArray, bv_length, bv_length]; omega) (bv_one _) ?_
    have e : ((bv rs).toArray.toList.take 0 ++ (bv bs ++ (bv rs).toArray.toList.drop (0 + (bv bs).length))) = bv (bs ++ rs.drop n) := by
      rw [bv_append, bv_length, hl]
      simp [bv_drop]
    rw [e]
    show wpList P ops Q rest (a.put dst (goInt (bv bs).length)) _
    rw [hgi]
    exact h _ (setRow_heap w r _ _ 5 _ hg) (Kp.row (S := fun b => b = r) (Kp.refl w) (.inl rfl) _)

theorem slice_lend (r m n : Nat) (h : n ≤ m) (v : World) :
    Sem.run Try.prog (Instr.slice 22 (.slice (some ⟨r, 0, none⟩) m m) none (some (.int .i64 (n : Int))) none) v = .ok (.slice (some ⟨r, 0, none⟩) n m) v := by
  have h1 : (n : Int) ≤ (m : Int) := by omega
  simp [go_sem, Try.underlying22, h1]

theorem made_zeroK (n : Nat) : (madeCells (Value.int .u8 0).cells (n * 1)).toList = bv (List.replicate n 0) := by
  apply List.ext_getElem
  · simp [madeCells, bv]
  · intro i h1 h2
    simp [madeCells, bv, Value.cells, Nat.mod_one]
theorem own_blk5 {w : World} {base g n : Nat} {l : List UInt8} (h : w.ownsRow base 5 1 (.slice (some ⟨g, 0, none⟩) n n) n (bv l)) : Blk w g 5 (bv l).toArray := by
  rcases h.2 with ⟨h1, h0⟩ | ⟨g', cap, cur, hv, _, hh, h4, h5, h6, h7⟩
  · injection h1 with h1; cases h1
  · injection hv with e1 e2 e3
    injection e1 with e1
    injection e1 with e1
    subst e1
    subst e3
    have : cur = (bv l).toArray := by
      rw [← h7, List.take_of_length_le (by rw [Array.length_toList, h6]; exact Nat.le_refl _)]
    rw [← this]
    exact hh

theorem Kp.rd0 {S : Nat → Prop} {w w' : World} (h : Kp S w w') {sz n : Nat} {A : Option Addr} {xs : List Value} (hr : Rd w sz A n xs) (hne : 0 < n → ∀ ad, A = some ad → ¬ S ad.block) : Rd w' sz A n xs :=
  ⟨hr.1, fun hn => by
    obtain ⟨ad, e, hc⟩ := hr.2 hn
    exact ⟨ad, e, fun j u hu => h.cell (hc j u hu) (by rw [blk_add]; exact hne hn ad e)⟩⟩
/-- what can be read was there -/
theorem old_rd {w : World} {sz n : Nat} {A : Option Addr} {xs : List Value} (h : Rd w sz A n xs) (hs : 0 < sz) : 0 < n → ∀ ad, A = some ad → ad.block < w.heap.size := by
  intro hn ad hA
  obtain ⟨b, o, hb', hc⟩ := h.form hn hs
  rw [hA] at hb'
  injection hb' with hb'
  subst hb'
  have hl : 0 < xs.length := by rw [h.1]; exact Nat.mul_pos hn hs
  exact World.block_lt_of_cell? w _ (hc 0 _ (List.getElem?_eq_getElem hl))

def LendPost (n : Nat) (bs : List UInt8) (g : Nat) (o : Option Nat) (w : World) (e : Ending) (w' : World) : Prop :=
  ∃ r rs, e = .returned (.slice (some ⟨r, 0, none⟩) n rs.length) ∧ (o = some r ∨ w.heap.size ≤ r) ∧ LR w' g (some r) rs ∧ rs.length ≤ 1000000000 ∧ 2 * n + 70 ≤ rs.length ∧ rs.take (2 * n + 70) = bs ++ mks (n + 70) ∧ Kp (LS g o) w w'

set_option maxHeartbeats 1000000 in
theorem Lend_any (g : Nat) (o : Option Nat) (rs : List UInt8) (A : Option Addr) (n c : Nat) (bs : List UInt8) (w : World) (hL : LR w g o rs) (hR : Rd w 1 A n (bv bs)) (hA : 0 < n → ∀ ad, A = some ad → ¬ LS g o ad.block) (hn : n ≤ 100000000) (hrs : rs.length ≤ 1000000000) :
    Calls Try.prog 25 #[.pointer (some ⟨g, 0, none⟩), .slice A n c] w (LendPost n bs g o w) := by
  have hl : bs.length = n := by have := hR.1; rw [bv_length] at this; omega
  obtain ⟨R, hB, hcap⟩ : ∃ R : Option Addr, Blk w g 28 #[.slice R rs.length rs.length] ∧ (R = o.map fun r => ⟨r, 0, none⟩) := by
    cases o with
    | none => obtain ⟨rfl, h⟩ := hL; exact ⟨none, h, rfl⟩
    | some r => exact ⟨_, hL.1, rfl⟩
  have b0 := hB.c1
  obtain ⟨i0, hi0, hz0, hz1, hz2⟩ := info_parts info5
  obtain ⟨t, ht⟩ : ∃ t, decide ((rs.length : Int) < 2 * (n : Int) + 70) = t := ⟨_, rfl⟩
  go_enter Try.func25, Try.ntmps25
  go_upto_if 17 with (fail)
  go_cut [] from 18 to 24 (fun W => ∃ r rs1, (o = some r ∨ w.heap.size ≤ r) ∧ LR W g (some r) rs1 ∧ rs1.length ≤ 1000000000 ∧ 2 * n + 70 ≤ rs1.length ∧ Kp (LS g o) w W)
  case first =>
    cases t with
    | true =>
      have hs : rs.length < 2 * n + 70 := by have := of_decide_eq_true ht; omega
      go_wp2_with (at_make; refine wpList_make_full _ rfl (.tmp 21) (.tmp 21) 22 rfl w.heap.size 5 i0 _ 1 Try.underlying22 hi0 hz0 hz1 .i64 .i64 (4 * (n : Int) + 200) (4 * (n : Int) + 200) (4 * n + 200) rfl rfl (by omega) (by omega) (by rw [hz2]; omega) (by unfold maxLen; omega) (Nat.le_refl _) ?_; intro w1 hown1 hg1; rw [made_zeroK] at hown1; have hX1 : Ext w w1 := (Ext.refl w).grown hg1 (by simp); have b1 := (hB.ext hX1).c1; have f1 := (hB.ext hX1).free 0)
      go_meet
      case rel =>
        have hb1 := own_blk5 hown1
        have hB1 := hB.ext hX1
        have hlt := hB.lt
        refine ⟨w.heap.size, List.replicate (4 * n + 200) 0, .inr (Nat.le_refl _), ⟨?_, ?_⟩, ?_, ?_, ?_⟩
        · rw [List.length_replicate]
          exact hB1.set_ 0 _
        · exact hb1.far (p := ⟨g, 0, none⟩) (by simp only; omega) _
        · rw [List.length_replicate]; omega
        · rw [List.length_replicate]; omega
        · exact (Kp.of_ext hX1).set ⟨g, 0, none⟩ (.inl (.inl rfl)) _
    | false =>
      have hs : ¬ rs.length < 2 * n + 70 := by have := of_decide_eq_false ht; omega
      go_wp2
      go_meet
      case rel =>
        cases o with
        | none => obtain ⟨rfl, _⟩ := hL; simp at hs
        | some r => exact ⟨r, rs, .inl rfl, hL, hrs, by omega, Kp.refl w⟩
  case rest =>
    obtain ⟨r, rs1, hor, hL1, hm1, hm2, hK1⟩ := hcut
    clear ht b0 hL hB hcap
    have hR1 : Rd wc 1 A n (bv bs) := hK1.rd0 hR hA
    have r0 := hL1.1.c1
    have hne := hL1.ne
    go_upto_region 5 with (refine wl_copyK (.tmp 28) (.tmp 29) 22 22 5 Try.underlying22 (by kernel_rfl) r rs1.length rs1.length A n c rfl rfl rs1 bs hL1.2 hR1 hl (by omega) rfl ?_; intro w2 hB2 hK2)
    have hLn : (bs ++ rs1.drop n).length = rs1.length := by rw [List.length_append, List.length_drop]; omega
    have hL2 : LR w2 g (some r) (bs ++ rs1.drop n) := ⟨by rw [hLn]; exact hK2.blk hL1.1 (Ne.symm hne), hB2⟩
    have hS2 : ∀ i, i < w.heap.size → i = r → LS g o i := fun i hi e => by
      rcases hor with h1 | h1
      · exact .inr (by rw [e]; exact h1)
      · omega
    have hK12 : Kp (LS g o) w w2 := hK1.trans hK2 hS2
    have hset : LS g o r ∨ w.heap.size ≤ r := hor.imp .inr id
    have htk : (bs ++ rs1.drop n).take (n + 0) = bs ++ mks 0 := by simp [mks, ← hl]
    clear hK1 hK2 hB2 hR1 hL1 r0
    go_wp2
    go_loopw [6] (fun i wr => ∃ (k : Nat) (rs2 : List UInt8), i = .int .i64 k ∧ k ≤ n + 70 ∧ rs2.length = rs1.length ∧ LR wr g (some r) rs2 ∧ Hid (rs2.take (n + k) = bs ++ mks k) ∧ Kp (LS g o) w wr) (fun i _ => n + 70 - (intOf i).toNat)
    case atStart => exact ⟨0, _, rfl, by omega, hLn, hL2, hd htk, hK12⟩
    case round =>
      obtain ⟨k, rs2, rfl, hk, hlen, hLR, HT, hKp⟩ := hrel
      have q0 := hLR.1.c1
      rw [hlen] at q0
      by_cases hlt : k < n + 70
      · have e1 : (k : Int) < (n : Int) + 70 := by omega
        have fz := hLR.2.free (n + k)
        obtain ⟨cz, hcz⟩ : ∃ x, rs2[n + k]? = some x := ⟨_, List.getElem?_eq_getElem (by omega)⟩
        have k0 := hLR.cell hcz
        have N69 : Calls Try.prog 69 #[.int .i64 (k : Int)] wr.drew (fun e w'' => e = .returned (.int .u8 (((mk k).toNat : Nat) : Int)) ∧ w'' = wr.drew) :=
          (behind_any k (by omega) wr.drew).mono (by rintro e w1 ⟨rfl, rfl⟩; exact ⟨rfl, rfl⟩)
        go_upto_region 8 with (fail)
        refine wp_region_still_tail 10 (by kernel_rfl) (by kernel_rfl) ?_
        simp only [List.take_succ_cons, List.take_zero, List.drop_succ_cons, List.drop_zero]
        repeat still_step
        still_call N69
        rw [show IntKind.i64.wrap ((n : Int) + (k : Int)) = (n : Int) + (k : Int) by rw [IntKind.wrap_i64]; omega]
        have i0 : 0 ≤ (n : Int) + (k : Int) := by omega
        have i1 : (n : Int) + (k : Int) < (rs1.length : Int) := by omega
        have i2 : ((n : Int) + (k : Int)).toNat = n + k := by omega
        repeat still_step
        try refine wpStill_nil ?_
        change wpList _ _ _ _ _ wr.drew
        go_wp2
        have hnx : (rs2.set (n + k) (mk k)).take (n + (k + 1)) = bs ++ mks (k + 1) := by
          rw [mks_succ, ← List.append_assoc, ← Nat.add_assoc]
          exact set_next HT.out (by omega)
        go_roundw
        case rel => exact ⟨k + 1, rs2.set (n + k) (mk k), by go_num, by omega, by rw [List.length_set]; exact hlen, hLR.put (mk k), hd hnx, hKp.drew.set ⟨r, n + k, none⟩ hset _⟩
        case measure => simp [intOf]; omega
      · obtain rfl : k = n + 70 := by omega
        have e1 : ¬ ((n + 70 : Nat) : Int) < (n : Int) + 70 := by omega
        have hsl := slice_lend r rs1.length n (by omega) wr
        go_wp2
        go_ret
        refine ⟨r, rs2, by rw [hlen]; rfl, hor, hLR, by omega, by omega, ?_, hKp⟩
        have := HT.out
        rwa [show n + (n + 70) = 2 * n + 70 by omega] at this

end Go.Proofs.Ytfcbedkidjclhaa
namespace Go.Proofs.Ytfcbedkidjclhaa
open Go.RowKit
set_option maxRecDepth 100000
set_option linter.unusedSimpArgs false
set_option linter.unusedVariables false

theorem take_get {l m : List UInt8} {k j : Nat} (h : l.take k = m) (hj : j < k) : l[j]? = m[j]? := by
  rw [← h, List.getElem?_take_of_lt hj]
theorem xor_u8K (a b : Int) : ∃ x : UInt8, bits .xor .u8 a b = ((x.toNat : Nat) : Int) := by
  refine ⟨Pk.byte (bits .xor .u8 a b), ?_⟩
  rw [Pk.byte_toNat]
  show IntKind.u8.wrap _ = IntKind.u8.wrap _ % 256
  rw [IntKind.wrap_u8]
  omega

def BackPost (g r m : Nat) (w : World) (e : Ending) (w' : World) : Prop :=
  e = .returned (.bool true) ∧ ∃ rs, rs.length = m ∧ LR w' g (some r) rs ∧ Kp (LS g (some r)) w w'

set_option maxHeartbeats 1000000 in
theorem Back_any (g r : Nat) (rs : List UInt8) (A : Option Addr) (n c : Nat) (bs : List UInt8) (w : World) (hL : LR w g (some r) rs) (hm : rs.take (2 * n + 70) = bs ++ mks (n + 70)) (h1 : 2 * n + 70 ≤ rs.length) (h2 : rs.length ≤ 1000000000)
    (hR : Rd w 1 A n (bv bs)) (hn : n ≤ 100000000) :
    Calls Try.prog 31 #[.pointer (some ⟨g, 0, none⟩), .slice A n c] w (BackPost g r rs.length w) := by
  have hl : bs.length = n := by have := hR.1; rw [bv_length] at this; omega
  have q0 := hL.1.c1
  have hsl := slice_lend r rs.length n (by omega) w
  have hR2 : Rd w 1 (some ⟨r, 0, none⟩) n (bv bs) := by
    have h3 := hL.rd.take (k := n) (by omega)
    rw [Nat.mul_one, bv_take] at h3
    have h4 : rs.take n = bs := by
      have h5 := congrArg (List.take n) hm
      rwa [List.take_take, Nat.min_eq_left (by omega), List.take_left' hl] at h5
    rwa [h4] at h3
  have hmk : ∀ k, k < n + 70 → rs[n + k]? = some (mk k) := fun k hk => by
    rw [take_get hm (by omega), List.getElem?_append_right (by omega), hl, Nat.add_sub_cancel_left]
    exact mks_get hk
  have HMK := hd hmk
  clear hmk hm
  go_enter Try.func31, Try.ntmps31
  go_upto_region 3 with (go_at_call 33; (with_reducible refine (SameBytes_any _ _ n n _ _ bs bs _ hR2 hR).mono ?_); rw [beq_self_eq_true]; rintro e v ⟨rfl, rfl⟩)
  clear hR hR2 hsl
  go_wp2
  go_loopw [6, 7] (fun ok i wr => ∃ (k : Nat), ok = .bool true ∧ i = .int .i64 k ∧ k ≤ n + 70 ∧ Ext w wr) (fun _ i _ => n + 70 - (intOf i).toNat)
  case atStart => exact ⟨0, rfl, rfl, by omega, Ext.refl _⟩
  case round =>
    obtain ⟨k, rfl, rfl, hk, hX⟩ := hrel
    obtain ⟨wq, hwq⟩ : ∃ wq, wq = wr := ⟨_, rfl⟩
    subst hwq
    have hLq := hL.ext hX
    have p0 := hLq.1.c1
    by_cases hlt : k < n + 70
    · have e1 : (k : Int) < (n : Int) + 70 := by omega
      have k0 := hLq.cell (HMK.out k hlt)
      have i0 : 0 ≤ (n : Int) + (k : Int) := by omega
      have i1 : (n : Int) + (k : Int) < (rs.length : Int) := by omega
      have i2 : ((n : Int) + (k : Int)).toNat = n + k := by omega
      go_upto_region 6 with (fail)
      go_quiet (first | (go_at_call 69; exact Calls.quiet_of_same ((behind_any k (by omega) _).mono (by rintro _ _ ⟨rfl, rfl⟩; exact ⟨rfl, rfl⟩))))
      go_wp2
      go_roundw
      case rel => exact ⟨k + 1, by simp, by go_num, by omega, hX.drewN _⟩
      case measure => simp [intOf]; omega
    · have e1 : ¬ (k : Int) < (n : Int) + 70 := by omega
      go_wp2
      go_loopw [8] (fun i wr => ∃ (k : Nat) (rs2 : List UInt8), i = .int .i64 k ∧ k ≤ n ∧ rs2.length = rs.length ∧ LR wr g (some r) rs2 ∧ Kp (LS g (some r)) w wr) (fun i _ => n - (intOf i).toNat)
      case atStart => exact ⟨0, rs, rfl, by omega, rfl, hLq, Kp.of_ext hX⟩
      case round =>
        obtain ⟨j, rs2, rfl, hj, hlen, hLR, hKp⟩ := hrel
        have q1 := hLR.1.c1
        rw [hlen] at q1
        by_cases hlt2 : j < n
        · have e2 : (j : Int) < (n : Int) := by omega
          obtain ⟨cz, hcz⟩ : ∃ x, rs2[j]? = some x := ⟨_, List.getElem?_eq_getElem (by omega)⟩
          have k0 := hLR.cell hcz
          have fz := hLR.2.free j
          have i1 : (j : Int) < (rs.length : Int) := by omega
          obtain ⟨y, hy⟩ := xor_u8K ((cz.toNat : Nat) : Int) 90
          go_upto_region 10 with (fail)
          refine wp_region_still_tail 14 (by kernel_rfl) (by kernel_rfl) ?_
          simp only [List.take_succ_cons, List.take_zero, List.drop_succ_cons, List.drop_zero]
          repeat still_step
          try refine wpStill_nil ?_
          change wpList _ _ _ _ _ wr.drew
          go_wp2
          go_roundw
          case rel => exact ⟨j + 1, rs2.set j y, by go_num, by omega, by rw [List.length_set]; exact hlen, hLR.put y, hKp.drew.set ⟨r, j, none⟩ (.inl (.inr rfl)) _⟩
          case measure => simp [intOf]; omega
        · have e2 : ¬ (j : Int) < (n : Int) := by omega
          go_wp2
          go_ret
          exact ⟨rfl, rs2, hlen, hLR, hKp⟩

end Go.Proofs.Ytfcbedkidjclhaa
namespace Go.Proofs.Ytfcbedkidjclhaa
open Go.RowKit
set_option maxRecDepth 100000
set_option linter.unusedSimpArgs false
set_option linter.unusedVariables false

theorem Kp.from_ext {S : Nat → Prop} {a b c : World} (h : Ext a b) (k : Kp S b c) : Kp S a c := (Kp.of_ext (S := S) h).trans k fun _ _ e => e
theorem Kp.s5 {S : Nat → Prop} {w w' : World} (h : Kp S w w') {g : Nat} (hg : S g) (a b c d e : Value) : Kp S w (((((w'.setCell ⟨g, 0, none⟩ a).setCell ⟨g, 1, none⟩ b).setCell ⟨g, 2, none⟩ c).setCell ⟨g, 3, none⟩ d).setCell ⟨g, 4, none⟩ e) :=
  ((((h.set ⟨g, 0, none⟩ (.inl hg) a).set ⟨g, 1, none⟩ (.inl hg) b).set ⟨g, 2, none⟩ (.inl hg) c).set ⟨g, 3, none⟩ (.inl hg) d).set ⟨g, 4, none⟩ (.inl hg) e
theorem LR.lt {w : World} {g : Nat} {o : Option Nat} {rs : List UInt8} (h : LR w g o rs) : ∀ b, LS g o b → b < w.heap.size := by
  intro b hb
  cases o with
  | none =>
    rcases hb with rfl | hb
    · exact h.2.lt
    · cases hb
  | some r =>
    rcases hb with rfl | hb
    · exact h.1.lt
    · injection hb with hb
      subst hb
      exact h.2.lt
/-- what was lent reads as it was -/
theorem lend_rd {w : World} {g r n : Nat} {rs bs : List UInt8} (h : LR w g (some r) rs) (hn : bs.length = n) (h1 : 2 * n + 70 ≤ rs.length) (ht : rs.take (2 * n + 70) = bs ++ mks (n + 70)) : Rd w 1 (some ⟨r, 0, none⟩) n (bv bs) := by
  have h3 := h.rd.take (k := n) (by omega)
  rw [Nat.mul_one, bv_take] at h3
  have h4 : rs.take n = bs := by
    have h5 := congrArg (List.take n) ht
    rwa [List.take_take, Nat.min_eq_left (by omega), List.take_left' hn] at h5
  rwa [h4] at h3

/-- a room that is lent -/
structure Lt (wr W : World) (g : Nat) (o : Option Nat) (n : Nat) (bs : List UInt8) (r : Nat) (rs : List UInt8) : Prop where
  lr : LR W g (some r) rs
  or_ : o = some r ∨ wr.heap.size ≤ r
  m1 : rs.length ≤ 1000000000
  k1 : 2 * n + 70 ≤ rs.length
  t1 : rs.take (2 * n + 70) = bs ++ mks (n + 70)
theorem Lt.keep {S : Nat → Prop} {wr W W' : World} {g : Nat} {o : Option Nat} {n : Nat} {bs : List UInt8} {r : Nat} {rs : List UInt8} (h : Lt wr W g o n bs r rs) (k : Kp S W W') (hS : ∀ b, LS g (some r) b → ¬ S b) : Lt wr W' g o n bs r rs := ⟨h.lr.keep k hS, h.or_, h.m1, h.k1, h.t1⟩
theorem Lt.ext {wr W W' : World} {g : Nat} {o : Option Nat} {n : Nat} {bs : List UInt8} {r : Nat} {rs : List UInt8} (h : Lt wr W g o n bs r rs) (k : Ext W W') : Lt wr W' g o n bs r rs := ⟨h.lr.ext k, h.or_, h.m1, h.k1, h.t1⟩
theorem Lt.rd {wr W : World} {g : Nat} {o : Option Nat} {n : Nat} {bs : List UInt8} {r : Nat} {rs : List UInt8} (h : Lt wr W g o n bs r rs) (hn : bs.length = n) : Rd W 1 (some ⟨r, 0, none⟩) n (bv bs) := lend_rd h.lr hn h.k1 h.t1
theorem LendPost.lt {n : Nat} {bs : List UInt8} {g : Nat} {o : Option Nat} {wr W0 w' : World} {e : Ending} (h : LendPost n bs g o W0 e w') (hE : Ext wr W0) :
    ∃ r rs, e = .returned (.slice (some ⟨r, 0, none⟩) n rs.length) ∧ Lt wr w' g o n bs r rs ∧ Kp (LS g o) wr w' ∧ (o = some r ∨ W0.heap.size ≤ r) := by
  obtain ⟨r, rs, h1, h2, h3, h4, h5, h6, h7⟩ := h
  exact ⟨r, rs, h1, ⟨h3, h2.imp id fun h => Nat.le_trans hE.size h, h4, h5, h6⟩, Kp.from_ext hE h7, h2⟩

/-- what is known of two lenders -/
structure Le (wr : World) (gd gc : Nat) (od oc : Option Nat) (rd rc : List UInt8) : Prop where
  ld : LR wr gd od rd
  lc : LR wr gc oc rc
  md : rd.length ≤ 1000000000
  mc : rc.length ≤ 1000000000
  sep : ∀ b, LS gd od b → ¬ LS gc oc b
theorem Le.ext {wr W : World} {gd gc : Nat} {od oc : Option Nat} {rd rc : List UInt8} (h : Le wr gd gc od oc rd rc) (k : Ext wr W) : Le W gd gc od oc rd rc := ⟨h.ld.ext k, h.lc.ext k, h.md, h.mc, h.sep⟩

/-- the container handed in -/
structure Gv (wr W : World) (gd gc : Nat) (od oc : Option Nat) (lo hi : Int) (n1 n2 n3 : Nat) (data code : List UInt8) (ts : List (Int × Int)) (gq r1 r3 : Nat) (rs1 rs3 : List UInt8) (E2 : Option Addr) (g2 : Nat) : Prop where
  kp : Kp (fun b => LS gd od b ∨ LS gc oc b) wr W
  ld : Lt wr W gd od n1 data r1 rs1
  lc : Lt wr W gc oc n3 code r3 rs3
  sep : ∀ b, LS gd (some r1) b → ¬ LS gc (some r3) b
  bq : Blk W gq 25 #[.int .i64 lo, .int .i64 hi, .slice (some ⟨r1, 0, none⟩) n1 rs1.length, .slice E2 n2 g2, .slice (some ⟨r3, 0, none⟩) n3 rs3.length]
  qn : wr.heap.size ≤ gq
  rt : Rd W 2 E2 n2 (tv ts)

/-- behind the three calls -/
structure Ca (wr W : World) (gd gc : Nat) (od oc : Option Nat) (n1 n2 n3 : Nat) (data code : List UInt8) (ts : List (Int × Int)) (r1 r3 : Nat) (rs1 rs3 : List UInt8) (E2 : Option Addr) (g2 : Nat) : Prop where
  kp : Kp (fun b => LS gd od b ∨ LS gc oc b) wr W
  ld : Lt wr W gd od n1 data r1 rs1
  lc : Lt wr W gc oc n3 code r3 rs3
  sep : ∀ b, LS gd (some r1) b → ¬ LS gc (some r3) b
  own : W.ownsRow wr.heap.size 54 2 (.slice E2 n2 g2) n2 (tv ts)

section
variable {wr W : World} {gd gc : Nat} {od oc : Option Nat} {n1 n2 n3 : Nat} {data code : List UInt8} {ts : List (Int × Int)} {r1 r3 : Nat} {rs1 rs3 : List UInt8} {E2 : Option Addr} {g2 : Nat} {lo hi : Int}
theorem Ca.alloc (h : Ca wr W gd gc od oc n1 n2 n3 data code ts r1 r3 rs1 rs3 E2 g2) :
    Gv wr (W.alloc (.cells #[.int .i64 lo, .int .i64 hi, .slice (some ⟨r1, 0, none⟩) n1 rs1.length, .slice E2 n2 g2, .slice (some ⟨r3, 0, none⟩) n3 rs3.length] 25)) gd gc od oc lo hi n1 n2 n3 data code ts W.heap.size r1 r3 rs1 rs3 E2 g2 :=
  ⟨h.kp.alloc _, h.ld.ext (Ext.new _ _), h.lc.ext (Ext.new _ _), h.sep, Blk.new _ _ _, h.kp.size, (Rd.of_own h.own).alloc _⟩
theorem Ca.box (h : Ca wr W gd gc od oc n1 n2 n3 data code ts r1 r3 rs1 rs3 E2 g2) {g : Nat} {a b c d e : Value} (hg : wr.heap.size ≤ g) (hB : Blk W g 25 #[a, b, c, d, e]) :
    Gv wr (((((W.setCell ⟨g, 0, none⟩ (.int .i64 lo)).setCell ⟨g, 1, none⟩ (.int .i64 hi)).setCell ⟨g, 2, none⟩ (.slice (some ⟨r1, 0, none⟩) n1 rs1.length)).setCell ⟨g, 3, none⟩ (.slice E2 n2 g2)).setCell ⟨g, 4, none⟩ (.slice (some ⟨r3, 0, none⟩) n3 rs3.length)) gd gc od oc lo hi n1 n2 n3 data code ts g r1 r3 rs1 rs3 E2 g2 := by
  have hK : Kp (fun b => b = g) W (((((W.setCell ⟨g, 0, none⟩ (.int .i64 lo)).setCell ⟨g, 1, none⟩ (.int .i64 hi)).setCell ⟨g, 2, none⟩ (.slice (some ⟨r1, 0, none⟩) n1 rs1.length)).setCell ⟨g, 3, none⟩ (.slice E2 n2 g2)).setCell ⟨g, 4, none⟩ (.slice (some ⟨r3, 0, none⟩) n3 rs3.length)) := Kp.s5 (S := fun b => b = g) (Kp.refl W) rfl _ _ _ _ _
  have n1' : ∀ b, LS gd (some r1) b → ¬ b = g := by
    rintro b (rfl | hb) rfl
    · exact Blk.ne_ h.ld.lr.1 hB (by decide) rfl
    · injection hb with hb; subst hb; exact Blk.ne_ h.ld.lr.2 hB (by decide) rfl
  have n3' : ∀ b, LS gc (some r3) b → ¬ b = g := by
    rintro b (rfl | hb) rfl
    · exact Blk.ne_ h.lc.lr.1 hB (by decide) rfl
    · injection hb with hb; subst hb; exact Blk.ne_ h.lc.lr.2 hB (by decide) rfl
  exact ⟨h.kp.trans hK fun i hi e => by omega, h.ld.keep hK n1', h.lc.keep hK n3', h.sep, hB.s5 _ _ _ _ _, hg,
    Rd.of_own (hK.own h.own fun k e1 e2 => own_blk_ne h.own hB (by decide) (by rw [e1, e2]))⟩

theorem Le.lt1 {rd rc : List UInt8} (h : Le wr gd gc od oc rd rc) : ∀ b, LS gd od b → b < wr.heap.size := h.ld.lt
theorem Le.lt2 {rd rc : List UInt8} (h : Le wr gd gc od oc rd rc) : ∀ b, LS gc oc b → b < wr.heap.size := h.lc.lt

/-- the third call, behind the first and the copy of the tables -/
theorem ca_mk {rd rc : List UInt8} (h : Le wr gd gc od oc rd rc) {w1 w2 W2 w3 : World} (hK1 : Kp (LS gd od) wr w1) (hL1 : Lt wr w1 gd od n1 data r1 rs1) (hX2 : Ext w1 w2) (own2 : w2.ownsRow w1.heap.size 54 2 (.slice E2 n2 g2) n2 (tv ts)) (hX : Ext w2 W2)
    (hK3 : Kp (LS gc oc) W2 w3) (hL3 : Lt W2 w3 gc oc n3 code r3 rs3) : Ca wr w3 gd gc od oc n1 n2 n3 data code ts r1 r3 rs1 rs3 E2 g2 := by
  have s1 := hK1.size
  have s2 := hX2.size
  have s3 := hX.size
  have hK23 : Kp (LS gc oc) w2 w3 := Kp.from_ext hX hK3
  have hK13 : Kp (LS gc oc) w1 w3 := Kp.from_ext hX2 hK23
  have hr1 : r1 < w1.heap.size := hL1.lr.2.lt
  have sp1 : ∀ b, LS gd (some r1) b → ¬ LS gc oc b := by
    rintro b (rfl | hb) hc
    · exact h.sep _ (.inl rfl) hc
    · injection hb with hb
      subst hb
      rcases hL1.or_ with ho | ho
      · exact h.sep _ (.inr ho) hc
      · have := h.lt2 _ hc; omega
  have hor := hL3.or_
  refine ⟨?_, hL1.keep hK13 sp1, ⟨hL3.lr, hor.imp id fun h => by omega, hL3.m1, hL3.k1, hL3.t1⟩, ?_, ?_⟩
  · exact (hK1.mono (T := fun b => LS gd od b ∨ LS gc oc b) fun _ _ e => .inl e).trans hK13 fun _ _ e => .inr e
  · rintro b hb (rfl | hc)
    · exact sp1 _ hb (.inl rfl)
    · injection hc with hc
      subst hc
      rcases hor with ho | ho
      · exact sp1 _ hb (.inr ho)
      · have h4 := hL1.lr.lt _ hb
        omega
  · refine hK23.own (own_base own2 s1) fun k e1 e2 => ?_
    have h5 := (own2.lt k e1).1
    have h6 := h.lt2 k e2
    omega
end

theorem LendPost.kp {n : Nat} {bs : List UInt8} {g : Nat} {o : Option Nat} {wr W0 w' : World} {e : Ending} (h : LendPost n bs g o W0 e w') (hE : Ext wr W0) : Kp (LS g o) wr w' := by
  obtain ⟨r, rs, h1, h2, h3, h4, h5, h6, h7⟩ := h
  exact Kp.from_ext hE h7
theorem LR.alloc_ {w : World} {g : Nat} {o : Option Nat} {rs : List UInt8} (h : LR w g o rs) (x : Obj) : LR (w.alloc x) g o rs := h.ext (Ext.new _ _)
theorem own_from {w w' W : World} {e : TypeId} {sz n : Nat} {v : Value} {xs : List Value} (h : w.ownsRow W.heap.size e sz v n xs) (k : Ext w' W) : w.ownsRow w'.heap.size e sz v n xs := own_base h k.size

theorem c5_far5 {w : World} {g z : Nat} {t : TypeId} {a b c d e v0 v1 v2 v3 v4 : Value} (h : Blk w g t #[a, b, c, d, e]) (hne : g ≠ z) :
    (((((w.setCell ⟨z, 0, none⟩ v0).setCell ⟨z, 1, none⟩ v1).setCell ⟨z, 2, none⟩ v2).setCell ⟨z, 3, none⟩ v3).setCell ⟨z, 4, none⟩ v4).cell? ⟨g, 0, none⟩ = some a ∧ (((((w.setCell ⟨z, 0, none⟩ v0).setCell ⟨z, 1, none⟩ v1).setCell ⟨z, 2, none⟩ v2).setCell ⟨z, 3, none⟩ v3).setCell ⟨z, 4, none⟩ v4).cell? ⟨g, 1, none⟩ = some b ∧
    (((((w.setCell ⟨z, 0, none⟩ v0).setCell ⟨z, 1, none⟩ v1).setCell ⟨z, 2, none⟩ v2).setCell ⟨z, 3, none⟩ v3).setCell ⟨z, 4, none⟩ v4).cell? ⟨g, 2, none⟩ = some c ∧ (((((w.setCell ⟨z, 0, none⟩ v0).setCell ⟨z, 1, none⟩ v1).setCell ⟨z, 2, none⟩ v2).setCell ⟨z, 3, none⟩ v3).setCell ⟨z, 4, none⟩ v4).cell? ⟨g, 3, none⟩ = some d ∧
    (((((w.setCell ⟨z, 0, none⟩ v0).setCell ⟨z, 1, none⟩ v1).setCell ⟨z, 2, none⟩ v2).setCell ⟨z, 3, none⟩ v3).setCell ⟨z, 4, none⟩ v4).cell? ⟨g, 4, none⟩ = some e :=
  (((((h.far (p := ⟨z, 0, none⟩) hne v0).far (p := ⟨z, 1, none⟩) hne v1).far (p := ⟨z, 2, none⟩) hne v2).far (p := ⟨z, 3, none⟩) hne v3).far (p := ⟨z, 4, none⟩) hne v4).c5

end Go.Proofs.Ytfcbedkidjclhaa
namespace Go.Proofs.Ytfcbedkidjclhaa
open Go.RowKit
set_option maxRecDepth 100000
set_option linter.unusedSimpArgs false
set_option linter.unusedVariables false

/-- the mark at a place behind what is lent -/
def mkC (i : Nat) : Cd.Ins := ⟨-7 - (i : Int), false, false, 0, 0, 0, 0, (i : Int)⟩
def mksC (k : Nat) : List Cd.Ins := (List.range k).map mkC
theorem mksC_succ (k : Nat) : mksC (k + 1) = mksC k ++ [mkC k] := by simp [mksC, List.range_succ]
theorem mksC_length (k : Nat) : (mksC k).length = k := by simp [mksC]
theorem mksC_get {k i : Nat} (h : i < k) : (mksC k)[i]? = some (mkC i) := by simp [mksC, h]

theorem markC_any (i : Nat) (hi : i ≤ 4000000000) (w : World) : Calls Try.prog 105 #[.int .i64 i] w fun e w' => e = .returned (.agg #[.int .i64 (-7 - (i : Int)), .bool false, .bool false, .int .i64 0, .int .i64 0, .int .i64 0, .int .i64 0, .int .i64 (i : Int)]) ∧ Ext w w' := by
  go_enter Try.func105, Try.ntmps105
  go_wp2_with ((with_reducible refine wl_store64 _ _ w.heap.size ?_ ?_ (Blk.new w 64 _) ?_ ?_); exact rfl; exact ⟨_, _, _, _, _, _, _, _, rfl⟩; exact rfl; intro cells hcells; obtain rfl := Value.agg.inj hcells; clear hcells)
  obtain ⟨x0, x1, x2, x3, x4, x5, x6, x7⟩ := ((Blk.new w 64 #[.int .i64 0, .bool false, .bool false, .int .i64 0, .int .i64 0, .int .i64 0, .int .i64 0, .int .i64 0]).row #[.int .i64 (-7 - (i : Int)), .bool false, .bool false, .int .i64 0, .int .i64 0, .int .i64 0, .int .i64 0, .int .i64 (i : Int)]).c8
  refine bodyPost_ret (v := .agg #[.int .i64 (-7 - (i : Int)), .bool false, .bool false, .int .i64 0, .int .i64 0, .int .i64 0, .int .i64 0, .int .i64 (i : Int)]) ?_ rfl ⟨rfl, (Ext.new _ _).row (Nat.le_refl _) _⟩
  simp [results, Try.results105, go_sem, x0, x1, x2, x3, x4, x5, x6, x7]

/-! ### several cells of a block turned -/
def putAll : List Value → Nat → List Value → List Value
  | l, _, [] => l
  | l, o, v :: vs => putAll (l.set o v) (o + 1) vs
theorem Blk.setCells {g : Nat} {t : TypeId} : ∀ (vs : List Value) (o : Nat) (l : List Value) (w : World), Blk w g t l.toArray → Blk (w.setCells g o vs) g t (putAll l o vs).toArray
  | [], _, _, _, h => h
  | v :: vs, o, l, w, h => by
    rw [World.setCells, putAll]
    refine Blk.setCells vs (o + 1) (l.set o v) _ ?_
    have := h.set_ o v
    rwa [List.setIfInBounds_toArray] at this
theorem putAll_append_right : ∀ (vs a b : List Value) (o : Nat), putAll (a ++ b) (a.length + o) vs = a ++ putAll b o vs
  | [], _, _, _ => rfl
  | v :: vs, a, b, o => by
    rw [putAll, putAll, List.set_append_right _ _ (by omega), Nat.add_sub_cancel_left, Nat.add_assoc]
    exact putAll_append_right vs a _ (o + 1)
theorem putAll_cover : ∀ (vs a b : List Value), a.length = vs.length → putAll (a ++ b) 0 vs = vs ++ b
  | [], a, b, h => by rw [List.eq_nil_of_length_eq_zero h]; rfl
  | v :: vs, [], b, h => by simp at h
  | v :: vs, x :: a, b, h => by
    rw [putAll]
    have e : (x :: a ++ b).set 0 v = [v] ++ (a ++ b) := rfl
    rw [e, show 0 + 1 = [v].length + 0 from rfl, putAll_append_right, putAll_cover vs a b (by simpa using h)]
    rfl
theorem putAll_cv : ∀ (rs : List Cd.Ins) (k : Nat) (x : Cd.Ins), k < rs.length → putAll (cv rs) (k * 8) (insC x).toList = cv (rs.set k x)
  | [], k, x, h => by simp at h
  | a :: rs, 0, x, _ => by
    have e : cv (a :: rs) = (insC a).toList ++ cv rs := rfl
    rw [e, Nat.zero_mul, putAll_cover (insC x).toList (insC a).toList (cv rs) rfl]
    rfl
  | a :: rs, k + 1, x, h => by
    have e : cv (a :: rs) = (insC a).toList ++ cv rs := rfl
    have e2 : cv ((a :: rs).set (k + 1) x) = (insC a).toList ++ cv (rs.set k x) := rfl
    rw [e, e2, show (k + 1) * 8 = (insC a).toList.length + k * 8 by rw [insC_size]; omega, putAll_append_right, putAll_cv rs k x (by simpa using h)]
theorem Kp.setCells {S : Nat → Prop} {w0 : World} {g : Nat} (hg : S g ∨ w0.heap.size ≤ g) : ∀ (vs : List Value) (o : Nat) (w : World), Kp S w0 w → Kp S w0 (w.setCells g o vs)
  | [], _, _, h => h
  | v :: vs, o, w, h => by
    rw [World.setCells]
    exact Kp.setCells hg vs (o + 1) _ (h.set ⟨g, o, none⟩ hg v)
theorem Blk.far_cells {g g' : Nat} {t : TypeId} {cs : Array Value} (hne : g ≠ g') : ∀ (vs : List Value) (o : Nat) (w : World), Blk w g t cs → Blk (w.setCells g' o vs) g t cs
  | [], _, _, h => h
  | v :: vs, o, w, h => by
    rw [World.setCells]
    exact Blk.far_cells hne vs (o + 1) _ (h.far (p := ⟨g', o, none⟩) hne v)

/-- the lender's room: its box, where the room lies, what lies there -/
def LC (w : World) (g : Nat) : Option Nat → List Cd.Ins → Prop
  | none, rs => rs = [] ∧ Blk w g 92 #[.slice none 0 0]
  | some r, rs => Blk w g 92 #[.slice (some ⟨r, 0, none⟩) rs.length rs.length] ∧ Blk w r 64 (cv rs).toArray
section
variable {w w' : World} {g r : Nat} {o : Option Nat} {rs : List Cd.Ins}
theorem LC.ne (h : LC w g (some r) rs) : r ≠ g := Ne.symm (Blk.ne_ h.1 h.2 (by decide))
theorem LC.keep {S : Nat → Prop} (h : LC w g o rs) (k : Kp S w w') (hS : ∀ b, LS g o b → ¬ S b) : LC w' g o rs := by
  cases o with
  | none => exact ⟨h.1, k.blk h.2 (hS _ (.inl rfl))⟩
  | some r => exact ⟨k.blk h.1 (hS _ (.inl rfl)), k.blk h.2 (hS _ (.inr rfl))⟩
theorem LC.ext (h : LC w g o rs) (k : Ext w w') : LC w' g o rs := h.keep (S := fun _ => False) (Kp.of_ext k) fun _ _ e => e
theorem LC.lt (h : LC w g o rs) : ∀ b, LS g o b → b < w.heap.size := by
  intro b hb
  cases o with
  | none =>
    rcases hb with rfl | hb
    · exact h.2.lt
    · cases hb
  | some r =>
    rcases hb with rfl | hb
    · exact h.1.lt
    · injection hb with hb
      subst hb
      exact h.2.lt
theorem LC.put (h : LC w g (some r) rs) {j : Nat} (hj : j < rs.length) (x : Cd.Ins) : LC (w.setCells r (j * 8) (insC x).toList) g (some r) (rs.set j x) := by
  have hne := h.ne
  refine ⟨?_, ?_⟩
  · rw [List.length_set]
    exact Blk.far_cells (Ne.symm hne) _ _ _ h.1
  · have := Blk.setCells (insC x).toList (j * 8) (cv rs) w h.2
    rwa [putAll_cv rs j x hj] at this
theorem LC.rd (h : LC w g (some r) rs) : Rd w 8 (some ⟨r, 0, none⟩) rs.length (cv rs) := by
  refine ⟨by rw [cv_length], fun _ => ⟨_, rfl, fun j u hj => ?_⟩⟩
  rw [show (⟨r, 0, none⟩ : Addr).add j = ⟨r, j, none⟩ by unfold Addr.add; split <;> simp_all, h.2.cell j]
  simpa using hj
theorem LC.cell (h : LC w g (some r) rs) {i : Nat} (hi : i < rs.length * 8) : ∃ u, w.cell? ⟨r, i, none⟩ = some u := by
  rw [h.2.cell i]
  exact ⟨(cv rs)[i]'(by rw [cv_length]; exact hi), by simp⟩
theorem LC.at_ (h : LC w g (some r) rs) {j : Nat} {x : Cd.Ins} (hj : rs[j]? = some x) : w.cell? ⟨r, j * 8, none⟩ = some (.int .i64 x.op) ∧ w.cell? ⟨r, j * 8 + 1, none⟩ = some (.bool x.narrow) ∧ w.cell? ⟨r, j * 8 + 2, none⟩ = some (.bool x.reg) ∧ w.cell? ⟨r, j * 8 + 3, none⟩ = some (.int .i64 x.size) ∧
    w.cell? ⟨r, j * 8 + 4, none⟩ = some (.int .i64 x.dst) ∧ w.cell? ⟨r, j * 8 + 5, none⟩ = some (.int .i64 x.src) ∧ w.cell? ⟨r, j * 8 + 6, none⟩ = some (.int .i64 x.off) ∧ w.cell? ⟨r, j * 8 + 7, none⟩ = some (.int .i64 x.imm) := by
  obtain ⟨hl, rfl⟩ := List.getElem?_eq_some_iff.1 hj
  have hc : ∀ i u, (cv rs)[i]? = some u → w.cell? ⟨r, 0 + i, none⟩ = some u := fun i u hu => by
    rw [Nat.zero_add, Blk.cell h.2 i]
    simpa using hu
  have := ins_cells hc hl
  simpa only [Nat.zero_add] using this
theorem LC.free (h : LC w g (some r) rs) (i : Nat) : w.frozen? ⟨r, i, none⟩ = false := Blk.free h.2 i
theorem LC.there (h : LC w g (some r) rs) {j : Nat} (hj : j < rs.length) : w.there r (j * 8) 8 := fun i hi => by
  obtain ⟨u, hu⟩ := h.cell (i := j * 8 + i) (by omega)
  exact ⟨by rw [hu]; rfl, h.2.free _⟩
end
theorem setC_next {rs l : List Cd.Ins} {m : Nat} {x : Cd.Ins} (h : rs.take m = l) (hm : m < rs.length) : (rs.set m x).take (m + 1) = l ++ [x] := by
  rw [List.take_succ_eq_append_getElem (by rw [List.length_set]; exact hm), List.take_set_of_le (Nat.le_refl _), h]
  simp


theorem cv_oneC (l : List Cd.Ins) : ∀ u ∈ cv l, u.oneCell' = true := by
  intro u hu
  obtain ⟨i, _, h⟩ := List.mem_flatMap.1 hu
  exact insC_one i u h
theorem cv_drop : ∀ (l : List Cd.Ins) (n : Nat), (cv l).drop (n * 8) = cv (l.drop n)
  | l, 0 => by simp
  | [], n + 1 => by simp [cv]
  | a :: l, n + 1 => by
    have e : cv (a :: l) = (insC a).toList ++ cv l := rfl
    rw [e, show (n + 1) * 8 = (insC a).toList.length + n * 8 by rw [insC_size]; omega, List.drop_append, List.drop_eq_nil_of_le (by omega), Nat.add_sub_cancel_left, cv_drop l n]
    rfl
theorem slice_lendC (r m n : Nat) (h : n ≤ m) (v : World) :
    Sem.run Try.prog (Instr.slice 57 (.slice (some ⟨r, 0, none⟩) m m) none (some (.int .i64 (n : Int))) none) v = .ok (.slice (some ⟨r, 0, none⟩) n m) v := by
  have h1 : (n : Int) ≤ (m : Int) := by omega
  simp [go_sem, Try.underlying57, h1]

theorem made_zeroC (n : Nat) : (madeCells (Value.agg #[.int .i64 0, .bool false, .bool false, .int .i64 0, .int .i64 0, .int .i64 0, .int .i64 0, .int .i64 0]).cells (n * 8)).toList = cv (List.replicate n Cd.I0) := by
  have hl : (cv (List.replicate n Cd.I0)).length = n * 8 := by rw [cv_length, List.length_replicate]
  apply List.ext_getElem?
  intro i
  by_cases hi : i < n * 8
  · have h1 := cv_get (List.replicate n Cd.I0) (i / 8) (i % 8) (by rw [List.length_replicate]; omega) (Nat.mod_lt _ (by omega))
    rw [show i / 8 * 8 + i % 8 = i by omega] at h1
    rw [h1]
    have h8 : i % 8 < 8 := Nat.mod_lt _ (by omega)
    have hmc : (madeCells (Value.agg #[.int .i64 0, .bool false, .bool false, .int .i64 0, .int .i64 0, .int .i64 0, .int .i64 0, .int .i64 0]).cells (n * 8)).toList[i]? = (#[Value.int .i64 0, .bool false, .bool false, .int .i64 0, .int .i64 0, .int .i64 0, .int .i64 0, .int .i64 0] : Array Value)[i % 8]? := by
      simp [madeCells, Value.cells, hi, h8]
    rw [hmc]
    simp [insC, Cd.I0]
  · rw [List.getElem?_eq_none (by simp [madeCells]; omega), List.getElem?_eq_none (by rw [hl]; omega)]
theorem own_blk64 {w : World} {base g n : Nat} {l : List Cd.Ins} (h : w.ownsRow base 64 8 (.slice (some ⟨g, 0, none⟩) n n) n (cv l)) : Blk w g 64 (cv l).toArray := by
  rcases h.2 with ⟨h1, h0⟩ | ⟨g', cap, cur, hv, _, hh, h4, h5, h6, h7⟩
  · injection h1 with h1; cases h1
  · injection hv with e1 e2 e3
    injection e1 with e1
    injection e1 with e1
    subst e1
    subst e3
    have : cur = (cv l).toArray := by
      rw [← h7, List.take_of_length_le (by rw [Array.length_toList, h6]; exact Nat.le_refl _)]
    rw [← this]
    exact hh

theorem run_copy_row8 (w : World) (dT sT ty elem : TypeId) (g dLen dCap : Nat) (a : Addr) (sLen sCap m : Nat) (cur : Array Value) (t : TypeId) (cs : List Value)
    (hu : Try.prog.underlying dT = some (.slice elem)) (hs : (Try.prog.info? elem).map (·.size) = some 8)
    (hg : w.heap[g]? = some (.cells cur t (0, 0))) (hm : Nat.min sLen dLen = m) (hn : cs.length = m * 8)
    (hsrc : ∀ j v, cs[j]? = some v → w.cell? (a.add j) = some v) (hfit : cs.length ≤ cur.size) (h1 : ∀ v ∈ cs, v.oneCell' = true) :
    (Builtin.copy_ #[dT, sT] ty #[.slice (some ⟨g, 0, none⟩) dLen dCap, .slice (some a) sLen sCap]).run Try.prog w =
      .ok (goInt m) (w.setRow g (cs ++ cur.toList.drop cs.length).toArray) := by
  have hl := run_loadCells_list (P := Try.prog) w a cs hsrc
  have hst := run_storeCells_at Try.prog g 0 t cs 0 cur w hg (by simpa using hfit) h1
  rw [hn] at hl
  cases hq : Try.prog.info? elem with
  | none => simp [hq] at hs
  | some i =>
    have hi : i.size = 8 := by simpa [hq] using hs
    simp [Builtin.copy_, run_underlying hu, Builtin.lenOf, Builtin.firstCells, sizeOf, typeInfo, hq, hi, hm, hl, hst]

theorem run_copy_none8 (w : World) (dT sT ty elem : TypeId) (d a : Option Addr) (dLen dCap sLen sCap : Nat) (hu : Try.prog.underlying dT = some (.slice elem)) (hs : (Try.prog.info? elem).map (·.size) = some 8) (hn : Nat.min sLen dLen = 0) :
    (Builtin.copy_ #[dT, sT] ty #[.slice d dLen dCap, .slice a sLen sCap]).run Try.prog w = .ok (goInt 0) w := by
  have h1 : ∀ p : Addr, (loadCells p 0).run Try.prog w = .ok #[] w := fun p => by simpa using run_loadCells_list (P := Try.prog) w p [] (by simp)
  cases hq : Try.prog.info? elem with
  | none => simp [hq] at hs
  | some i =>
    have hi : i.size = 8 := by simpa [hq] using hs
    cases d <;> cases a <;> simp [Builtin.copy_, run_underlying hu, Builtin.lenOf, Builtin.firstCells, sizeOf, typeInfo, hq, hi, hn, h1, storeCells]

/-- copy into the room -/
theorem wl_copyC {ops : Array Oper} {rest : List Oper} {dst : Option Tmp} {ty : TypeId} {ps : String} {af : Array Edge} {a : Act} {w : World} {Q : Exit → Act → World → Prop} (d s : Operand)
    (r dLen dCap : Nat) (A : Option Addr) (n c : Nat) (hd : a.eval d = .slice (some ⟨r, 0, none⟩) dLen dCap) (hs : a.eval s = .slice A n c)
    (rs l : List Cd.Ins) (hg : Blk w r 64 (cv rs).toArray) (hR : Rd w 8 A n (cv l)) (hl : l.length = n) (hn : n ≤ dLen) (hr : dLen = rs.length)
    (h : ∀ w', Blk w' r 64 (cv (l ++ rs.drop n)).toArray → Kp (fun b => b = r) w w' → wpList Try.prog ops Q rest (a.put dst (.int .i64 (n : Int))) w') :
    wpList Try.prog ops Q (⟨dst, .call { callee := .builtin .copy, args := #[d, s], argTypes := #[57, 57] }, ty, ps, af, none⟩ :: rest) a w := by
  have hcl : (cv l).length = n * 8 := by rw [cv_length, hl]
  refine wpList_plain rfl fun K hK => ?_
  have hmin : Nat.min n dLen = n := Nat.min_eq_left hn
  by_cases h0 : n = 0
  · have hrun := run_copy_none8 w 57 57 ty 64 (some ⟨r, 0, none⟩) A dLen dCap n c Try.underlying57 (by kernel_rfl) (by rw [hmin, h0])
    obtain rfl : l = [] := List.eq_nil_of_length_eq_zero (by omega)
    unfold Oper.wp
    simp [execOp, resolve, invoke, builtin, hd, hs, hrun, Result.andThen]
    subst h0
    exact hK _ _ (h w (by simpa [cv] using hg) (Kp.refl w))
  · obtain ⟨ad, rfl, hsrc⟩ := hR.2 (by omega)
    have hrun := run_copy_row8 w 57 57 ty 64 r dLen dCap ad n c n (cv rs).toArray 64 (cv l) Try.underlying57 (by kernel_rfl) hg hmin hcl hsrc (by rw [List.size_toArray, cv_length, cv_length]; omega) (cv_oneC l)
    have e : (cv l ++ (cv rs).toArray.toList.drop (cv l).length) = cv (l ++ rs.drop n) := by
      rw [cv_append, hcl]
      show cv l ++ (cv rs).drop (n * 8) = _
      rw [cv_drop]
    rw [e] at hrun
    unfold Oper.wp
    simp [execOp, resolve, invoke, builtin, hd, hs, hrun, Result.andThen]
    exact hK _ _ (h _ (setRow_heap w r _ _ 64 _ hg) (Kp.row (S := fun b => b = r) (Kp.refl w) (.inl rfl) _))

end Go.Proofs.Ytfcbedkidjclhaa
namespace Go.Proofs.Ytfcbedkidjclhaa
open Go.RowKit
set_option maxRecDepth 100000
set_option linter.unusedSimpArgs false
set_option linter.unusedVariables false

/-- a room that is lent -/
def LendCPost (n : Nat) (l : List Cd.Ins) (g : Nat) (o : Option Nat) (w : World) (e : Ending) (w' : World) : Prop :=
  ∃ r rs, e = .returned (.slice (some ⟨r, 0, none⟩) n rs.length) ∧ (o = some r ∨ w.heap.size ≤ r) ∧ LC w' g (some r) rs ∧ rs.length ≤ 100000000 ∧ 2 * n + 70 ≤ rs.length ∧ rs.take (2 * n + 70) = l ++ mksC (n + 70) ∧ Kp (LS g o) w w'

set_option maxHeartbeats 2000000 in
theorem LendC_any (g : Nat) (o : Option Nat) (rs : List Cd.Ins) (A : Option Addr) (n c : Nat) (l : List Cd.Ins) (w : World) (hL : LC w g o rs) (hR : Rd w 8 A n (cv l)) (hA : 0 < n → ∀ ad, A = some ad → ¬ LS g o ad.block) (hn : n ≤ 10000000) (hrs : rs.length ≤ 100000000) :
    Calls Try.prog 59 #[.pointer (some ⟨g, 0, none⟩), .slice A n c] w (LendCPost n l g o w) := by
  have hl : l.length = n := by have := hR.1; rw [cv_length] at this; omega
  obtain ⟨R, hB, hcap⟩ : ∃ R : Option Addr, Blk w g 92 #[.slice R rs.length rs.length] ∧ (R = o.map fun r => ⟨r, 0, none⟩) := by
    cases o with
    | none => obtain ⟨rfl, h⟩ := hL; exact ⟨none, h, rfl⟩
    | some r => exact ⟨_, hL.1, rfl⟩
  have b0 := hB.c1
  obtain ⟨i0, hi0, hz0, hz1, hz2⟩ := info_parts info64
  obtain ⟨t, ht⟩ : ∃ t, decide ((rs.length : Int) < 2 * (n : Int) + 70) = t := ⟨_, rfl⟩
  go_enter Try.func59, Try.ntmps59
  go_upto_if 17 with (fail)
  go_cut [] from 18 to 24 (fun W => ∃ r rs1, (o = some r ∨ w.heap.size ≤ r) ∧ LC W g (some r) rs1 ∧ rs1.length ≤ 100000000 ∧ 2 * n + 70 ≤ rs1.length ∧ Kp (LS g o) w W)
  case first =>
    cases t with
    | true =>
      have hs : rs.length < 2 * n + 70 := by have := of_decide_eq_true ht; omega
      go_wp2_with (at_make; refine wpList_make_full _ rfl (.tmp 21) (.tmp 21) 57 rfl w.heap.size 64 i0 _ 8 Try.underlying57 hi0 hz0 hz1 .i64 .i64 (4 * (n : Int) + 200) (4 * (n : Int) + 200) (4 * n + 200) rfl rfl (by omega) (by omega) (by rw [hz2]; omega) (by unfold maxLen; omega) (Nat.le_refl _) ?_; intro w1 hown1 hg1; rw [made_zeroC] at hown1; have hX1 : Ext w w1 := (Ext.refl w).grown hg1 (by simp); have b1 := (hB.ext hX1).c1; have f1 := (hB.ext hX1).free 0)
      go_meet
      case rel =>
        have hb1 := own_blk64 hown1
        have hB1 := hB.ext hX1
        have hlt := hB.lt
        refine ⟨w.heap.size, List.replicate (4 * n + 200) Cd.I0, .inr (Nat.le_refl _), ⟨?_, ?_⟩, ?_, ?_, ?_⟩
        · rw [List.length_replicate]
          exact hB1.set_ 0 _
        · exact hb1.far (p := ⟨g, 0, none⟩) (by simp only; omega) _
        · rw [List.length_replicate]; omega
        · rw [List.length_replicate]; omega
        · exact (Kp.of_ext hX1).set ⟨g, 0, none⟩ (.inl (.inl rfl)) _
    | false =>
      have hs : ¬ rs.length < 2 * n + 70 := by have := of_decide_eq_false ht; omega
      go_wp2
      go_meet
      case rel =>
        cases o with
        | none => obtain ⟨rfl, _⟩ := hL; simp at hs
        | some r => exact ⟨r, rs, .inl rfl, hL, hrs, by omega, Kp.refl w⟩
  case rest =>
    obtain ⟨r, rs1, hor, hL1, hm1, hm2, hK1⟩ := hcut
    clear ht b0 hL hB hcap
    have hR1 : Rd wc 8 A n (cv l) := hK1.rd0 hR hA
    have r0 := hL1.1.c1
    have hne := hL1.ne
    go_upto_region 5 with (refine wl_copyC (.tmp 28) (.tmp 29) r rs1.length rs1.length A n c rfl rfl rs1 l hL1.2 hR1 hl (by omega) rfl ?_; intro w2 hB2 hK2)
    have hLn : (l ++ rs1.drop n).length = rs1.length := by rw [List.length_append, List.length_drop]; omega
    have hL2 : LC w2 g (some r) (l ++ rs1.drop n) := ⟨by rw [hLn]; exact hK2.blk hL1.1 (Ne.symm hne), hB2⟩
    have hS2 : ∀ i, i < w.heap.size → i = r → LS g o i := fun i hi e => by
      rcases hor with h1 | h1
      · exact .inr (by rw [e]; exact h1)
      · omega
    have hK12 : Kp (LS g o) w w2 := hK1.trans hK2 hS2
    have hset : LS g o r ∨ w.heap.size ≤ r := hor.imp .inr id
    have htk : (l ++ rs1.drop n).take (n + 0) = l ++ mksC 0 := by simp [mksC, ← hl]
    clear hK1 hK2 hB2 hR1 hL1 r0
    go_wp2
    go_loopw [6] (fun i wr => ∃ (k : Nat) (rs2 : List Cd.Ins), i = .int .i64 k ∧ k ≤ n + 70 ∧ rs2.length = rs1.length ∧ LC wr g (some r) rs2 ∧ Hid (rs2.take (n + k) = l ++ mksC k) ∧ Kp (LS g o) w wr) (fun i _ => n + 70 - (intOf i).toNat)
    case atStart => exact ⟨0, _, rfl, by omega, hLn, hL2, hd htk, hK12⟩
    case round =>
      obtain ⟨k, rs2, rfl, hk, hlen, hLR, HT, hKp⟩ := hrel
      have q0 := hLR.1.c1
      rw [hlen] at q0
      by_cases hlt : k < n + 70
      · have e1 : (k : Int) < (n : Int) + 70 := by omega
        have hw1 : IntKind.i64.wrap ((n : Int) + (k : Int)) = (n : Int) + (k : Int) := by rw [IntKind.wrap_i64]; omega
        have i0 : 0 ≤ (n : Int) + (k : Int) := by omega
        have i1 : (n : Int) + (k : Int) < (rs1.length : Int) := by omega
        have i2 : ((n : Int) + (k : Int)).toNat = n + k := by omega
        have hnk : n + k < rs2.length := by omega
        go_upto_region 8 with (fail)
        go_region_law ((go_simp; go_at_call 105; with_reducible refine (markC_any k (by omega) _).mono ?_; rintro e' w5 ⟨rfl, hX5⟩; have hX5' : Ext wr w5 := (Ext.of_drew hX5); have q05 := hX5'.cell q0; have hLR5 := hLR.ext hX5'; obtain ⟨u0, hu0⟩ := hLR5.cell (i := (n + k) * 8) (by omega); obtain ⟨u1, hu1⟩ := hLR5.cell (i := (n + k) * 8 + 1) (by omega); obtain ⟨u2, hu2⟩ := hLR5.cell (i := (n + k) * 8 + 2) (by omega); obtain ⟨u3, hu3⟩ := hLR5.cell (i := (n + k) * 8 + 3) (by omega); obtain ⟨u4, hu4⟩ := hLR5.cell (i := (n + k) * 8 + 4) (by omega); obtain ⟨u5, hu5⟩ := hLR5.cell (i := (n + k) * 8 + 5) (by omega); obtain ⟨u6, hu6⟩ := hLR5.cell (i := (n + k) * 8 + 6) (by omega); obtain ⟨u7, hu7⟩ := hLR5.cell (i := (n + k) * 8 + 7) (by omega); have fz0 := hLR5.free ((n + k) * 8); have fz1 := hLR5.free ((n + k) * 8 + 1); have fz2 := hLR5.free ((n + k) * 8 + 2); have fz3 := hLR5.free ((n + k) * 8 + 3); have fz4 := hLR5.free ((n + k) * 8 + 4); have fz5 := hLR5.free ((n + k) * 8 + 5); have fz6 := hLR5.free ((n + k) * 8 + 6); have fz7 := hLR5.free ((n + k) * 8 + 7)))
        all_goals (
          have hL8 := hLR5.put (j := n + k) (by omega) (mkC k)
          have hK8 := Kp.setCells (S := LS g o) (w0 := w) hset (insC (mkC k)).toList ((n + k) * 8) w5 (hKp.then_ext hX5')
          have hnx : (rs2.set (n + k) (mkC k)).take (n + (k + 1)) = l ++ mksC (k + 1) := by
            rw [mksC_succ, ← List.append_assoc, ← Nat.add_assoc]
            exact setC_next HT.out (by omega)
          go_wp2
          go_roundw
          case rel => exact ⟨k + 1, rs2.set (n + k) (mkC k), by go_num, by omega, by rw [List.length_set]; exact hlen, hL8, hd hnx, hK8⟩
          case measure => simp [intOf]; omega)
      · obtain rfl : k = n + 70 := by omega
        have e1 : ¬ ((n + 70 : Nat) : Int) < (n : Int) + 70 := by omega
        have hsl := slice_lendC r rs1.length n (by omega) wr
        go_wp2
        go_ret
        refine ⟨r, rs2, by rw [hlen]; rfl, hor, hLR, by omega, by omega, ?_, hKp⟩
        have := HT.out
        rwa [show n + (n + 70) = 2 * n + 70 by omega] at this

theorem eqlC (k : Int) (w : World) : (binOp .eql 64 (.agg #[.int .i64 (-7 - k), .bool false, .bool false, .int .i64 0, .int .i64 0, .int .i64 0, .int .i64 0, .int .i64 k]) (.agg #[.int .i64 (-7 - k), .bool false, .bool false, .int .i64 0, .int .i64 0, .int .i64 0, .int .i64 0, .int .i64 k])).run Try.prog w = .ok (.bool true) w := by
  have hp : Try.prog.stoodInHeld 64 = false := by kernel_rfl
  simp [go_sem, Try.underlying64, Try.underlying3, Try.underlying4, hp]
theorem takeC_get {l m : List Cd.Ins} {k j : Nat} (h : l.take k = m) (hj : j < k) : l[j]? = m[j]? := by
  rw [← h, List.getElem?_take_of_lt hj]

def BackCPost (g r m : Nat) (w : World) (e : Ending) (w' : World) : Prop :=
  e = .returned (.bool true) ∧ ∃ rs, rs.length = m ∧ LC w' g (some r) rs ∧ Kp (LS g (some r)) w w'

/-- what was lent reads as it was -/
theorem lendC_rd {w : World} {g r n : Nat} {rs l : List Cd.Ins} (h : LC w g (some r) rs) (hn : l.length = n) (h1 : 2 * n + 70 ≤ rs.length) (ht : rs.take (2 * n + 70) = l ++ mksC (n + 70)) : Rd w 8 (some ⟨r, 0, none⟩) n (cv l) := by
  have h3 := h.rd.take (k := n) (by omega)
  have h4 : rs = l ++ rs.drop n := by
    have h5 := congrArg (List.take n) ht
    rw [List.take_take, Nat.min_eq_left (by omega), List.take_left' hn] at h5
    rw [← h5, List.take_append_drop]
  rw [h4, cv_append, List.take_left' (by rw [cv_length, hn])] at h3
  exact h3

set_option maxHeartbeats 4000000 in
theorem BackC_any (g r : Nat) (rs : List Cd.Ins) (A : Option Addr) (n c : Nat) (l : List Cd.Ins) (w : World) (hL : LC w g (some r) rs) (hm : rs.take (2 * n + 70) = l ++ mksC (n + 70)) (h1 : 2 * n + 70 ≤ rs.length) (h2 : rs.length ≤ 100000000)
    (hR : Rd w 8 A n (cv l)) (hn : n ≤ 10000000) :
    Calls Try.prog 65 #[.pointer (some ⟨g, 0, none⟩), .slice A n c] w (BackCPost g r rs.length w) := by
  have hl : l.length = n := by have := hR.1; rw [cv_length] at this; omega
  have q0 := hL.1.c1
  have hsl := slice_lendC r rs.length n (by omega) w
  have hR2 := lendC_rd hL hl h1 hm
  have hmk : ∀ k, k < n + 70 → rs[n + k]? = some (mkC k) := fun k hk => by
    rw [takeC_get hm (by omega), List.getElem?_append_right (by omega), hl, Nat.add_sub_cancel_left]
    exact mksC_get hk
  have HMK := hd hmk
  clear hmk hm
  go_enter Try.func65, Try.ntmps65
  go_upto_region 3 with (go_at_call 87; (with_reducible refine (SameCode_any _ _ n n _ _ l l _ hR2 hR (by omega) (by omega)).mono ?_); rintro e v ⟨b, hb, rfl, hXv⟩; obtain rfl : b = true := hb.mpr rfl)
  have hLv := hL.ext hXv
  clear hR hR2 hsl
  go_wp2
  go_loopw [6, 7] (fun ok i wr => ∃ (k : Nat), ok = .bool true ∧ i = .int .i64 k ∧ k ≤ n + 70 ∧ Ext w wr) (fun _ i _ => n + 70 - (intOf i).toNat)
  case atStart => exact ⟨0, rfl, rfl, by omega, hXv⟩
  case round =>
    obtain ⟨k, rfl, rfl, hk, hX⟩ := hrel
    obtain ⟨wq, hwq⟩ : ∃ wq, wq = wr := ⟨_, rfl⟩
    subst hwq
    have hLq := hL.ext hX
    have p0 := hLq.1.c1
    by_cases hlt : k < n + 70
    · have e1 : (k : Int) < (n : Int) + 70 := by omega
      obtain ⟨c0, c1, c2, c3, c4, c5, c6, c7⟩ := hLq.at_ (HMK.out k hlt)
      simp only [mkC] at c0 c1 c2 c3 c4 c5 c6 c7
      have hw1 : IntKind.i64.wrap ((n : Int) + (k : Int)) = (n : Int) + (k : Int) := by rw [IntKind.wrap_i64]; omega
      have i0 : 0 ≤ (n : Int) + (k : Int) := by omega
      have i1 : (n : Int) + (k : Int) < (rs.length : Int) := by omega
      have i2 : ((n : Int) + (k : Int)).toNat = n + k := by omega
      have hq := eqlC (k : Int)
      go_upto_region 6 with (fail)
      go_region_held3 (fun w' => w'.cell? ⟨g, 0, none⟩ = some (.slice (some ⟨r, 0, none⟩) rs.length rs.length) ∧ w'.cell? ⟨r, (n + k) * 8, none⟩ = some (.int .i64 (-7 - (k : Int))) ∧ w'.cell? ⟨r, (n + k) * 8 + 1, none⟩ = some (.bool false) ∧ w'.cell? ⟨r, (n + k) * 8 + 2, none⟩ = some (.bool false) ∧ w'.cell? ⟨r, (n + k) * 8 + 3, none⟩ = some (.int .i64 0) ∧ w'.cell? ⟨r, (n + k) * 8 + 4, none⟩ = some (.int .i64 0) ∧ w'.cell? ⟨r, (n + k) * 8 + 5, none⟩ = some (.int .i64 0) ∧ w'.cell? ⟨r, (n + k) * 8 + 6, none⟩ = some (.int .i64 0) ∧ w'.cell? ⟨r, (n + k) * 8 + 7, none⟩ = some (.int .i64 (k : Int)))
        (first | exact ⟨p0, c0, c1, c2, c3, c4, c5, c6, c7⟩ | exact ⟨q05, d0, d1, d2, d3, d4, d5, d6, d7⟩ | go_keep)
        (first | (go_at_call 105; (with_reducible refine (markC_any k (by omega) _).mono ?_); rintro e' w5 ⟨rfl, hX5⟩; have hX5' : Ext wq w5 := (Ext.of_drew hX5); have q05 := hX5'.cell p0; have d0 := hX5'.cell c0; have d1 := hX5'.cell c1; have d2 := hX5'.cell c2; have d3 := hX5'.cell c3; have d4 := hX5'.cell c4; have d5 := hX5'.cell c5; have d6 := hX5'.cell c6; have d7 := hX5'.cell c7))
      all_goals (
        go_wp2
        go_roundw
        case rel => exact ⟨k + 1, by simp, by go_num, by omega, hX.trans hX5'⟩
        case measure => simp [intOf]; omega)
    · have e1 : ¬ (k : Int) < (n : Int) + 70 := by omega
      go_wp2
      go_loopw [8] (fun i wr => ∃ (k : Nat) (rs2 : List Cd.Ins), i = .int .i64 k ∧ k ≤ n ∧ rs2.length = rs.length ∧ LC wr g (some r) rs2 ∧ Kp (LS g (some r)) w wr) (fun i _ => n - (intOf i).toNat)
      case atStart => exact ⟨0, rs, rfl, by omega, rfl, hLq, Kp.of_ext hX⟩
      case round =>
        obtain ⟨j, rs2, rfl, hj, hlen, hLR, hKp⟩ := hrel
        have q1 := hLR.1.c1
        rw [hlen] at q1
        by_cases hlt2 : j < n
        · have e2 : (j : Int) < (n : Int) := by omega
          have i1 : (j : Int) < (rs.length : Int) := by omega
          have hj2 : j < rs2.length := by omega
          obtain ⟨u0, hu0⟩ := hLR.cell (i := j * 8) (by omega)
          obtain ⟨u1, hu1⟩ := hLR.cell (i := j * 8 + 1) (by omega)
          obtain ⟨u2, hu2⟩ := hLR.cell (i := j * 8 + 2) (by omega)
          obtain ⟨u3, hu3⟩ := hLR.cell (i := j * 8 + 3) (by omega)
          obtain ⟨u4, hu4⟩ := hLR.cell (i := j * 8 + 4) (by omega)
          obtain ⟨u5, hu5⟩ := hLR.cell (i := j * 8 + 5) (by omega)
          obtain ⟨u6, hu6⟩ := hLR.cell (i := j * 8 + 6) (by omega)
          obtain ⟨u7, hu7⟩ := hLR.cell (i := j * 8 + 7) (by omega)
          have fz0 := hLR.free (j * 8)
          have fz1 := hLR.free (j * 8 + 1)
          have fz2 := hLR.free (j * 8 + 2)
          have fz3 := hLR.free (j * 8 + 3)
          have fz4 := hLR.free (j * 8 + 4)
          have fz5 := hLR.free (j * 8 + 5)
          have fz6 := hLR.free (j * 8 + 6)
          have fz7 := hLR.free (j * 8 + 7)
          have hL8 := hLR.put (j := j) hj2 ⟨-3, false, false, 0, 0, 0, 0, 0⟩
          have hK8 := Kp.setCells (S := LS g (some r)) (w0 := w) (.inl (.inr rfl)) (insC ⟨-3, false, false, 0, 0, 0, 0, 0⟩).toList (j * 8) wr hKp
          go_wp2
          go_roundw
          case rel => exact ⟨j + 1, rs2.set j ⟨-3, false, false, 0, 0, 0, 0, 0⟩, by go_num, by omega, by rw [List.length_set]; exact hlen, hL8, hK8⟩
          case measure => simp [intOf]; omega
        · have e2 : ¬ (j : Int) < (n : Int) := by omega
          go_wp2
          go_ret
          exact ⟨rfl, rs2, hlen, hLR, hKp⟩

end Go.Proofs.Ytfcbedkidjclhaa
namespace Go.Proofs.Ytfcbedkidjclhaa
open Go.RowKit
set_option maxRecDepth 100000
set_option linter.unusedSimpArgs false
set_option linter.unusedVariables false

/-- a room of instructions that is lent -/
structure LtC (wr W : World) (g : Nat) (o : Option Nat) (n : Nat) (l : List Cd.Ins) (r : Nat) (rs : List Cd.Ins) : Prop where
  lr : LC W g (some r) rs
  or_ : o = some r ∨ wr.heap.size ≤ r
  m1 : rs.length ≤ 100000000
  k1 : 2 * n + 70 ≤ rs.length
  t1 : rs.take (2 * n + 70) = l ++ mksC (n + 70)
theorem LtC.keep {S : Nat → Prop} {wr W W' : World} {g : Nat} {o : Option Nat} {n : Nat} {l : List Cd.Ins} {r : Nat} {rs : List Cd.Ins} (h : LtC wr W g o n l r rs) (k : Kp S W W') (hS : ∀ b, LS g (some r) b → ¬ S b) : LtC wr W' g o n l r rs := ⟨h.lr.keep k hS, h.or_, h.m1, h.k1, h.t1⟩
theorem LtC.ext {wr W W' : World} {g : Nat} {o : Option Nat} {n : Nat} {l : List Cd.Ins} {r : Nat} {rs : List Cd.Ins} (h : LtC wr W g o n l r rs) (k : Ext W W') : LtC wr W' g o n l r rs := ⟨h.lr.ext k, h.or_, h.m1, h.k1, h.t1⟩
theorem LtC.rd {wr W : World} {g : Nat} {o : Option Nat} {n : Nat} {l : List Cd.Ins} {r : Nat} {rs : List Cd.Ins} (h : LtC wr W g o n l r rs) (hn : l.length = n) : Rd W 8 (some ⟨r, 0, none⟩) n (cv l) := lendC_rd h.lr hn h.k1 h.t1
theorem LendCPost.lt {n : Nat} {l : List Cd.Ins} {g : Nat} {o : Option Nat} {wr W0 w' : World} {e : Ending} (h : LendCPost n l g o W0 e w') (hE : Ext wr W0) :
    ∃ r rs, e = .returned (.slice (some ⟨r, 0, none⟩) n rs.length) ∧ LtC wr w' g o n l r rs ∧ Kp (LS g o) wr w' ∧ (o = some r ∨ W0.heap.size ≤ r) := by
  obtain ⟨r, rs, h1, h2, h3, h4, h5, h6, h7⟩ := h
  exact ⟨r, rs, h1, ⟨h3, h2.imp id fun h => Nat.le_trans hE.size h, h4, h5, h6⟩, Kp.from_ext hE h7, h2⟩
theorem LendCPost.kp {n : Nat} {l : List Cd.Ins} {g : Nat} {o : Option Nat} {wr W0 w' : World} {e : Ending} (h : LendCPost n l g o W0 e w') (hE : Ext wr W0) : Kp (LS g o) wr w' := by
  obtain ⟨r, rs, h1, h2, h3, h4, h5, h6, h7⟩ := h
  exact Kp.from_ext hE h7
theorem LC.alloc_ {w : World} {g : Nat} {o : Option Nat} {rs : List Cd.Ins} (h : LC w g o rs) (x : Obj) : LC (w.alloc x) g o rs := h.ext (Ext.new _ _)

/-- what is known of two lenders -/
structure LeC (wr : World) (gd gc : Nat) (od oc : Option Nat) (rd : List UInt8) (rc : List Cd.Ins) : Prop where
  ld : LR wr gd od rd
  lc : LC wr gc oc rc
  md : rd.length ≤ 1000000000
  mc : rc.length ≤ 100000000
  sep : ∀ b, LS gd od b → ¬ LS gc oc b
theorem LeC.ext {wr W : World} {gd gc : Nat} {od oc : Option Nat} {rd : List UInt8} {rc : List Cd.Ins} (h : LeC wr gd gc od oc rd rc) (k : Ext wr W) : LeC W gd gc od oc rd rc := ⟨h.ld.ext k, h.lc.ext k, h.md, h.mc, h.sep⟩

/-- the container handed in -/
structure GvC (wr W : World) (gd gc : Nat) (od oc : Option Nat) (lo hi : Int) (n1 n2 n3 : Nat) (data : List UInt8) (code : List Cd.Ins) (ts : List (Int × Int)) (gq r1 r3 : Nat) (rs1 : List UInt8) (rs3 : List Cd.Ins) (E2 : Option Addr) (g2 : Nat) : Prop where
  kp : Kp (fun b => LS gd od b ∨ LS gc oc b) wr W
  ld : Lt wr W gd od n1 data r1 rs1
  lc : LtC wr W gc oc n3 code r3 rs3
  sep : ∀ b, LS gd (some r1) b → ¬ LS gc (some r3) b
  bq : Blk W gq 90 #[.int .i64 lo, .int .i64 hi, .slice (some ⟨r1, 0, none⟩) n1 rs1.length, .slice E2 n2 g2, .slice (some ⟨r3, 0, none⟩) n3 rs3.length]
  qn : wr.heap.size ≤ gq
  rt : Rd W 2 E2 n2 (tv ts)

/-- behind the three calls -/
structure CaC (wr W : World) (gd gc : Nat) (od oc : Option Nat) (n1 n2 n3 : Nat) (data : List UInt8) (code : List Cd.Ins) (ts : List (Int × Int)) (r1 r3 : Nat) (rs1 : List UInt8) (rs3 : List Cd.Ins) (E2 : Option Addr) (g2 : Nat) : Prop where
  kp : Kp (fun b => LS gd od b ∨ LS gc oc b) wr W
  ld : Lt wr W gd od n1 data r1 rs1
  lc : LtC wr W gc oc n3 code r3 rs3
  sep : ∀ b, LS gd (some r1) b → ¬ LS gc (some r3) b
  own : W.ownsRow wr.heap.size 54 2 (.slice E2 n2 g2) n2 (tv ts)

section
variable {wr W : World} {gd gc : Nat} {od oc : Option Nat} {n1 n2 n3 : Nat} {data : List UInt8} {code : List Cd.Ins} {ts : List (Int × Int)} {r1 r3 : Nat} {rs1 : List UInt8} {rs3 : List Cd.Ins} {E2 : Option Addr} {g2 : Nat} {lo hi : Int}
theorem CaC.alloc (h : CaC wr W gd gc od oc n1 n2 n3 data code ts r1 r3 rs1 rs3 E2 g2) :
    GvC wr (W.alloc (.cells #[.int .i64 lo, .int .i64 hi, .slice (some ⟨r1, 0, none⟩) n1 rs1.length, .slice E2 n2 g2, .slice (some ⟨r3, 0, none⟩) n3 rs3.length] 90)) gd gc od oc lo hi n1 n2 n3 data code ts W.heap.size r1 r3 rs1 rs3 E2 g2 :=
  ⟨h.kp.alloc _, h.ld.ext (Ext.new _ _), h.lc.ext (Ext.new _ _), h.sep, Blk.new _ _ _, h.kp.size, (Rd.of_own h.own).alloc _⟩
theorem CaC.box (h : CaC wr W gd gc od oc n1 n2 n3 data code ts r1 r3 rs1 rs3 E2 g2) {g : Nat} {a b c d e : Value} (hg : wr.heap.size ≤ g) (hB : Blk W g 90 #[a, b, c, d, e]) :
    GvC wr (((((W.setCell ⟨g, 0, none⟩ (.int .i64 lo)).setCell ⟨g, 1, none⟩ (.int .i64 hi)).setCell ⟨g, 2, none⟩ (.slice (some ⟨r1, 0, none⟩) n1 rs1.length)).setCell ⟨g, 3, none⟩ (.slice E2 n2 g2)).setCell ⟨g, 4, none⟩ (.slice (some ⟨r3, 0, none⟩) n3 rs3.length)) gd gc od oc lo hi n1 n2 n3 data code ts g r1 r3 rs1 rs3 E2 g2 := by
  have hK : Kp (fun b => b = g) W (((((W.setCell ⟨g, 0, none⟩ (.int .i64 lo)).setCell ⟨g, 1, none⟩ (.int .i64 hi)).setCell ⟨g, 2, none⟩ (.slice (some ⟨r1, 0, none⟩) n1 rs1.length)).setCell ⟨g, 3, none⟩ (.slice E2 n2 g2)).setCell ⟨g, 4, none⟩ (.slice (some ⟨r3, 0, none⟩) n3 rs3.length)) := Kp.s5 (S := fun b => b = g) (Kp.refl W) rfl _ _ _ _ _
  have n1' : ∀ b, LS gd (some r1) b → ¬ b = g := by
    rintro b (rfl | hb) rfl
    · exact Blk.ne_ h.ld.lr.1 hB (by decide) rfl
    · injection hb with hb; subst hb; exact Blk.ne_ h.ld.lr.2 hB (by decide) rfl
  have n3' : ∀ b, LS gc (some r3) b → ¬ b = g := by
    rintro b (rfl | hb) rfl
    · exact Blk.ne_ h.lc.lr.1 hB (by decide) rfl
    · injection hb with hb; subst hb; exact Blk.ne_ h.lc.lr.2 hB (by decide) rfl
  exact ⟨h.kp.trans hK fun i hi e => by omega, h.ld.keep hK n1', h.lc.keep hK n3', h.sep, hB.s5 _ _ _ _ _, hg,
    Rd.of_own (hK.own h.own fun k e1 e2 => own_blk_ne h.own hB (by decide) (by rw [e1, e2]))⟩

theorem LeC.lt1 {rd : List UInt8} {rc : List Cd.Ins} (h : LeC wr gd gc od oc rd rc) : ∀ b, LS gd od b → b < wr.heap.size := h.ld.lt
theorem LeC.lt2 {rd : List UInt8} {rc : List Cd.Ins} (h : LeC wr gd gc od oc rd rc) : ∀ b, LS gc oc b → b < wr.heap.size := h.lc.lt

/-- the third call, behind the first and the copy of the tables -/
theorem ca_mkC {rd : List UInt8} {rc : List Cd.Ins} (h : LeC wr gd gc od oc rd rc) {w1 w2 W2 w3 : World} (hK1 : Kp (LS gd od) wr w1) (hL1 : Lt wr w1 gd od n1 data r1 rs1) (hX2 : Ext w1 w2) (own2 : w2.ownsRow w1.heap.size 54 2 (.slice E2 n2 g2) n2 (tv ts)) (hX : Ext w2 W2)
    (hK3 : Kp (LS gc oc) W2 w3) (hL3 : LtC W2 w3 gc oc n3 code r3 rs3) : CaC wr w3 gd gc od oc n1 n2 n3 data code ts r1 r3 rs1 rs3 E2 g2 := by
  have s1 := hK1.size
  have s2 := hX2.size
  have s3 := hX.size
  have hK23 : Kp (LS gc oc) w2 w3 := Kp.from_ext hX hK3
  have hK13 : Kp (LS gc oc) w1 w3 := Kp.from_ext hX2 hK23
  have hr1 : r1 < w1.heap.size := hL1.lr.2.lt
  have sp1 : ∀ b, LS gd (some r1) b → ¬ LS gc oc b := by
    rintro b (rfl | hb) hc
    · exact h.sep _ (.inl rfl) hc
    · injection hb with hb
      subst hb
      rcases hL1.or_ with ho | ho
      · exact h.sep _ (.inr ho) hc
      · have := h.lt2 _ hc; omega
  have hor := hL3.or_
  refine ⟨?_, hL1.keep hK13 sp1, ⟨hL3.lr, hor.imp id fun h => by omega, hL3.m1, hL3.k1, hL3.t1⟩, ?_, ?_⟩
  · exact (hK1.mono (T := fun b => LS gd od b ∨ LS gc oc b) fun _ _ e => .inl e).trans hK13 fun _ _ e => .inr e
  · rintro b hb (rfl | hc)
    · exact sp1 _ hb (.inl rfl)
    · injection hc with hc
      subst hc
      rcases hor with ho | ho
      · exact sp1 _ hb (.inr ho)
      · have h4 := hL1.lr.lt _ hb
        omega
  · refine hK23.own (own_base own2 s1) fun k e1 e2 => ?_
    have h5 := (own2.lt k e1).1
    have h6 := h.lt2 k e2
    omega
end


end Go.Proofs.Ytfcbedkidjclhaa
