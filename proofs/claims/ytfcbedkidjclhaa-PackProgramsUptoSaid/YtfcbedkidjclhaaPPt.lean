/-
  The contracts of the lender of bytes: Lend, Back.
  Conditions: the bytes can be read, lie elsewhere than the lender's, and are not very many.
  The contract of the lender's Back: what was lent lies there still.
  Conditions: the bytes can be read; the room holds them, with the marks behind.
  A container that is handed in by two lenders: what is known behind it.
  No condition: definitions and lemmas.
  The contract of the statements' 'awake': it answers true. And what Encode and Decode answer, in the form that the statements' walks take.
  No condition.
  The walk of PackPrograms: it answers true.
  Conditions: the lists can be read and are not very long.
-/
import Derived.Test.YtfcbedkidjclhaaKeep
import Derived.Laws.CopyOwn
import Derived.Laws.OwnMore
import Derived.Deep.CutBlock
import Derived.Test.YtfcbedkidjclhaaCopy
import Derived.Test.YtfcbedkidjclhaaDec6
import Derived.Test.YtfcbedkidjclhaaPPr
namespace Go.Proofs.Ytfcbedkidjclhaa
open Go.RowKit
set_option maxRecDepth 100000
set_option linter.unusedSimpArgs false
set_option linter.unusedVariables false

/-- the mark at a place behind what is lent -/
def mk (i : Nat) : UInt8 := Pk.byte (151 + 7 * (i : Int))
def mks (k : Nat) : List UInt8 := (List.range k).map mk
theorem mks_succ (k : Nat) : mks (k + 1) = mks k ++ [mk k] := by simp [mks, List.range_succ]
theorem mks_length (k : Nat) : (mks k).length = k := by simp [mks]
theorem mks_get {k i : Nat} (h : i < k) : (mks k)[i]? = some (mk i) := by simp [mks, h]

theorem behind_any (i : Nat) (hi : i ≤ 4000000000) (w : World) : Calls Try.prog 69 #[.int .i64 i] w fun e w' => e = .returned (.int .u8 (((mk i).toNat : Nat) : Int)) ∧ w = w' := by
  have hv : IntKind.u8.wrap (151 + 7 * (i : Int)) = (((mk i).toNat : Nat) : Int) := by rw [IntKind.wrap_u8, mk, Pk.byte_toNat]
  have HV := hd hv
  clear hv
  go_enter Try.func69, Try.ntmps69
  go_wp2
  go_ret
  refine ⟨?_, rfl⟩
  rw [← HV.out, IntKind.wrap_u8]
  rfl

/-- the lender's room: its box, where the room lies, what lies there -/
def LR (w : World) (g : Nat) : Option Nat → List UInt8 → Prop
  | none, rs => rs = [] ∧ Blk w g 28 #[.slice none 0 0]
  | some r, rs => Blk w g 28 #[.slice (some ⟨r, 0, none⟩) rs.length rs.length] ∧ Blk w r 5 (bv rs).toArray
/-- what the lender may change -/
def LS (g : Nat) (o : Option Nat) (b : Nat) : Prop := b = g ∨ o = some b

theorem LR.ne {w : World} {g r : Nat} {rs : List UInt8} (h : LR w g (some r) rs) : r ≠ g := Ne.symm (Blk.ne_ h.1 h.2 (by decide))
theorem LR.keep {S : Nat → Prop} {w w' : World} {g : Nat} {o : Option Nat} {rs : List UInt8} (h : LR w g o rs) (k : Kp S w w') (hS : ∀ b, LS g o b → ¬ S b) : LR w' g o rs := by
  cases o with
  | none => exact ⟨h.1, k.blk h.2 (hS _ (.inl rfl))⟩
  | some r => exact ⟨k.blk h.1 (hS _ (.inl rfl)), k.blk h.2 (hS _ (.inr rfl))⟩
theorem LR.ext {w w' : World} {g : Nat} {o : Option Nat} {rs : List UInt8} (h : LR w g o rs) (k : Ext w w') : LR w' g o rs := h.keep (S := fun _ => False) (Kp.of_ext k) fun _ _ e => e
theorem LR.put {w : World} {g r j : Nat} {rs : List UInt8} (h : LR w g (some r) rs) (x : UInt8) : LR (w.setCell ⟨r, j, none⟩ (.int .u8 ((x.toNat : Nat) : Int))) g (some r) (rs.set j x) := by
  have hne := h.ne
  refine ⟨?_, ?_⟩
  · rw [List.length_set]
    exact h.1.far (p := ⟨r, j, none⟩) (Ne.symm hne) _
  · have := h.2.set_ j (.int .u8 ((x.toNat : Nat) : Int))
    rwa [List.setIfInBounds_toArray, bv_set] at this
theorem LR.rd {w : World} {g r : Nat} {rs : List UInt8} (h : LR w g (some r) rs) : Rd w 1 (some ⟨r, 0, none⟩) rs.length (bv rs) := by
  refine ⟨by rw [bv_length]; omega, fun _ => ⟨_, rfl, fun j u hj => ?_⟩⟩
  rw [show (⟨r, 0, none⟩ : Addr).add j = ⟨r, j, none⟩ by unfold Addr.add; split <;> simp_all, h.2.cell j]
  simpa using hj
theorem LR.cell {w : World} {g r : Nat} {rs : List UInt8} (h : LR w g (some r) rs) {j : Nat} {x : UInt8} (hj : rs[j]? = some x) : w.cell? ⟨r, j, none⟩ = some (.int .u8 ((x.toNat : Nat) : Int)) := by
  rw [h.2.cell j]
  simp [bv, hj]
theorem set_next {rs l : List UInt8} {m : Nat} {x : UInt8} (h : rs.take m = l) (hm : m < rs.length) : (rs.set m x).take (m + 1) = l ++ [x] := by
  rw [List.take_succ_eq_append_getElem (by rw [List.length_set]; exact hm), List.take_set_of_le (Nat.le_refl _), h]
  simp

theorem wl_copyK {P : Program} {w : World} {ops : Array Oper} {rest : List Oper} {dst : Option Tmp} {ty : TypeId} {ps : String} {af : Array Edge} {a : Act} {Q : Exit → Act → World → Prop} (d s : Operand) (dT sT : TypeId)
    (elem : TypeId) (hu : P.underlying dT = some (.slice elem)) (hsz : (P.info? elem).map (·.size) = some 1)
    (r dLen dCap : Nat) (A : Option Addr) (n c : Nat) (hd : a.eval d = .slice (some ⟨r, 0, none⟩) dLen dCap) (hs : a.eval s = .slice A n c)
    (rs bs : List UInt8) (hg : Blk w r 5 (bv rs).toArray) (hR : Rd w 1 A n (bv bs)) (hl : bs.length = n) (hn : n ≤ dLen) (hr : dLen = rs.length)
    (h : ∀ w', Blk w' r 5 (bv (bs ++ rs.drop n)).toArray → Kp (fun b => b = r) w w' → wpList P ops Q rest (a.put dst (.int .i64 (n : Int))) w') :
    wpList P ops Q (⟨dst, .call { callee := .builtin .copy, args := #[d, s], argTypes := #[dT, sT] }, ty, ps, af, none⟩ :: rest) a w := by
  have hgi : goInt (bv bs).length = .int .i64 (n : Int) := by rw [bv_length, hl]; rfl
  by_cases h0 : n = 0
  · obtain rfl : bs = [] := List.eq_nil_of_length_eq_zero (by omega)
    refine wpList_copy_nothing rfl d s dT sT rfl elem hu hsz (some ⟨r, 0, none⟩) A dLen dCap n c hd hs (by rw [h0]; exact Nat.zero_min _) ?_
    subst h0
    exact h w (by simpa using hg) (Kp.refl w)
  · obtain ⟨ad, rfl, hsrc⟩ := hR.2 (by omega)
    refine wpList_copy_own rfl d s dT sT rfl elem hu hsz r 0 dLen dCap ad n c hd hs (bv rs).toArray 5 hg (bv bs) (by rw [bv_length, hl]; exact (Nat.min_eq_left hn).symm) hsrc (by rw [List.size_toArray, bv_length, bv_length]; omega) (bv_one _) ?_
    have e : ((bv rs).toArray.toList.take 0 ++ (bv bs ++ (bv rs).toArray.toList.drop (0 + (bv bs).length))) = bv (bs ++ rs.drop n) := by
      rw [bv_append, bv_length, hl]
      simp [bv_drop]
    rw [e]
    show wpList P ops Q rest (a.put dst (goInt (bv bs).length)) _
    rw [hgi]
    exact h _ (setRow_heap w r _ _ 5 _ hg) (Kp.row (S := fun b => b = r) (Kp.refl w) (.inl rfl) _)

theorem slice_lend (r m n : Nat) (h : n ≤ m) (v : World) :
    Sem.run Try.prog (Instr.slice 22 (.slice (some ⟨r, 0, none⟩) m m) none (some (.int .i64 (n : Int))) none) v = .ok (.slice (some ⟨r, 0, none⟩) n m) v := by
  have h1 : (n : Int) ≤ (m : Int) := by omega
  simp [go_sem, Try.underlying22, h1]

theorem made_zeroK (n : Nat) : (madeCells (Value.int .u8 0).cells (n * 1)).toList = bv (List.replicate n 0) := by
  apply List.ext_getElem
  · simp [madeCells, bv]
  · intro i h1 h2
    simp [madeCells, bv, Value.cells, Nat.mod_one]
theorem own_blk5 {w : World} {base g n : Nat} {l : List UInt8} (h : w.ownsRow base 5 1 (.slice (some ⟨g, 0, none⟩) n n) n (bv l)) : Blk w g 5 (bv l).toArray := by
  rcases h.2 with ⟨h1, h0⟩ | ⟨g', cap, cur, hv, _, hh, h4, h5, h6, h7⟩
  · injection h1 with h1; cases h1
  · injection hv with e1 e2 e3
    injection e1 with e1
    injection e1 with e1
    subst e1
    subst e3
    have : cur = (bv l).toArray := by
      rw [← h7, List.take_of_length_le (by rw [Array.length_toList, h6]; exact Nat.le_refl _)]
    rw [← this]
    exact hh

theorem Kp.rd0 {S : Nat → Prop} {w w' : World} (h : Kp S w w') {sz n : Nat} {A : Option Addr} {xs : List Value} (hr : Rd w sz A n xs) (hne : 0 < n → ∀ ad, A = some ad → ¬ S ad.block) : Rd w' sz A n xs :=
  ⟨hr.1, fun hn => by
    obtain ⟨ad, e, hc⟩ := hr.2 hn
    exact ⟨ad, e, fun j u hu => h.cell (hc j u hu) (by rw [blk_add]; exact hne hn ad e)⟩⟩
/-- what can be read was there -/
theorem old_rd {w : World} {sz n : Nat} {A : Option Addr} {xs : List Value} (h : Rd w sz A n xs) (hs : 0 < sz) : 0 < n → ∀ ad, A = some ad → ad.block < w.heap.size := by
  intro hn ad hA
  obtain ⟨b, o, hb', hc⟩ := h.form hn hs
  rw [hA] at hb'
  injection hb' with hb'
  subst hb'
  have hl : 0 < xs.length := by rw [h.1]; exact Nat.mul_pos hn hs
  exact World.block_lt_of_cell? w _ (hc 0 _ (List.getElem?_eq_getElem hl))

def LendPost (n : Nat) (bs : List UInt8) (g : Nat) (o : Option Nat) (w : World) (e : Ending) (w' : World) : Prop :=
  ∃ r rs, e = .returned (.slice (some ⟨r, 0, none⟩) n rs.length) ∧ (o = some r ∨ w.heap.size ≤ r) ∧ LR w' g (some r) rs ∧ rs.length ≤ 1000000000 ∧ 2 * n + 70 ≤ rs.length ∧ rs.take (2 * n + 70) = bs ++ mks (n + 70) ∧ Kp (LS g o) w w'

set_option maxHeartbeats 1000000 in
theorem Lend_any (g : Nat) (o : Option Nat) (rs : List UInt8) (A : Option Addr) (n c : Nat) (bs : List UInt8) (w : World) (hL : LR w g o rs) (hR : Rd w 1 A n (bv bs)) (hA : 0 < n → ∀ ad, A = some ad → ¬ LS g o ad.block) (hn : n ≤ 100000000) (hrs : rs.length ≤ 1000000000) :
    Calls Try.prog 25 #[.pointer (some ⟨g, 0, none⟩), .slice A n c] w (LendPost n bs g o w) := by
  have hl : bs.length = n := by have := hR.1; rw [bv_length] at this; omega
  obtain ⟨R, hB, hcap⟩ : ∃ R : Option Addr, Blk w g 28 #[.slice R rs.length rs.length] ∧ (R = o.map fun r => ⟨r, 0, none⟩) := by
    cases o with
    | none => obtain ⟨rfl, h⟩ := hL; exact ⟨none, h, rfl⟩
    | some r => exact ⟨_, hL.1, rfl⟩
  have b0 := hB.c1
  obtain ⟨i0, hi0, hz0, hz1, hz2⟩ := info_parts info5
  obtain ⟨t, ht⟩ : ∃ t, decide ((rs.length : Int) < 2 * (n : Int) + 70) = t := ⟨_, rfl⟩
  go_enter Try.func25, Try.ntmps25
  go_upto_if 17 with (fail)
  go_cut [] from 18 to 24 (fun W => ∃ r rs1, (o = some r ∨ w.heap.size ≤ r) ∧ LR W g (some r) rs1 ∧ rs1.length ≤ 1000000000 ∧ 2 * n + 70 ≤ rs1.length ∧ Kp (LS g o) w W)
  case first =>
    cases t with
    | true =>
      have hs : rs.length < 2 * n + 70 := by have := of_decide_eq_true ht; omega
      go_wp2_with (at_make; refine wpList_make_full _ rfl (.tmp 21) (.tmp 21) 22 rfl w.heap.size 5 i0 _ 1 Try.underlying22 hi0 hz0 hz1 .i64 .i64 (4 * (n : Int) + 200) (4 * (n : Int) + 200) (4 * n + 200) rfl rfl (by omega) (by omega) (by rw [hz2]; omega) (by unfold maxLen; omega) (Nat.le_refl _) ?_; intro w1 hown1 hg1; rw [made_zeroK] at hown1; have hX1 : Ext w w1 := (Ext.refl w).grown hg1 (by simp); have b1 := (hB.ext hX1).c1; have f1 := (hB.ext hX1).free 0)
      go_meet
      case rel =>
        have hb1 := own_blk5 hown1
        have hB1 := hB.ext hX1
        have hlt := hB.lt
        refine ⟨w.heap.size, List.replicate (4 * n + 200) 0, .inr (Nat.le_refl _), ⟨?_, ?_⟩, ?_, ?_, ?_⟩
        · rw [List.length_replicate]
          exact hB1.set_ 0 _
        · exact hb1.far (p := ⟨g, 0, none⟩) (by simp only; omega) _
        · rw [List.length_replicate]; omega
        · rw [List.length_replicate]; omega
        · exact (Kp.of_ext hX1).set ⟨g, 0, none⟩ (.inl (.inl rfl)) _
    | false =>
      have hs : ¬ rs.length < 2 * n + 70 := by have := of_decide_eq_false ht; omega
      go_wp2
      go_meet
      case rel =>
        cases o with
        | none => obtain ⟨rfl, _⟩ := hL; simp at hs
        | some r => exact ⟨r, rs, .inl rfl, hL, hrs, by omega, Kp.refl w⟩
  case rest =>
    obtain ⟨r, rs1, hor, hL1, hm1, hm2, hK1⟩ := hcut
    clear ht b0 hL hB hcap
    have hR1 : Rd wc 1 A n (bv bs) := hK1.rd0 hR hA
    have r0 := hL1.1.c1
    have hne := hL1.ne
    go_upto_region 5 with (refine wl_copyK (.tmp 28) (.tmp 29) 22 22 5 Try.underlying22 (by kernel_rfl) r rs1.length rs1.length A n c rfl rfl rs1 bs hL1.2 hR1 hl (by omega) rfl ?_; intro w2 hB2 hK2)
    have hLn : (bs ++ rs1.drop n).length = rs1.length := by rw [List.length_append, List.length_drop]; omega
    have hL2 : LR w2 g (some r) (bs ++ rs1.drop n) := ⟨by rw [hLn]; exact hK2.blk hL1.1 (Ne.symm hne), hB2⟩
    have hS2 : ∀ i, i < w.heap.size → i = r → LS g o i := fun i hi e => by
      rcases hor with h1 | h1
      · exact .inr (by rw [e]; exact h1)
      · omega
    have hK12 : Kp (LS g o) w w2 := hK1.trans hK2 hS2
    have hset : LS g o r ∨ w.heap.size ≤ r := hor.imp .inr id
    have htk : (bs ++ rs1.drop n).take (n + 0) = bs ++ mks 0 := by simp [mks, ← hl]
    clear hK1 hK2 hB2 hR1 hL1 r0
    go_wp2
    go_loopw [6] (fun i wr => ∃ (k : Nat) (rs2 : List UInt8), i = .int .i64 k ∧ k ≤ n + 70 ∧ rs2.length = rs1.length ∧ LR wr g (some r) rs2 ∧ Hid (rs2.take (n + k) = bs ++ mks k) ∧ Kp (LS g o) w wr) (fun i _ => n + 70 - (intOf i).toNat)
    case atStart => exact ⟨0, _, rfl, by omega, hLn, hL2, hd htk, hK12⟩
    case round =>
      obtain ⟨k, rs2, rfl, hk, hlen, hLR, HT, hKp⟩ := hrel
      have q0 := hLR.1.c1
      rw [hlen] at q0
      by_cases hlt : k < n + 70
      · have e1 : (k : Int) < (n : Int) + 70 := by omega
        have fz := hLR.2.free (n + k)
        obtain ⟨cz, hcz⟩ : ∃ x, rs2[n + k]? = some x := ⟨_, List.getElem?_eq_getElem (by omega)⟩
        have k0 := hLR.cell hcz
        have N69 : Calls Try.prog 69 #[.int .i64 (k : Int)] wr.drew (fun e w'' => e = .returned (.int .u8 (((mk k).toNat : Nat) : Int)) ∧ w'' = wr.drew) :=
          (behind_any k (by omega) wr.drew).mono (by rintro e w1 ⟨rfl, rfl⟩; exact ⟨rfl, rfl⟩)
        go_upto_region 8 with (fail)
        refine wp_region_still_tail 10 (by kernel_rfl) (by kernel_rfl) ?_
        simp only [List.take_succ_cons, List.take_zero, List.drop_succ_cons, List.drop_zero]
        repeat still_step
        still_call N69
        rw [show IntKind.i64.wrap ((n : Int) + (k : Int)) = (n : Int) + (k : Int) by rw [IntKind.wrap_i64]; omega]
        have i0 : 0 ≤ (n : Int) + (k : Int) := by omega
        have i1 : (n : Int) + (k : Int) < (rs1.length : Int) := by omega
        have i2 : ((n : Int) + (k : Int)).toNat = n + k := by omega
        repeat still_step
        try refine wpStill_nil ?_
        change wpList _ _ _ _ _ wr.drew
        go_wp2
        have hnx : (rs2.set (n + k) (mk k)).take (n + (k + 1)) = bs ++ mks (k + 1) := by
          rw [mks_succ, ← List.append_assoc, ← Nat.add_assoc]
          exact set_next HT.out (by omega)
        go_roundw
        case rel => exact ⟨k + 1, rs2.set (n + k) (mk k), by go_num, by omega, by rw [List.length_set]; exact hlen, hLR.put (mk k), hd hnx, hKp.drew.set ⟨r, n + k, none⟩ hset _⟩
        case measure => simp [intOf]; omega
      · obtain rfl : k = n + 70 := by omega
        have e1 : ¬ ((n + 70 : Nat) : Int) < (n : Int) + 70 := by omega
        have hsl := slice_lend r rs1.length n (by omega) wr
        go_wp2
        go_ret
        refine ⟨r, rs2, by rw [hlen]; rfl, hor, hLR, by omega, by omega, ?_, hKp⟩
        have := HT.out
        rwa [show n + (n + 70) = 2 * n + 70 by omega] at this

end Go.Proofs.Ytfcbedkidjclhaa
namespace Go.Proofs.Ytfcbedkidjclhaa
open Go.RowKit
set_option maxRecDepth 100000
set_option linter.unusedSimpArgs false
set_option linter.unusedVariables false

theorem take_get {l m : List UInt8} {k j : Nat} (h : l.take k = m) (hj : j < k) : l[j]? = m[j]? := by
  rw [← h, List.getElem?_take_of_lt hj]
theorem xor_u8K (a b : Int) : ∃ x : UInt8, bits .xor .u8 a b = ((x.toNat : Nat) : Int) := by
  refine ⟨Pk.byte (bits .xor .u8 a b), ?_⟩
  rw [Pk.byte_toNat]
  show IntKind.u8.wrap _ = IntKind.u8.wrap _ % 256
  rw [IntKind.wrap_u8]
  omega

def BackPost (g r m : Nat) (w : World) (e : Ending) (w' : World) : Prop :=
  e = .returned (.bool true) ∧ ∃ rs, rs.length = m ∧ LR w' g (some r) rs ∧ Kp (LS g (some r)) w w'

set_option maxHeartbeats 1000000 in
theorem Back_any (g r : Nat) (rs : List UInt8) (A : Option Addr) (n c : Nat) (bs : List UInt8) (w : World) (hL : LR w g (some r) rs) (hm : rs.take (2 * n + 70) = bs ++ mks (n + 70)) (h1 : 2 * n + 70 ≤ rs.length) (h2 : rs.length ≤ 1000000000)
    (hR : Rd w 1 A n (bv bs)) (hn : n ≤ 100000000) :
    Calls Try.prog 31 #[.pointer (some ⟨g, 0, none⟩), .slice A n c] w (BackPost g r rs.length w) := by
  have hl : bs.length = n := by have := hR.1; rw [bv_length] at this; omega
  have q0 := hL.1.c1
  have hsl := slice_lend r rs.length n (by omega) w
  have hR2 : Rd w 1 (some ⟨r, 0, none⟩) n (bv bs) := by
    have h3 := hL.rd.take (k := n) (by omega)
    rw [Nat.mul_one, bv_take] at h3
    have h4 : rs.take n = bs := by
      have h5 := congrArg (List.take n) hm
      rwa [List.take_take, Nat.min_eq_left (by omega), List.take_left' hl] at h5
    rwa [h4] at h3
  have hmk : ∀ k, k < n + 70 → rs[n + k]? = some (mk k) := fun k hk => by
    rw [take_get hm (by omega), List.getElem?_append_right (by omega), hl, Nat.add_sub_cancel_left]
    exact mks_get hk
  have HMK := hd hmk
  clear hmk hm
  go_enter Try.func31, Try.ntmps31
  go_upto_region 3 with (go_at_call 33; (with_reducible refine (SameBytes_any _ _ n n _ _ bs bs _ hR2 hR).mono ?_); rw [beq_self_eq_true]; rintro e v ⟨rfl, rfl⟩)
  clear hR hR2 hsl
  go_wp2
  go_loopw [6, 7] (fun ok i wr => ∃ (k : Nat), ok = .bool true ∧ i = .int .i64 k ∧ k ≤ n + 70 ∧ Ext w wr) (fun _ i _ => n + 70 - (intOf i).toNat)
  case atStart => exact ⟨0, rfl, rfl, by omega, Ext.refl _⟩
  case round =>
    obtain ⟨k, rfl, rfl, hk, hX⟩ := hrel
    obtain ⟨wq, hwq⟩ : ∃ wq, wq = wr := ⟨_, rfl⟩
    subst hwq
    have hLq := hL.ext hX
    have p0 := hLq.1.c1
    by_cases hlt : k < n + 70
    · have e1 : (k : Int) < (n : Int) + 70 := by omega
      have k0 := hLq.cell (HMK.out k hlt)
      have i0 : 0 ≤ (n : Int) + (k : Int) := by omega
      have i1 : (n : Int) + (k : Int) < (rs.length : Int) := by omega
      have i2 : ((n : Int) + (k : Int)).toNat = n + k := by omega
      go_upto_region 6 with (fail)
      go_quiet (first | (go_at_call 69; exact Calls.quiet_of_same ((behind_any k (by omega) _).mono (by rintro _ _ ⟨rfl, rfl⟩; exact ⟨rfl, rfl⟩))))
      go_wp2
      go_roundw
      case rel => exact ⟨k + 1, by simp, by go_num, by omega, hX.drewN _⟩
      case measure => simp [intOf]; omega
    · have e1 : ¬ (k : Int) < (n : Int) + 70 := by omega
      go_wp2
      go_loopw [8] (fun i wr => ∃ (k : Nat) (rs2 : List UInt8), i = .int .i64 k ∧ k ≤ n ∧ rs2.length = rs.length ∧ LR wr g (some r) rs2 ∧ Kp (LS g (some r)) w wr) (fun i _ => n - (intOf i).toNat)
      case atStart => exact ⟨0, rs, rfl, by omega, rfl, hLq, Kp.of_ext hX⟩
      case round =>
        obtain ⟨j, rs2, rfl, hj, hlen, hLR, hKp⟩ := hrel
        have q1 := hLR.1.c1
        rw [hlen] at q1
        by_cases hlt2 : j < n
        · have e2 : (j : Int) < (n : Int) := by omega
          obtain ⟨cz, hcz⟩ : ∃ x, rs2[j]? = some x := ⟨_, List.getElem?_eq_getElem (by omega)⟩
          have k0 := hLR.cell hcz
          have fz := hLR.2.free j
          have i1 : (j : Int) < (rs.length : Int) := by omega
          obtain ⟨y, hy⟩ := xor_u8K ((cz.toNat : Nat) : Int) 90
          go_upto_region 10 with (fail)
          refine wp_region_still_tail 14 (by kernel_rfl) (by kernel_rfl) ?_
          simp only [List.take_succ_cons, List.take_zero, List.drop_succ_cons, List.drop_zero]
          repeat still_step
          try refine wpStill_nil ?_
          change wpList _ _ _ _ _ wr.drew
          go_wp2
          go_roundw
          case rel => exact ⟨j + 1, rs2.set j y, by go_num, by omega, by rw [List.length_set]; exact hlen, hLR.put y, hKp.drew.set ⟨r, j, none⟩ (.inl (.inr rfl)) _⟩
          case measure => simp [intOf]; omega
        · have e2 : ¬ (j : Int) < (n : Int) := by omega
          go_wp2
          go_ret
          exact ⟨rfl, rs2, hlen, hLR, hKp⟩

end Go.Proofs.Ytfcbedkidjclhaa
namespace Go.Proofs.Ytfcbedkidjclhaa
open Go.RowKit
set_option maxRecDepth 100000
set_option linter.unusedSimpArgs false
set_option linter.unusedVariables false

theorem Kp.from_ext {S : Nat → Prop} {a b c : World} (h : Ext a b) (k : Kp S b c) : Kp S a c := (Kp.of_ext (S := S) h).trans k fun _ _ e => e
theorem Kp.s5 {S : Nat → Prop} {w w' : World} (h : Kp S w w') {g : Nat} (hg : S g) (a b c d e : Value) : Kp S w (((((w'.setCell ⟨g, 0, none⟩ a).setCell ⟨g, 1, none⟩ b).setCell ⟨g, 2, none⟩ c).setCell ⟨g, 3, none⟩ d).setCell ⟨g, 4, none⟩ e) :=
  ((((h.set ⟨g, 0, none⟩ (.inl hg) a).set ⟨g, 1, none⟩ (.inl hg) b).set ⟨g, 2, none⟩ (.inl hg) c).set ⟨g, 3, none⟩ (.inl hg) d).set ⟨g, 4, none⟩ (.inl hg) e
theorem LR.lt {w : World} {g : Nat} {o : Option Nat} {rs : List UInt8} (h : LR w g o rs) : ∀ b, LS g o b → b < w.heap.size := by
  intro b hb
  cases o with
  | none =>
    rcases hb with rfl | hb
    · exact h.2.lt
    · cases hb
  | some r =>
    rcases hb with rfl | hb
    · exact h.1.lt
    · injection hb with hb
      subst hb
      exact h.2.lt
/-- what was lent reads as it was -/
theorem lend_rd {w : World} {g r n : Nat} {rs bs : List UInt8} (h : LR w g (some r) rs) (hn : bs.length = n) (h1 : 2 * n + 70 ≤ rs.length) (ht : rs.take (2 * n + 70) = bs ++ mks (n + 70)) : Rd w 1 (some ⟨r, 0, none⟩) n (bv bs) := by
  have h3 := h.rd.take (k := n) (by omega)
  rw [Nat.mul_one, bv_take] at h3
  have h4 : rs.take n = bs := by
    have h5 := congrArg (List.take n) ht
    rwa [List.take_take, Nat.min_eq_left (by omega), List.take_left' hn] at h5
  rwa [h4] at h3

/-- a room that is lent -/
structure Lt (wr W : World) (g : Nat) (o : Option Nat) (n : Nat) (bs : List UInt8) (r : Nat) (rs : List UInt8) : Prop where
  lr : LR W g (some r) rs
  or_ : o = some r ∨ wr.heap.size ≤ r
  m1 : rs.length ≤ 1000000000
  k1 : 2 * n + 70 ≤ rs.length
  t1 : rs.take (2 * n + 70) = bs ++ mks (n + 70)
theorem Lt.keep {S : Nat → Prop} {wr W W' : World} {g : Nat} {o : Option Nat} {n : Nat} {bs : List UInt8} {r : Nat} {rs : List UInt8} (h : Lt wr W g o n bs r rs) (k : Kp S W W') (hS : ∀ b, LS g (some r) b → ¬ S b) : Lt wr W' g o n bs r rs := ⟨h.lr.keep k hS, h.or_, h.m1, h.k1, h.t1⟩
theorem Lt.ext {wr W W' : World} {g : Nat} {o : Option Nat} {n : Nat} {bs : List UInt8} {r : Nat} {rs : List UInt8} (h : Lt wr W g o n bs r rs) (k : Ext W W') : Lt wr W' g o n bs r rs := ⟨h.lr.ext k, h.or_, h.m1, h.k1, h.t1⟩
theorem Lt.rd {wr W : World} {g : Nat} {o : Option Nat} {n : Nat} {bs : List UInt8} {r : Nat} {rs : List UInt8} (h : Lt wr W g o n bs r rs) (hn : bs.length = n) : Rd W 1 (some ⟨r, 0, none⟩) n (bv bs) := lend_rd h.lr hn h.k1 h.t1
theorem LendPost.lt {n : Nat} {bs : List UInt8} {g : Nat} {o : Option Nat} {wr W0 w' : World} {e : Ending} (h : LendPost n bs g o W0 e w') (hE : Ext wr W0) :
    ∃ r rs, e = .returned (.slice (some ⟨r, 0, none⟩) n rs.length) ∧ Lt wr w' g o n bs r rs ∧ Kp (LS g o) wr w' ∧ (o = some r ∨ W0.heap.size ≤ r) := by
  obtain ⟨r, rs, h1, h2, h3, h4, h5, h6, h7⟩ := h
  exact ⟨r, rs, h1, ⟨h3, h2.imp id fun h => Nat.le_trans hE.size h, h4, h5, h6⟩, Kp.from_ext hE h7, h2⟩

/-- what is known of two lenders -/
structure Le (wr : World) (gd gc : Nat) (od oc : Option Nat) (rd rc : List UInt8) : Prop where
  ld : LR wr gd od rd
  lc : LR wr gc oc rc
  md : rd.length ≤ 1000000000
  mc : rc.length ≤ 1000000000
  sep : ∀ b, LS gd od b → ¬ LS gc oc b
theorem Le.ext {wr W : World} {gd gc : Nat} {od oc : Option Nat} {rd rc : List UInt8} (h : Le wr gd gc od oc rd rc) (k : Ext wr W) : Le W gd gc od oc rd rc := ⟨h.ld.ext k, h.lc.ext k, h.md, h.mc, h.sep⟩

/-- the container handed in -/
structure Gv (wr W : World) (gd gc : Nat) (od oc : Option Nat) (lo hi : Int) (n1 n2 n3 : Nat) (data code : List UInt8) (ts : List (Int × Int)) (gq r1 r3 : Nat) (rs1 rs3 : List UInt8) (E2 : Option Addr) (g2 : Nat) : Prop where
  kp : Kp (fun b => LS gd od b ∨ LS gc oc b) wr W
  ld : Lt wr W gd od n1 data r1 rs1
  lc : Lt wr W gc oc n3 code r3 rs3
  sep : ∀ b, LS gd (some r1) b → ¬ LS gc (some r3) b
  bq : Blk W gq 25 #[.int .i64 lo, .int .i64 hi, .slice (some ⟨r1, 0, none⟩) n1 rs1.length, .slice E2 n2 g2, .slice (some ⟨r3, 0, none⟩) n3 rs3.length]
  qn : wr.heap.size ≤ gq
  rt : Rd W 2 E2 n2 (tv ts)

/-- behind the three calls -/
structure Ca (wr W : World) (gd gc : Nat) (od oc : Option Nat) (n1 n2 n3 : Nat) (data code : List UInt8) (ts : List (Int × Int)) (r1 r3 : Nat) (rs1 rs3 : List UInt8) (E2 : Option Addr) (g2 : Nat) : Prop where
  kp : Kp (fun b => LS gd od b ∨ LS gc oc b) wr W
  ld : Lt wr W gd od n1 data r1 rs1
  lc : Lt wr W gc oc n3 code r3 rs3
  sep : ∀ b, LS gd (some r1) b → ¬ LS gc (some r3) b
  own : W.ownsRow wr.heap.size 54 2 (.slice E2 n2 g2) n2 (tv ts)

section
variable {wr W : World} {gd gc : Nat} {od oc : Option Nat} {n1 n2 n3 : Nat} {data code : List UInt8} {ts : List (Int × Int)} {r1 r3 : Nat} {rs1 rs3 : List UInt8} {E2 : Option Addr} {g2 : Nat} {lo hi : Int}
theorem Ca.alloc (h : Ca wr W gd gc od oc n1 n2 n3 data code ts r1 r3 rs1 rs3 E2 g2) :
    Gv wr (W.alloc (.cells #[.int .i64 lo, .int .i64 hi, .slice (some ⟨r1, 0, none⟩) n1 rs1.length, .slice E2 n2 g2, .slice (some ⟨r3, 0, none⟩) n3 rs3.length] 25)) gd gc od oc lo hi n1 n2 n3 data code ts W.heap.size r1 r3 rs1 rs3 E2 g2 :=
  ⟨h.kp.alloc _, h.ld.ext (Ext.new _ _), h.lc.ext (Ext.new _ _), h.sep, Blk.new _ _ _, h.kp.size, (Rd.of_own h.own).alloc _⟩
theorem Ca.box (h : Ca wr W gd gc od oc n1 n2 n3 data code ts r1 r3 rs1 rs3 E2 g2) {g : Nat} {a b c d e : Value} (hg : wr.heap.size ≤ g) (hB : Blk W g 25 #[a, b, c, d, e]) :
    Gv wr (((((W.setCell ⟨g, 0, none⟩ (.int .i64 lo)).setCell ⟨g, 1, none⟩ (.int .i64 hi)).setCell ⟨g, 2, none⟩ (.slice (some ⟨r1, 0, none⟩) n1 rs1.length)).setCell ⟨g, 3, none⟩ (.slice E2 n2 g2)).setCell ⟨g, 4, none⟩ (.slice (some ⟨r3, 0, none⟩) n3 rs3.length)) gd gc od oc lo hi n1 n2 n3 data code ts g r1 r3 rs1 rs3 E2 g2 := by
  have hK : Kp (fun b => b = g) W (((((W.setCell ⟨g, 0, none⟩ (.int .i64 lo)).setCell ⟨g, 1, none⟩ (.int .i64 hi)).setCell ⟨g, 2, none⟩ (.slice (some ⟨r1, 0, none⟩) n1 rs1.length)).setCell ⟨g, 3, none⟩ (.slice E2 n2 g2)).setCell ⟨g, 4, none⟩ (.slice (some ⟨r3, 0, none⟩) n3 rs3.length)) := Kp.s5 (S := fun b => b = g) (Kp.refl W) rfl _ _ _ _ _
  have n1' : ∀ b, LS gd (some r1) b → ¬ b = g := by
    rintro b (rfl | hb) rfl
    · exact Blk.ne_ h.ld.lr.1 hB (by decide) rfl
    · injection hb with hb; subst hb; exact Blk.ne_ h.ld.lr.2 hB (by decide) rfl
  have n3' : ∀ b, LS gc (some r3) b → ¬ b = g := by
    rintro b (rfl | hb) rfl
    · exact Blk.ne_ h.lc.lr.1 hB (by decide) rfl
    · injection hb with hb; subst hb; exact Blk.ne_ h.lc.lr.2 hB (by decide) rfl
  exact ⟨h.kp.trans hK fun i hi e => by omega, h.ld.keep hK n1', h.lc.keep hK n3', h.sep, hB.s5 _ _ _ _ _, hg,
    Rd.of_own (hK.own h.own fun k e1 e2 => own_blk_ne h.own hB (by decide) (by rw [e1, e2]))⟩

theorem Le.lt1 {rd rc : List UInt8} (h : Le wr gd gc od oc rd rc) : ∀ b, LS gd od b → b < wr.heap.size := h.ld.lt
theorem Le.lt2 {rd rc : List UInt8} (h : Le wr gd gc od oc rd rc) : ∀ b, LS gc oc b → b < wr.heap.size := h.lc.lt

/-- the third call, behind the first and the copy of the tables -/
theorem ca_mk {rd rc : List UInt8} (h : Le wr gd gc od oc rd rc) {w1 w2 W2 w3 : World} (hK1 : Kp (LS gd od) wr w1) (hL1 : Lt wr w1 gd od n1 data r1 rs1) (hX2 : Ext w1 w2) (own2 : w2.ownsRow w1.heap.size 54 2 (.slice E2 n2 g2) n2 (tv ts)) (hX : Ext w2 W2)
    (hK3 : Kp (LS gc oc) W2 w3) (hL3 : Lt W2 w3 gc oc n3 code r3 rs3) : Ca wr w3 gd gc od oc n1 n2 n3 data code ts r1 r3 rs1 rs3 E2 g2 := by
  have s1 := hK1.size
  have s2 := hX2.size
  have s3 := hX.size
  have hK23 : Kp (LS gc oc) w2 w3 := Kp.from_ext hX hK3
  have hK13 : Kp (LS gc oc) w1 w3 := Kp.from_ext hX2 hK23
  have hr1 : r1 < w1.heap.size := hL1.lr.2.lt
  have sp1 : ∀ b, LS gd (some r1) b → ¬ LS gc oc b := by
    rintro b (rfl | hb) hc
    · exact h.sep _ (.inl rfl) hc
    · injection hb with hb
      subst hb
      rcases hL1.or_ with ho | ho
      · exact h.sep _ (.inr ho) hc
      · have := h.lt2 _ hc; omega
  have hor := hL3.or_
  refine ⟨?_, hL1.keep hK13 sp1, ⟨hL3.lr, hor.imp id fun h => by omega, hL3.m1, hL3.k1, hL3.t1⟩, ?_, ?_⟩
  · exact (hK1.mono (T := fun b => LS gd od b ∨ LS gc oc b) fun _ _ e => .inl e).trans hK13 fun _ _ e => .inr e
  · rintro b hb (rfl | hc)
    · exact sp1 _ hb (.inl rfl)
    · injection hc with hc
      subst hc
      rcases hor with ho | ho
      · exact sp1 _ hb (.inr ho)
      · have h4 := hL1.lr.lt _ hb
        omega
  · refine hK23.own (own_base own2 s1) fun k e1 e2 => ?_
    have h5 := (own2.lt k e1).1
    have h6 := h.lt2 k e2
    omega
end

theorem LendPost.kp {n : Nat} {bs : List UInt8} {g : Nat} {o : Option Nat} {wr W0 w' : World} {e : Ending} (h : LendPost n bs g o W0 e w') (hE : Ext wr W0) : Kp (LS g o) wr w' := by
  obtain ⟨r, rs, h1, h2, h3, h4, h5, h6, h7⟩ := h
  exact Kp.from_ext hE h7
theorem LR.alloc_ {w : World} {g : Nat} {o : Option Nat} {rs : List UInt8} (h : LR w g o rs) (x : Obj) : LR (w.alloc x) g o rs := h.ext (Ext.new _ _)
theorem own_from {w w' W : World} {e : TypeId} {sz n : Nat} {v : Value} {xs : List Value} (h : w.ownsRow W.heap.size e sz v n xs) (k : Ext w' W) : w.ownsRow w'.heap.size e sz v n xs := own_base h k.size

theorem c5_far5 {w : World} {g z : Nat} {t : TypeId} {a b c d e v0 v1 v2 v3 v4 : Value} (h : Blk w g t #[a, b, c, d, e]) (hne : g ≠ z) :
    (((((w.setCell ⟨z, 0, none⟩ v0).setCell ⟨z, 1, none⟩ v1).setCell ⟨z, 2, none⟩ v2).setCell ⟨z, 3, none⟩ v3).setCell ⟨z, 4, none⟩ v4).cell? ⟨g, 0, none⟩ = some a ∧ (((((w.setCell ⟨z, 0, none⟩ v0).setCell ⟨z, 1, none⟩ v1).setCell ⟨z, 2, none⟩ v2).setCell ⟨z, 3, none⟩ v3).setCell ⟨z, 4, none⟩ v4).cell? ⟨g, 1, none⟩ = some b ∧
    (((((w.setCell ⟨z, 0, none⟩ v0).setCell ⟨z, 1, none⟩ v1).setCell ⟨z, 2, none⟩ v2).setCell ⟨z, 3, none⟩ v3).setCell ⟨z, 4, none⟩ v4).cell? ⟨g, 2, none⟩ = some c ∧ (((((w.setCell ⟨z, 0, none⟩ v0).setCell ⟨z, 1, none⟩ v1).setCell ⟨z, 2, none⟩ v2).setCell ⟨z, 3, none⟩ v3).setCell ⟨z, 4, none⟩ v4).cell? ⟨g, 3, none⟩ = some d ∧
    (((((w.setCell ⟨z, 0, none⟩ v0).setCell ⟨z, 1, none⟩ v1).setCell ⟨z, 2, none⟩ v2).setCell ⟨z, 3, none⟩ v3).setCell ⟨z, 4, none⟩ v4).cell? ⟨g, 4, none⟩ = some e :=
  (((((h.far (p := ⟨z, 0, none⟩) hne v0).far (p := ⟨z, 1, none⟩) hne v1).far (p := ⟨z, 2, none⟩) hne v2).far (p := ⟨z, 3, none⟩) hne v3).far (p := ⟨z, 4, none⟩) hne v4).c5

end Go.Proofs.Ytfcbedkidjclhaa
namespace Go.Proofs.Ytfcbedkidjclhaa
open Go.RowKit
set_option maxRecDepth 100000
set_option linter.unusedSimpArgs false
set_option linter.unusedVariables false

theorem own_le {w : World} {base n c sz : Nat} {e : TypeId} {A : Option Addr} {xs : List Value} (h : w.ownsRow base e sz (.slice A n c) n xs) : n ≤ c := by
  obtain ⟨A', c', he, hn, _⟩ := own_form h
  injection he with _ _ h3
  omega

theorem EncPost.at_ {l : List UInt8} {n : Int} {m : Nat} {w w' : World} {e : Ending} (h : EncPost (l, n) w e w') (hl : l.length = m) :
    ∃ A c, e = .returned (.tuple #[.slice A m c, .int .i64 n]) ∧ w'.ownsRow w.heap.size 5 1 (.slice A m c) m (bv l) ∧ m ≤ c ∧ Rd w' 1 A m (bv l) ∧ Ext w w' := by
  subst hl
  obtain ⟨A, c, he, ho, hX⟩ := h
  exact ⟨A, c, he, ho, own_le ho, Rd.of_own ho, hX⟩

theorem DecPost.at_ {lo hi : Int} {data code : List UInt8} {ts : List (Int × Int)} {p m1 m2 m3 : Nat} {p' n : Int} {w w' : World} {e : Ending} (h : DecPost (⟨lo, hi, data, ts, code⟩, p, n) w e w') (h1 : data.length = m1) (h2 : ts.length = m2) (h3 : code.length = m3) (hp : (p : Int) = p') :
    ∃ D c1 T c2 C c3, e = .returned (.tuple #[.agg #[.int .i64 lo, .int .i64 hi, .slice D m1 c1, .slice T m2 c2, .slice C m3 c3], .int .i64 p', .int .i64 n]) ∧
      Rd w' 1 D m1 (bv data) ∧ Rd w' 2 T m2 (tv ts) ∧ Rd w' 1 C m3 (bv code) ∧ Ext w w' := by
  obtain ⟨D, n1, c1, T, n2, c2, C, n3, c3, he, hX, o1, o2, o3, _⟩ := h
  have r1 := Rd.of_own o1
  have r2 := Rd.of_own o2
  have r3 := Rd.of_own o3
  have e1 := r1.1
  have e2 := r2.1
  have e3 := r3.1
  simp only [bv_length, tv_length] at e1 e2 e3
  obtain rfl : n1 = m1 := by omega
  obtain rfl : n2 = m2 := by omega
  obtain rfl : n3 = m3 := by omega
  subst hp
  exact ⟨D, c1, T, c2, C, c3, he, r1, r2, r3, hX⟩

theorem Num_any (n : Int) (w : World) : Calls Try.prog 32 #[.int .i64 n] w fun e w' => e = .returned (.int .i64 n) ∧ w = w' := by
  go_enter Try.func32, Try.ntmps32
  go_wp2
  go_ret
  exact ⟨rfl, rfl⟩

set_option maxHeartbeats 1000000 in
theorem awake_any (w : World) : Calls Try.prog 24 #[] w fun e w' => e = .returned (.bool true) ∧ Ext w w' := by
  have hE : Pk.encode 1 258 [7] [] [] = (Pk.bytes 1 258 [7] [] [], 0) := by decide +kernel
  have hD : Pk.decode (Pk.bytes 1 258 [7] [] []) = (⟨1, 258, [7], [], []⟩, 0, 0) := Pk.decode_bytes 1 258 [7] [] [] (by decide +kernel) (by decide +kernel)
  have hl : (Pk.bytes 1 258 [7] [] []).length = 21 := by decide +kernel
  have h8 : (bv (Pk.bytes 1 258 [7] [] []))[8]? = some (.int .u8 1) := by kernel_rfl
  have h10 : (bv (Pk.bytes 1 258 [7] [] []))[10]? = some (.int .u8 2) := by kernel_rfl
  have h16 : (bv (Pk.bytes 1 258 [7] [] []))[16]? = some (.int .u8 7) := by kernel_rfl
  generalize Pk.bytes 1 258 [7] [] [] = L at *
  have HE := hd hE
  have HD := hd hD
  have HL := hd hl
  have H8 := hd h8
  have H10 := hd h10
  have H16 := hd h16
  clear hE hD hl h8 h10 h16
  go_enter Try.func24, Try.ntmps24
  go_wp2_with (first | (go_at_call 27; (with_reducible refine (Encode_any 1 258 (some ⟨w.heap.size, 0, none⟩) none none 1 0 0 1 0 0 [7] [] [] _ (Rd.one w _ 5) Rd.nil_ Rd.nil_ (by omega) (by omega) (by omega)).mono ?_); rw [HE.out]; intro e w1 hP1; obtain ⟨A, c, rfl, own1, hc1, rd1, hX1⟩ := hP1.at_ HL.out; obtain ⟨b, o, rfl, hcc⟩ := rd1.form (by omega) (by omega); have c8 := hcc 8 _ H8.out; have c10 := hcc 10 _ H10.out; have c16 := hcc 16 _ H16.out; clear hcc) | (go_at_call 39; (with_reducible refine (Decode_any (some ⟨b, o, none⟩) 21 c L _ rd1 (by omega) hc1).mono ?_); rw [HD.out]; intro e w2 hP2; obtain ⟨D, c1, T, c2, C, c3, rfl, r1, r2, r3, hX2⟩ := hP2.at_ (m1 := 1) (m2 := 0) (m3 := 0) (p' := 0) rfl rfl rfl rfl) | (go_at_call 32; (with_reducible refine (Num_any _ _).mono ?_); rintro e v ⟨rfl, rfl⟩))
  go_ret
  exact ⟨rfl, (((Ext.new w _).trans hX1).trans hX2).alloc _⟩

end Go.Proofs.Ytfcbedkidjclhaa
namespace Go.Proofs.Ytfcbedkidjclhaa
open Go.RowKit
set_option maxRecDepth 100000
set_option linter.unusedSimpArgs false
set_option linter.unusedVariables false

theorem PProgPost.atT {lo hi : Int} {data : List UInt8} {code : List Cd.Ins} {ts : List (Int × Int)} {p m1 m2 m3 : Nat} {p' n : Int} {w w' : World} {e : Ending} (h : PProgPost (⟨lo, hi, data, ts, code⟩, p, n) w e w') (h1 : data.length = m1) (h2 : ts.length = m2) (h3 : code.length = m3) (hp : (p : Int) = p') :
    ∃ D c1 T c2 C c3, e = .returned (.tuple #[.agg #[.int .i64 lo, .int .i64 hi, .slice D m1 c1, .slice T m2 c2, .slice C m3 c3], .int .i64 p', .int .i64 n]) ∧
      w'.ownsRow w.heap.size 5 1 (.slice D m1 c1) m1 (bv data) ∧ w'.ownsRow w.heap.size 54 2 (.slice T m2 c2) m2 (tv ts) ∧ w'.ownsRow w.heap.size 64 8 (.slice C m3 c3) m3 (cv code) ∧ Ext w w' := by
  obtain ⟨D, n1, c1, T, n2, c2, C, n3, c3, he, hX, o1, o2, o3⟩ := h
  have e1 := o1.1
  have e2 := o2.1
  have e3 := o3.1
  simp only [bv_length, tv_length, cv_length] at e1 e2 e3
  obtain rfl : n1 = m1 := by omega
  obtain rfl : n2 = m2 := by omega
  obtain rfl : n3 = m3 := by omega
  subst hp
  exact ⟨D, c1, T, c2, C, c3, he, o1, o2, o3, hX⟩
theorem own_far {w : World} {base : Nat} {e : TypeId} {sz n : Nat} {v : Value} {xs : List Value} {L : Nat → Prop} (h : w.ownsRow base e sz v n xs) (hL : ∀ b, L b → b < base) : ∀ k, v.ownBlock = some k → ¬ L k := fun k e hk => by
  have h1 := (h.lt k e).1
  have h2 := hL k hk
  omega
theorem prog_small (k : Pk.C) : (Pk.pprog k).1.ts.length ≤ k.ts.length ∧ (Pk.pprog k).1.code.length ≤ 4096 := by
  unfold Pk.pprog
  obtain ⟨l, i, e, hdc⟩ : ∃ l i e, Cd.decode k.code = (l, i, e) := ⟨_, _, _, rfl⟩
  have := decode_lenP hdc
  simp only [hdc]
  (repeat' split) <;> simp [Pk.P0, this]

set_option maxHeartbeats 8000000 in
theorem PackPrograms_any (lo hi : Int) (A1 A2 A3 : Option Addr) (n1 n2 n3 c1 c2 c3 : Nat) (data code : List UInt8) (ts : List (Int × Int)) (w : World)
    (h1 : Rd w 1 A1 n1 (bv data)) (h2 : Rd w 2 A2 n2 (tv ts)) (h3 : Rd w 1 A3 n3 (bv code)) (hn1 : n1 ≤ 83886080) (hn2 : n2 * 16 ≤ 83886080) (hn3 : n3 ≤ 83886080) :
    Calls Try.prog 20 #[.agg #[.int .i64 lo, .int .i64 hi, .slice A1 n1 c1, .slice A2 n2 c2, .slice A3 n3 c3]] w fun e w' => e = .returned (.bool true) ∧ Ext w w' := by
  have L1 := hd (show data.length = n1 by have := h1.1; rw [bv_length] at this; omega)
  have L2 := hd (show ts.length = n2 by have := h2.1; rw [tv_length] at this; omega)
  have L3 := hd (show code.length = n3 by have := h3.1; rw [bv_length] at this; omega)
  obtain ⟨PP, at_, er, hpp⟩ : ∃ PP at_ er, Pk.pprog ⟨lo, hi, data, ts, code⟩ = (PP, at_, er) := ⟨_, _, _, rfl⟩
  have hps := prog_small ⟨lo, hi, data, ts, code⟩
  rw [hpp] at hps
  obtain ⟨plo, phi, pd, pt, pc⟩ := PP
  have HPP := hd hpp
  have HPS : Hid (pt.length ≤ n2 ∧ pc.length ≤ 4096) := hd ⟨by have := hps.1; have := L2.out; simp only at *; omega, hps.2⟩
  clear hpp hps
  go_enter Try.func20, Try.ntmps20
  go_upto_region 1 with (fail)
  refine wp_world (fun W => Ext w W ∧ Blk W w.heap.size 25 #[.int .i64 lo, .int .i64 hi, .slice A1 n1 c1, .slice A2 n2 c2, .slice A3 n3 c3]) ⟨Ext.new _ _, Blk.new _ _ _⟩ ?_
  obtain ⟨gk, hgk⟩ : ∃ gk, w.heap.size = gk := ⟨_, rfl⟩
  rw [hgk]
  rintro W0 ⟨hX0, hB0⟩
  go_upto_region 3 with (go_at_call 24; (with_reducible refine (awake_any _).mono ?_); rintro e W1 ⟨rfl, hXa⟩)
  have hX1 := hX0.trans hXa
  have hB1 := hB0.ext hXa
  have hgk1 := hB1.lt
  clear hX0 hB0 hXa
  go_upto_region 4 with (fail)
  refine wp_world (fun W => Ext w W ∧ Blk W gk 25 #[.int .i64 lo, .int .i64 hi, .slice A1 n1 c1, .slice A2 n2 c2, .slice A3 n3 c3] ∧ Le W W1.heap.size (W1.heap.size + 1) none none [] []) ⟨(hX1.alloc _).alloc _, (hB1.alloc _).alloc _, ⟨⟨rfl, (Blk.new _ _ _).alloc _⟩, ⟨rfl, by simpa using Blk.new (W1.alloc _) 28 _⟩, by simp, by simp, ?_⟩⟩ ?_
  · rintro b (rfl | hb) (hc | hc)
    · omega
    · cases hc
    · cases hb
    · cases hb
  generalize hgd : W1.heap.size = gd
  generalize hgc : gd + 1 = gc
  rintro W2 ⟨hX2, hB2, hLe2⟩
  go_wp2
  go_loopw [5] (fun i wr => ∃ (k : Nat) (od oc : Option Nat) (rsd rsc : List UInt8), i = .int .i64 k ∧ k ≤ 2 ∧ Ext w wr ∧ Blk wr gk 25 #[.int .i64 lo, .int .i64 hi, .slice A1 n1 c1, .slice A2 n2 c2, .slice A3 n3 c3] ∧ Le wr gd gc od oc rsd rsc ∧ Hid (∀ b, (LS gd od b ∨ LS gc oc b) → gk < b)) (fun i _ => 2 - (intOf i).toNat)
  case atStart => exact ⟨0, none, none, [], [], rfl, by omega, hX2, hB2, hLe2, hd (by rintro b ((rfl | hb) | (rfl | hb)); omega; cases hb; omega; cases hb)⟩
  case round =>
    obtain ⟨k, od, oc, rsd, rsc, rfl, hk, hX, hB, hLe, HGT⟩ := hrel
    clear hX1 hB1 hX2 hB2 hLe2
    by_cases hlt : k < 2
    · have e1 : (k : Int) < 2 := by omega
      have d1 := h1.ext hX
      have d2 := h2.ext hX
      have d3 := h3.ext hX
      have hA1 : 0 < n1 → ∀ ad, A1 = some ad → ¬ LS gd od ad.block := fun hn ad e hL => by have y1 := HGT.out _ (.inl hL); have y2 := old_rd h1 (by omega) hn ad e; omega
      have hA2 : 0 < n2 → ∀ ad, A2 = some ad → ¬ LS gd od ad.block := fun hn ad e hL => by have y1 := HGT.out _ (.inl hL); have y2 := old_rd h2 (by omega) hn ad e; omega
      have hA31 : 0 < n3 → ∀ ad, A3 = some ad → ¬ LS gd od ad.block := fun hn ad e hL => by have y1 := HGT.out _ (.inl hL); have y2 := old_rd h3 (by omega) hn ad e; omega
      have hA3 : 0 < n3 → ∀ ad, A3 = some ad → ¬ LS gc oc ad.block := fun hn ad e hL => by have y1 := HGT.out _ (.inr hL); have y2 := old_rd h3 (by omega) hn ad e; omega
      have hnb1 : ¬ LS gd od gk := fun h => by have := HGT.out gk (.inl h); omega
      have hnb3 : ¬ LS gc oc gk := fun h => by have := HGT.out gk (.inr h); omega
      have hsep : ∀ b, LS gc oc b → ¬ LS gd od b := fun b h1 h2 => hLe.sep b h2 h1
      have hzn : ¬ LS gd od wr.heap.size := fun h => by have := hLe.lt1 _ h; omega
      have hzc : ∀ b, wr.heap.size ≤ b → ¬ LS gc oc b := fun b hb h => by have := hLe.lt2 _ h; omega
      go_upto_region 7 with (fail)
      go_cut [6] from 19 to 32 (fun v W => ∃ gq r1 r3 rs1 rs3 E2 g2, v = .pointer (some ⟨gq, 0, none⟩) ∧ Gv wr W gd gc od oc lo hi n1 n2 n3 data code ts gq r1 r3 rs1 rs3 E2 g2)
      case first =>
        have hlt0 := hB.lt
        go_region_held3 (fun w' => w'.cell? ⟨gk, 0, none⟩ = some (.int .i64 lo) ∧ w'.cell? ⟨gk, 1, none⟩ = some (.int .i64 hi) ∧ w'.cell? ⟨gk, 2, none⟩ = some (.slice A1 n1 c1) ∧ w'.cell? ⟨gk, 3, none⟩ = some (.slice A2 n2 c2) ∧ w'.cell? ⟨gk, 4, none⟩ = some (.slice A3 n3 c3))
          (first | with_reducible exact hB.drew.c5 | with_reducible exact (hB.alloc _).drew.c5 | with_reducible exact (hB.drew.alloc _).c5 | with_reducible exact hB1.c5 | with_reducible exact (hB1.alloc _).c5 | with_reducible exact hB2.c5 | with_reducible exact (hB2.alloc _).c5 | with_reducible exact hB3.c5 | with_reducible exact (hB3.alloc _).c5 | exact c5_far5 hB3 (by omega) | go_keep)
          (first | (go_at_call 26; (with_reducible refine (CopyTables_any A2 n2 c2 ts _ ?_ (by omega)).mono ?_); (first | exact hT1 | exact hT1.alloc _); rintro e w2 ⟨E2, g2, rfl, own2, hb2⟩; have hX2 : Ext w1 w2 := (by first | exact hb2 | exact (Ext.new _ _).trans hb2); have own2 := own_from own2 (by first | exact Ext.refl _ | exact Ext.new _ _ : Ext w1 _); have hB2 := hB1.ext hX2; have hs2 := hX2.size; (try (have hZ2 := hZ1.ext hX2; obtain ⟨zf0, zf1, zf2, zf3, zf4⟩ := hZ2.f5; obtain ⟨zg0, zg1, zg2, zg3, zg4⟩ := hZ2.c5)); (try (have hZ2 := (Blk.new w1 25 #[.int .i64 0, .int .i64 0, .slice none 0 0, .slice none 0 0, .slice none 0 0]).ext hb2; obtain ⟨zf0, zf1, zf2, zf3, zf4⟩ := hZ2.f5; obtain ⟨zg0, zg1, zg2, zg3, zg4⟩ := hZ2.c5))) | (go_at_call 25; have tok := hX2; (with_reducible refine (Lend_any gc oc rsc A3 n3 c3 code _ ?_ ?_ hA3 (by omega) hLe.mc).mono ?_); (first | exact ((hLe.lc.keep hK1 hsep).ext hX2) | exact ((hLe.lc.keep hK1 hsep).ext hX2).alloc_ _); (first | exact hD1.ext hX2 | exact (hD1.ext hX2).alloc _); intro e w3 hP; obtain ⟨r3, rs3, rfl, hL3, hK3, hr3⟩ := hP.lt (wr := w2) (by first | exact Ext.refl _ | exact Ext.new _ _); (try (have hZ3 := hK3.blk hZ2 (hzc _ (by first | exact Nat.le_refl _ | exact hK1.size | exact Nat.le_trans (Ext.new _ _).size hK1.size)); obtain ⟨zf0, zf1, zf2, zf3, zf4⟩ := hZ3.f5; obtain ⟨zg0, zg1, zg2, zg3, zg4⟩ := hZ3.c5)); (try (have hZ3 := (hP.kp (wr := w2.alloc (.cells #[.int .i64 0, .int .i64 0, .slice none 0 0, .slice none 0 0, .slice none 0 0] 25)) (Ext.refl _)).blk (Blk.new w2 25 #[.int .i64 0, .int .i64 0, .slice none 0 0, .slice none 0 0, .slice none 0 0]) (hzc _ (Nat.le_trans hK1.size hX2.size)); obtain ⟨zf0, zf1, zf2, zf3, zf4⟩ := hZ3.f5; obtain ⟨zg0, zg1, zg2, zg3, zg4⟩ := hZ3.c5)); have hB3 := hK3.blk hB2 hnb3; have hs3 := hK3.size; have hC3 := ca_mk hLe hK1 hL1 hX2 own2 (Ext.refl _) hK3 hL3; clear hP) | (go_at_call 25; (with_reducible refine (Lend_any gd od rsd A1 n1 c1 data _ ?_ ?_ hA1 (by omega) hLe.md).mono ?_); (first | exact (hLe.ext (Ext.refl _).drew).ld | exact (hLe.ext (Ext.new _ _).drew).ld); (first | exact d1.ext (Ext.refl _).drew | exact d1.ext (Ext.new _ _).drew); intro e w1 hP; obtain ⟨r1, rs1, rfl, hL1, hK1, hr1⟩ := hP.lt (wr := wr) (by first | exact (Ext.refl _).drew | exact (Ext.new _ _).drew); (try (have hZ1 := (hP.kp (wr := wr.alloc (.cells #[.int .i64 0, .int .i64 0, .slice none 0 0, .slice none 0 0, .slice none 0 0] 25)) (Ext.refl _).drew).blk (Blk.new wr 25 #[.int .i64 0, .int .i64 0, .slice none 0 0, .slice none 0 0, .slice none 0 0]) hzn; obtain ⟨zf0, zf1, zf2, zf3, zf4⟩ := hZ1.f5; obtain ⟨zg0, zg1, zg2, zg3, zg4⟩ := hZ1.c5)); clear hP; have hB1 := hK1.blk hB hnb1; have hT1 := hK1.rd0 d2 hA2; have hD1 := hK1.rd0 d3 hA31; have hs1 := hK1.size))
        all_goals go_wp2
        all_goals go_meet
        all_goals case rel =>
          first
            | exact ⟨_, r1, r3, rs1, rs3, E2, g2, rfl, hC3.alloc⟩
            | exact ⟨_, r1, r3, rs1, rs3, E2, g2, rfl, hC3.box (by first | exact Nat.le_refl _ | exact hK1.size | exact Nat.le_trans hK1.size hX2.size) hZ3⟩
      case rest =>
      obtain ⟨gq, r1, r3, rs1, rs3, E2, g2, rfl, hG⟩ := hcut
      have l1 := hG.ld.rd L1.out
      have l3 := hG.lc.rd L3.out
      have hgkr := hB.lt
      have hBc := hG.kp.blk hB (fun h => h.elim hnb1 hnb3)
      have hXc : Ext w wc := hG.kp.ext hX (fun k h => by have := HGT.out k h; omega)
      have kk1 := hG.ld.k1
      have kk3 := hG.lc.k1
      have mm1 := hG.ld.m1
      have mm3 := hG.lc.m1
      obtain ⟨q0, q1, q2, q3, q4⟩ := hG.bq.c5
      obtain ⟨m1, hm1⟩ : ∃ m, rs1.length = m := ⟨_, rfl⟩
      obtain ⟨m3, hm3⟩ : ∃ m, rs3.length = m := ⟨_, rfl⟩
      rw [hm1] at kk1 mm1 q2
      rw [hm3] at kk3 mm3 q4
      have HM1 := hd hm1
      have HM3 := hd hm3
      clear hm1 hm3 hA1 hA2 hA31 hA3 d1 d2 d3 hB
      go_upto_region 9 with (go_at_call 66; (with_reducible refine (PProg_any lo hi (some ⟨r1, 0, none⟩) E2 (some ⟨r3, 0, none⟩) n1 n2 n3 m1 g2 m3 data code ts _ l1 hG.rt l3 (by omega) (by omega) (by omega) (by omega)).mono ?_); rw [HPP.out]; intro e w5 hP; obtain ⟨D1, e1, D2, e2, D3, e3, rfl, u1, u2, u3, hX5⟩ := hP.atT (p' := (at_ : Int)) rfl rfl rfl rfl; clear hP)
      refine wp_world (fun W8 => Ext w5 W8 ∧ Blk W8 w5.heap.size 90 #[.int .i64 plo, .int .i64 phi, .slice D1 pd.length e1, .slice D2 pt.length e2, .slice D3 pc.length e3]) ⟨Ext.new _ _, Blk.new _ _ _⟩ ?_
      generalize w5.heap.size = gs
      rintro W6 ⟨hX6, hS⟩
      have Y6 := hX5.trans hX6
      have hB6 := hBc.ext Y6
      have X6 := hXc.trans Y6
      have u1 := hX6.own u1
      have u2 := hX6.own u2
      have u3 := hX6.own u3
      have hz6 := Y6.size
      clear hX5 hX6 q0 q1 q2 q3 q4
      obtain ⟨p0, p1, p2, p3, p4⟩ := hB6.c5
      go_upto_region 10 with (first | (go_at_call 29; (with_reducible refine (CopyPack_any lo hi A1 A2 A3 n1 n2 n3 c1 c2 c3 data code ts _ (h1.ext X6) (h2.ext X6) (h3.ext X6) (by omega) (by omega) (by omega)).mono ?_); rintro e w7 ⟨B1, B2, B3, b1, b2, b3, rfl, o1, o2, o3, hX7⟩) | (go_at_call 67; (with_reducible refine (RProg_any lo hi B1 B2 B3 n1 n2 n3 b1 b2 b3 data code ts _ (Rd.of_own o1) (Rd.of_own o2) (Rd.of_own o3) (by omega) (by omega) (by omega) (own_le o3)).mono ?_); rw [HPP.out]; intro e w8 hP; obtain ⟨F1, f1, F2, f2, F3, f3, rfl, v1, v2, v3, hX8⟩ := hP.atT (p' := (at_ : Int)) rfl rfl rfl rfl; clear hP))
      refine wp_world (fun W9 => Ext w8 W9 ∧ Blk W9 w8.heap.size 90 #[.int .i64 plo, .int .i64 phi, .slice F1 pd.length f1, .slice F2 pt.length f2, .slice F3 pc.length f3]) ⟨Ext.new _ _, Blk.new _ _ _⟩ ?_
      generalize w8.heap.size = gt
      rintro W9 ⟨hX9, hT⟩
      have Y9 := (hX7.trans hX8).trans hX9
      have hB9 := hB6.ext Y9
      have hS9 := hS.ext Y9
      have X9 := X6.trans Y9
      have hz7 := hX7.size
      have u1 := Y9.own u1
      have u2 := Y9.own u2
      have u3 := Y9.own u3
      have v1 := own_base (hX9.own v1) (Nat.le_trans hz6 hz7)
      have v2 := own_base (hX9.own v2) (Nat.le_trans hz6 hz7)
      have v3 := own_base (hX9.own v3) (Nat.le_trans hz6 hz7)
      have Yc := Y6.trans Y9
      have hQ9 := hG.bq.ext Yc
      have t2 := hG.rt.ext Yc
      have l1 := l1.ext Yc
      have l3 := l3.ext Yc
      have D9 := hG.ld.lr.ext Yc
      have C9 := hG.lc.lr.ext Yc
      clear hX7 hX8 hX9 Y9 Y6 o1 o2 o3 p0 p1 p2 p3 p4 hB6 hS X6 hBc hXc
      rw [HM1.out, HM3.out] at hQ9
      have n90 : ∀ {b : Nat} {W : World} {g2 : Nat} {o2 : Option Nat} {rs2 : List UInt8} {cs : Array Value} {t : TypeId}, LR W g2 o2 rs2 → Blk W b t cs → t ≠ 28 → t ≠ 5 → ¬ LS g2 o2 b := by
        intro b W g2 o2 rs2 cs t h hb ht1 ht2
        rintro (rfl | ho)
        · cases o2 with
          | none => exact Blk.ne_ hb h.2 ht1 rfl
          | some r => exact Blk.ne_ hb h.1 ht1 rfl
        · subst ho
          exact Blk.ne_ hb h.2 ht2 rfl
      have HSM := hd (show samePackB lo hi data ts code lo hi data ts code = true by simp [samePackB])
      have T1 := hd hG.ld.t1
      have T3 := hd hG.lc.t1
      have SEP := hd hG.sep
      have OR1 := hd hG.ld.or_
      have OR3 := hd hG.lc.or_
      obtain ⟨p0, p1, p2, p3, p4⟩ := hB9.c5
      obtain ⟨q0, q1, q2, q3, q4⟩ := hQ9.c5
      have hk1m : 2 * n1 + 70 ≤ rs1.length := by rw [HM1.out]; exact kk1
      have hk3m : 2 * n3 + 70 ≤ rs3.length := by rw [HM3.out]; exact kk3
      have hm1m : rs1.length ≤ 1000000000 := by rw [HM1.out]; exact mm1
      have hm3m : rs3.length ≤ 1000000000 := by rw [HM3.out]; exact mm3
      have HPS' := HPS.out
      have HLT1 := hd hG.ld.lr.lt
      have HLT3 := hd hG.lc.lr.lt
      have HG1 := hd (show ∀ b, LS gd (some r1) b → gk < b by
        rintro b (rfl | hb)
        · exact HGT.out _ (.inl (.inl rfl))
        · injection hb with hb
          subst hb
          rcases OR1.out with h | h
          · exact HGT.out _ (.inl (.inr h))
          · omega)
      have HG3 := hd (show ∀ b, LS gc (some r3) b → gk < b by
        rintro b (rfl | hb)
        · exact HGT.out _ (.inr (.inl rfl))
        · injection hb with hb
          subst hb
          rcases OR3.out with h | h
          · exact HGT.out _ (.inr (.inr h))
          · omega)
      go_upto_region 11 with (first | (go_at_call 30; (with_reducible refine (SamePack_any lo hi lo hi (some ⟨r1, 0, none⟩) E2 (some ⟨r3, 0, none⟩) A1 A2 A3 n1 n2 n3 m1 g2 m3 n1 n2 n3 c1 c2 c3 data code data code ts ts _ l1 t2 l3 (h1.ext X9) (h2.ext X9) (h3.ext X9) (by omega) (by omega)).mono ?_); rw [HSM.out]; rintro e w10 ⟨rfl, hX10⟩; obtain ⟨x0, x1, x2, x3, x4⟩ := (hB9.ext hX10).c5; have X10 := X9.trans hX10; have D10 := D9.ext hX10; have C10 := C9.ext hX10) | (go_at_call 31; (with_reducible refine (Back_any gc r3 rs3 A3 n3 c3 code _ C11 T3.out hk3m hm3m (h3.ext X11) (by omega)).mono ?_); rintro e w12 ⟨rfl, rs3', hl3, C12, hK12⟩; have HL3 := hd hl3; clear hl3; have hS12 := hK12.blk (hK11.blk (hS9.ext hX10) (n90 D10 (hS9.ext hX10) (by decide) (by decide))) (n90 C11 (hK11.blk (hS9.ext hX10) (n90 D10 (hS9.ext hX10) (by decide) (by decide))) (by decide) (by decide)); have hT12 := hK12.blk (hK11.blk (hT.ext hX10) (n90 D10 (hT.ext hX10) (by decide) (by decide))) (n90 C11 (hK11.blk (hT.ext hX10) (n90 D10 (hT.ext hX10) (by decide) (by decide))) (by decide) (by decide)); have hB12 := hK12.blk hB11 (n90 C11 hB11 (by decide) (by decide)); obtain ⟨y0, y1, y2, y3, y4⟩ := hS12.c5; obtain ⟨z0, z1, z2, z3, z4⟩ := hT12.c5) | (go_at_call 31; (with_reducible refine (Back_any gd r1 rs1 A1 n1 c1 data _ D10 T1.out hk1m hm1m (h1.ext X10) (by omega)).mono ?_); rintro e w11 ⟨rfl, rs1', hl1, D11, hK11⟩; have HL1 := hd hl1; clear hl1; have C11 := C10.keep hK11 (fun b h1 h2 => SEP.out b h2 h1); have hB11 := hK11.blk (hB9.ext hX10) (n90 D10 (hB9.ext hX10) (by decide) (by decide)); obtain ⟨x0, x1, x2, x3, x4⟩ := hB11.c5; have X11 : Ext w w11 := hK11.ext X10 (fun k h => by have := HG1.out k h; omega)) | (go_at_call 32; (with_reducible refine (Num_any er _).mono ?_); rintro e w13 ⟨rfl, rfl⟩) | (go_at_call 61; (with_reducible refine (SameProgram_any plo phi plo phi D1 D2 D3 F1 F2 F3 pd.length pt.length pc.length e1 e2 e3 pd.length pt.length pc.length f1 f2 f3 pd pd pc pc pt pt _ (Rd.of_own (hK12.own (hK11.own (hX10.own u1) (own_far u1 HLT1.out)) (own_far u1 HLT3.out))) (Rd.of_own (hK12.own (hK11.own (hX10.own u2) (own_far u2 HLT1.out)) (own_far u2 HLT3.out))) (Rd.of_own (hK12.own (hK11.own (hX10.own u3) (own_far u3 HLT1.out)) (own_far u3 HLT3.out))) (Rd.of_own (hK12.own (hK11.own (hX10.own v1) (own_far v1 HLT1.out)) (own_far v1 HLT3.out))) (Rd.of_own (hK12.own (hK11.own (hX10.own v2) (own_far v2 HLT1.out)) (own_far v2 HLT3.out))) (Rd.of_own (hK12.own (hK11.own (hX10.own v3) (own_far v3 HLT1.out)) (own_far v3 HLT3.out))) (by omega) (by omega) (by omega) (by omega)).mono ?_); rintro e w14 ⟨r, hr, rfl, hX14⟩; obtain rfl : r = true := hr.mpr ⟨rfl, rfl, rfl, rfl, rfl⟩; clear hr))
      have X12 : Ext w w12 := hK12.ext X11 (fun k h => by have := HG3.out k h; omega)
      have D14 := (D11.keep hK12 (fun b h1 h2 => SEP.out b h1 h2)).ext hX14
      have C14 := C12.ext hX14
      have X14 := X12.trans hX14
      have B14 := hB12.ext hX14
      have HGF := hd (show ∀ b, (LS gd (some r1) b ∨ LS gc (some r3) b) → gk < b from fun b h => h.elim (HG1.out b) (HG3.out b))
      clear hS12 hT12 hB12 hB11 x0 x1 x2 x3 x4 y0 y1 y2 y3 y4 z0 z1 z2 z3 z4 p0 p1 p2 p3 p4 q0 q1 q2 q3 q4 u1 u2 u3 v1 v2 v3 hK11 hK12 D10 C10 D11 C11 C12 X9 X10 X11 X12 hB9 hS9 hT hQ9 l1 l3 t2
      have L14 : Le w14 gd gc (some r1) (some r3) rs1' rs3' := ⟨D14, C14, by rw [HL1.out]; exact hm1m, by rw [HL3.out]; exact hm3m, SEP.out⟩
      go_wp2
      go_roundw
      case rel => exact ⟨k + 1, some r1, some r3, rs1', rs3', by go_num, by omega, X14, B14, L14, HGF⟩
      case measure => simp [intOf]; omega
    · obtain rfl : k = 2 := by omega
      go_wp2
      go_ret
      exact ⟨rfl, hX⟩

end Go.Proofs.Ytfcbedkidjclhaa
