/-
  The contracts of the lender of bytes: Lend, Back.
  Conditions: the bytes can be read, lie elsewhere than the lender's, and are not very many.
-/
import Derived.Test.YtfcbedkidjclhaaKeep
import Derived.Laws.CopyOwn
import Derived.Laws.OwnMore
import Derived.Deep.CutBlock
namespace Go.Proofs.Ytfcbedkidjclhaa
open Go.RowKit
set_option maxRecDepth 100000
set_option linter.unusedSimpArgs false
set_option linter.unusedVariables false

/-- the mark at a place behind what is lent -/
def mk (i : Nat) : UInt8 := Pk.byte (151 + 7 * (i : Int))
def mks (k : Nat) : List UInt8 := (List.range k).map mk
theorem mks_succ (k : Nat) : mks (k + 1) = mks k ++ [mk k] := by simp [mks, List.range_succ]
theorem mks_length (k : Nat) : (mks k).length = k := by simp [mks]
theorem mks_get {k i : Nat} (h : i < k) : (mks k)[i]? = some (mk i) := by simp [mks, h]

theorem behind_any (i : Nat) (hi : i ≤ 4000000000) (w : World) : Calls Try.prog 69 #[.int .i64 i] w fun e w' => e = .returned (.int .u8 (((mk i).toNat : Nat) : Int)) ∧ w = w' := by
  have hv : IntKind.u8.wrap (151 + 7 * (i : Int)) = (((mk i).toNat : Nat) : Int) := by rw [IntKind.wrap_u8, mk, Pk.byte_toNat]
  have HV := hd hv
  clear hv
  go_enter Try.func69, Try.ntmps69
  go_wp2
  go_ret
  refine ⟨?_, rfl⟩
  rw [← HV.out, IntKind.wrap_u8]
  rfl

/-- the lender's room: its box, where the room lies, what lies there -/
def LR (w : World) (g : Nat) : Option Nat → List UInt8 → Prop
  | none, rs => rs = [] ∧ Blk w g 28 #[.slice none 0 0]
  | some r, rs => Blk w g 28 #[.slice (some ⟨r, 0, none⟩) rs.length rs.length] ∧ Blk w r 5 (bv rs).toArray
/-- what the lender may change -/
def LS (g : Nat) (o : Option Nat) (b : Nat) : Prop := b = g ∨ o = some b

theorem LR.ne {w : World} {g r : Nat} {rs : List UInt8} (h : LR w g (some r) rs) : r ≠ g := Ne.symm (Blk.ne_ h.1 h.2 (by decide))
theorem LR.keep {S : Nat → Prop} {w w' : World} {g : Nat} {o : Option Nat} {rs : List UInt8} (h : LR w g o rs) (k : Kp S w w') (hS : ∀ b, LS g o b → ¬ S b) : LR w' g o rs := by
  cases o with
  | none => exact ⟨h.1, k.blk h.2 (hS _ (.inl rfl))⟩
  | some r => exact ⟨k.blk h.1 (hS _ (.inl rfl)), k.blk h.2 (hS _ (.inr rfl))⟩
theorem LR.ext {w w' : World} {g : Nat} {o : Option Nat} {rs : List UInt8} (h : LR w g o rs) (k : Ext w w') : LR w' g o rs := h.keep (S := fun _ => False) (Kp.of_ext k) fun _ _ e => e
theorem LR.put {w : World} {g r j : Nat} {rs : List UInt8} (h : LR w g (some r) rs) (x : UInt8) : LR (w.setCell ⟨r, j, none⟩ (.int .u8 ((x.toNat : Nat) : Int))) g (some r) (rs.set j x) := by
  have hne := h.ne
  refine ⟨?_, ?_⟩
  · rw [List.length_set]
    exact h.1.far (p := ⟨r, j, none⟩) (Ne.symm hne) _
  · have := h.2.set_ j (.int .u8 ((x.toNat : Nat) : Int))
    rwa [List.setIfInBounds_toArray, bv_set] at this
theorem LR.rd {w : World} {g r : Nat} {rs : List UInt8} (h : LR w g (some r) rs) : Rd w 1 (some ⟨r, 0, none⟩) rs.length (bv rs) := by
  refine ⟨by rw [bv_length]; omega, fun _ => ⟨_, rfl, fun j u hj => ?_⟩⟩
  rw [show (⟨r, 0, none⟩ : Addr).add j = ⟨r, j, none⟩ by unfold Addr.add; split <;> simp_all, h.2.cell j]
  simpa using hj
theorem LR.cell {w : World} {g r : Nat} {rs : List UInt8} (h : LR w g (some r) rs) {j : Nat} {x : UInt8} (hj : rs[j]? = some x) : w.cell? ⟨r, j, none⟩ = some (.int .u8 ((x.toNat : Nat) : Int)) := by
  rw [h.2.cell j]
  simp [bv, hj]
theorem set_next {rs l : List UInt8} {m : Nat} {x : UInt8} (h : rs.take m = l) (hm : m < rs.length) : (rs.set m x).take (m + 1) = l ++ [x] := by
  rw [List.take_succ_eq_append_getElem (by rw [List.length_set]; exact hm), List.take_set_of_le (Nat.le_refl _), h]
  simp

theorem wl_copyK {P : Program} {w : World} {ops : Array Oper} {rest : List Oper} {dst : Option Tmp} {ty : TypeId} {ps : String} {af : Array Edge} {a : Act} {Q : Exit → Act → World → Prop} (d s : Operand) (dT sT : TypeId)
    (elem : TypeId) (hu : P.underlying dT = some (.slice elem)) (hsz : (P.info? elem).map (·.size) = some 1)
    (r dLen dCap : Nat) (A : Option Addr) (n c : Nat) (hd : a.eval d = .slice (some ⟨r, 0, none⟩) dLen dCap) (hs : a.eval s = .slice A n c)
    (rs bs : List UInt8) (hg : Blk w r 5 (bv rs).toArray) (hR : Rd w 1 A n (bv bs)) (hl : bs.length = n) (hn : n ≤ dLen) (hr : dLen = rs.length)
    (h : ∀ w', Blk w' r 5 (bv (bs ++ rs.drop n)).toArray → Kp (fun b => b = r) w w' → wpList P ops Q rest (a.put dst (.int .i64 (n : Int))) w') :
    wpList P ops Q (⟨dst, .call { callee := .builtin .copy, args := #[d, s], argTypes := #[dT, sT] }, ty, ps, af, none⟩ :: rest) a w := by
  have hgi : goInt (bv bs).length = .int .i64 (n : Int) := by rw [bv_length, hl]; rfl
  by_cases h0 : n = 0
  · obtain rfl : bs = [] := List.eq_nil_of_length_eq_zero (by omega)
    refine wpList_copy_nothing rfl d s dT sT rfl elem hu hsz (some ⟨r, 0, none⟩) A dLen dCap n c hd hs (by rw [h0]; exact Nat.zero_min _) ?_
    subst h0
    exact h w (by simpa using hg) (Kp.refl w)
  · obtain ⟨ad, rfl, hsrc⟩ := hR.2 (by omega)
    refine wpList_copy_own rfl d s dT sT rfl elem hu hsz r 0 dLen dCap ad n c hd hs (bv rs).toArray 5 hg (bv bs) (by rw [bv_length, hl]; exact (Nat.min_eq_left hn).symm) hsrc (by rw [List.size_toArray, bv_length, bv_length]; omega) (bv_one _) ?_
    have e : ((bv rs).toArray.toList.take 0 ++ (bv bs ++ (bv rs).toArray.toList.drop (0 + (bv bs).length))) = bv (bs ++ rs.drop n) := by
      rw [bv_append, bv_length, hl]
      simp [bv_drop]
    rw [e]
    show wpList P ops Q rest (a.put dst (goInt (bv bs).length)) _
    rw [hgi]
    exact h _ (setRow_heap w r _ _ 5 _ hg) (Kp.row (S := fun b => b = r) (Kp.refl w) (.inl rfl) _)

theorem slice_lend (r m n : Nat) (h : n ≤ m) (v : World) :
    Sem.run Try.prog (Instr.slice 22 (.slice (some ⟨r, 0, none⟩) m m) none (some (.int .i64 (n : Int))) none) v = .ok (.slice (some ⟨r, 0, none⟩) n m) v := by
  have h1 : (n : Int) ≤ (m : Int) := by omega
  simp [go_sem, Try.underlying22, h1]

theorem made_zeroK (n : Nat) : (madeCells (Value.int .u8 0).cells (n * 1)).toList = bv (List.replicate n 0) := by
  apply List.ext_getElem
  · simp [madeCells, bv]
  · intro i h1 h2
    simp [madeCells, bv, Value.cells, Nat.mod_one]
theorem own_blk5 {w : World} {base g n : Nat} {l : List UInt8} (h : w.ownsRow base 5 1 (.slice (some ⟨g, 0, none⟩) n n) n (bv l)) : Blk w g 5 (bv l).toArray := by
  rcases h.2 with ⟨h1, h0⟩ | ⟨g', cap, cur, hv, _, hh, h4, h5, h6, h7⟩
  · injection h1 with h1; cases h1
  · injection hv with e1 e2 e3
    injection e1 with e1
    injection e1 with e1
    subst e1
    subst e3
    have : cur = (bv l).toArray := by
      rw [← h7, List.take_of_length_le (by rw [Array.length_toList, h6]; exact Nat.le_refl _)]
    rw [← this]
    exact hh

theorem Kp.rd0 {S : Nat → Prop} {w w' : World} (h : Kp S w w') {sz n : Nat} {A : Option Addr} {xs : List Value} (hr : Rd w sz A n xs) (hne : 0 < n → ∀ ad, A = some ad → ¬ S ad.block) : Rd w' sz A n xs :=
  ⟨hr.1, fun hn => by
    obtain ⟨ad, e, hc⟩ := hr.2 hn
    exact ⟨ad, e, fun j u hu => h.cell (hc j u hu) (by rw [blk_add]; exact hne hn ad e)⟩⟩
/-- what can be read was there -/
theorem old_rd {w : World} {sz n : Nat} {A : Option Addr} {xs : List Value} (h : Rd w sz A n xs) (hs : 0 < sz) : 0 < n → ∀ ad, A = some ad → ad.block < w.heap.size := by
  intro hn ad hA
  obtain ⟨b, o, hb', hc⟩ := h.form hn hs
  rw [hA] at hb'
  injection hb' with hb'
  subst hb'
  have hl : 0 < xs.length := by rw [h.1]; exact Nat.mul_pos hn hs
  exact World.block_lt_of_cell? w _ (hc 0 _ (List.getElem?_eq_getElem hl))

def LendPost (n : Nat) (bs : List UInt8) (g : Nat) (o : Option Nat) (w : World) (e : Ending) (w' : World) : Prop :=
  ∃ r rs, e = .returned (.slice (some ⟨r, 0, none⟩) n rs.length) ∧ (o = some r ∨ w.heap.size ≤ r) ∧ LR w' g (some r) rs ∧ rs.length ≤ 1000000000 ∧ 2 * n + 70 ≤ rs.length ∧ rs.take (2 * n + 70) = bs ++ mks (n + 70) ∧ Kp (LS g o) w w'

set_option maxHeartbeats 1000000 in
theorem Lend_any (g : Nat) (o : Option Nat) (rs : List UInt8) (A : Option Addr) (n c : Nat) (bs : List UInt8) (w : World) (hL : LR w g o rs) (hR : Rd w 1 A n (bv bs)) (hA : 0 < n → ∀ ad, A = some ad → ¬ LS g o ad.block) (hn : n ≤ 100000000) (hrs : rs.length ≤ 1000000000) :
    Calls Try.prog 25 #[.pointer (some ⟨g, 0, none⟩), .slice A n c] w (LendPost n bs g o w) := by
  have hl : bs.length = n := by have := hR.1; rw [bv_length] at this; omega
  obtain ⟨R, hB, hcap⟩ : ∃ R : Option Addr, Blk w g 28 #[.slice R rs.length rs.length] ∧ (R = o.map fun r => ⟨r, 0, none⟩) := by
    cases o with
    | none => obtain ⟨rfl, h⟩ := hL; exact ⟨none, h, rfl⟩
    | some r => exact ⟨_, hL.1, rfl⟩
  have b0 := hB.c1
  obtain ⟨i0, hi0, hz0, hz1, hz2⟩ := info_parts info5
  obtain ⟨t, ht⟩ : ∃ t, decide ((rs.length : Int) < 2 * (n : Int) + 70) = t := ⟨_, rfl⟩
  go_enter Try.func25, Try.ntmps25
  go_upto_if 17 with (fail)
  go_cut [] from 18 to 24 (fun W => ∃ r rs1, (o = some r ∨ w.heap.size ≤ r) ∧ LR W g (some r) rs1 ∧ rs1.length ≤ 1000000000 ∧ 2 * n + 70 ≤ rs1.length ∧ Kp (LS g o) w W)
  case first =>
    cases t with
    | true =>
      have hs : rs.length < 2 * n + 70 := by have := of_decide_eq_true ht; omega
      go_wp2_with (at_make; refine wpList_make_full _ rfl (.tmp 21) (.tmp 21) 22 rfl w.heap.size 5 i0 _ 1 Try.underlying22 hi0 hz0 hz1 .i64 .i64 (4 * (n : Int) + 200) (4 * (n : Int) + 200) (4 * n + 200) rfl rfl (by omega) (by omega) (by rw [hz2]; omega) (by unfold maxLen; omega) (Nat.le_refl _) ?_; intro w1 hown1 hg1; rw [made_zeroK] at hown1; have hX1 : Ext w w1 := (Ext.refl w).grown hg1 (by simp); have b1 := (hB.ext hX1).c1; have f1 := (hB.ext hX1).free 0)
      go_meet
      case rel =>
        have hb1 := own_blk5 hown1
        have hB1 := hB.ext hX1
        have hlt := hB.lt
        refine ⟨w.heap.size, List.replicate (4 * n + 200) 0, .inr (Nat.le_refl _), ⟨?_, ?_⟩, ?_, ?_, ?_⟩
        · rw [List.length_replicate]
          exact hB1.set_ 0 _
        · exact hb1.far (p := ⟨g, 0, none⟩) (by simp only; omega) _
        · rw [List.length_replicate]; omega
        · rw [List.length_replicate]; omega
        · exact (Kp.of_ext hX1).set ⟨g, 0, none⟩ (.inl (.inl rfl)) _
    | false =>
      have hs : ¬ rs.length < 2 * n + 70 := by have := of_decide_eq_false ht; omega
      go_wp2
      go_meet
      case rel =>
        cases o with
        | none => obtain ⟨rfl, _⟩ := hL; simp at hs
        | some r => exact ⟨r, rs, .inl rfl, hL, hrs, by omega, Kp.refl w⟩
  case rest =>
    obtain ⟨r, rs1, hor, hL1, hm1, hm2, hK1⟩ := hcut
    clear ht b0 hL hB hcap
    have hR1 : Rd wc 1 A n (bv bs) := hK1.rd0 hR hA
    have r0 := hL1.1.c1
    have hne := hL1.ne
    go_upto_region 5 with (refine wl_copyK (.tmp 28) (.tmp 29) 22 22 5 Try.underlying22 (by kernel_rfl) r rs1.length rs1.length A n c rfl rfl rs1 bs hL1.2 hR1 hl (by omega) rfl ?_; intro w2 hB2 hK2)
    have hLn : (bs ++ rs1.drop n).length = rs1.length := by rw [List.length_append, List.length_drop]; omega
    have hL2 : LR w2 g (some r) (bs ++ rs1.drop n) := ⟨by rw [hLn]; exact hK2.blk hL1.1 (Ne.symm hne), hB2⟩
    have hS2 : ∀ i, i < w.heap.size → i = r → LS g o i := fun i hi e => by
      rcases hor with h1 | h1
      · exact .inr (by rw [e]; exact h1)
      · omega
    have hK12 : Kp (LS g o) w w2 := hK1.trans hK2 hS2
    have hset : LS g o r ∨ w.heap.size ≤ r := hor.imp .inr id
    have htk : (bs ++ rs1.drop n).take (n + 0) = bs ++ mks 0 := by simp [mks, ← hl]
    clear hK1 hK2 hB2 hR1 hL1 r0
    go_wp2
    go_loopw [6] (fun i wr => ∃ (k : Nat) (rs2 : List UInt8), i = .int .i64 k ∧ k ≤ n + 70 ∧ rs2.length = rs1.length ∧ LR wr g (some r) rs2 ∧ Hid (rs2.take (n + k) = bs ++ mks k) ∧ Kp (LS g o) w wr) (fun i _ => n + 70 - (intOf i).toNat)
    case atStart => exact ⟨0, _, rfl, by omega, hLn, hL2, hd htk, hK12⟩
    case round =>
      obtain ⟨k, rs2, rfl, hk, hlen, hLR, HT, hKp⟩ := hrel
      have q0 := hLR.1.c1
      rw [hlen] at q0
      by_cases hlt : k < n + 70
      · have e1 : (k : Int) < (n : Int) + 70 := by omega
        have fz := hLR.2.free (n + k)
        obtain ⟨cz, hcz⟩ : ∃ x, rs2[n + k]? = some x := ⟨_, List.getElem?_eq_getElem (by omega)⟩
        have k0 := hLR.cell hcz
        have N69 : Calls Try.prog 69 #[.int .i64 (k : Int)] wr.drew (fun e w'' => e = .returned (.int .u8 (((mk k).toNat : Nat) : Int)) ∧ w'' = wr.drew) :=
          (behind_any k (by omega) wr.drew).mono (by rintro e w1 ⟨rfl, rfl⟩; exact ⟨rfl, rfl⟩)
        go_upto_region 8 with (fail)
        refine wp_region_still_tail 10 (by kernel_rfl) (by kernel_rfl) ?_
        simp only [List.take_succ_cons, List.take_zero, List.drop_succ_cons, List.drop_zero]
        repeat still_step
        still_call N69
        rw [show IntKind.i64.wrap ((n : Int) + (k : Int)) = (n : Int) + (k : Int) by rw [IntKind.wrap_i64]; omega]
        have i0 : 0 ≤ (n : Int) + (k : Int) := by omega
        have i1 : (n : Int) + (k : Int) < (rs1.length : Int) := by omega
        have i2 : ((n : Int) + (k : Int)).toNat = n + k := by omega
        repeat still_step
        try refine wpStill_nil ?_
        change wpList _ _ _ _ _ wr.drew
        go_wp2
        have hnx : (rs2.set (n + k) (mk k)).take (n + (k + 1)) = bs ++ mks (k + 1) := by
          rw [mks_succ, ← List.append_assoc, ← Nat.add_assoc]
          exact set_next HT.out (by omega)
        go_roundw
        case rel => exact ⟨k + 1, rs2.set (n + k) (mk k), by go_num, by omega, by rw [List.length_set]; exact hlen, hLR.put (mk k), hd hnx, hKp.drew.set ⟨r, n + k, none⟩ hset _⟩
        case measure => simp [intOf]; omega
      · obtain rfl : k = n + 70 := by omega
        have e1 : ¬ ((n + 70 : Nat) : Int) < (n : Int) + 70 := by omega
        have hsl := slice_lend r rs1.length n (by omega) wr
        go_wp2
        go_ret
        refine ⟨r, rs2, by rw [hlen]; rfl, hor, hLR, by omega, by omega, ?_, hKp⟩
        have := HT.out
        rwa [show n + (n + 70) = 2 * n + 70 by omega] at this

end Go.Proofs.Ytfcbedkidjclhaa
