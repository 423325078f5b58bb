/-
  The book of bytes that were handed out: what it holds, its marks, its look.
  Conditions: as named.
-/
import Derived.Test.YtfcbedkidjclhaaSp
import Derived.Test.YtfcbedkidjclhaaCopy
import Derived.Deep.CutBlock
namespace Go.Proofs.Ytfcbedkidjclhaa
open Go.RowKit
set_option maxRecDepth 100000
set_option linter.unusedSimpArgs false
set_option linter.unusedVariables false

/-- a caller's mark: of a list's number and a place -/
def Bm (list i : Nat) : UInt8 := Pk.byte (37 * (list : Int) + 11 * (i : Int) + (list : Int) / 7)
def Bms (list n : Nat) : List UInt8 := (List.range n).map (Bm list)
theorem Bms_succ (q k : Nat) : Bms q (k + 1) = Bms q k ++ [Bm q k] := by simp [Bms, List.range_succ]
theorem Bms_length (q k : Nat) : (Bms q k).length = k := by simp [Bms]
theorem Bms_get {q k i : Nat} (h : i < k) : (Bms q k)[i]? = some (Bm q i) := by simp [Bms, h]

theorem own_any (q i : Nat) (hq : q ≤ 1000000) (hi : i ≤ 4000000000) (w : World) : Calls Try.prog 114 #[.int .i64 q, .int .i64 i] w fun e w' => e = .returned (.int .u8 (((Bm q i).toNat : Nat) : Int)) ∧ w = w' := by
  have hv : IntKind.u8.wrap (37 * (q : Int) + 11 * (i : Int) + (q : Int) / 7) = (((Bm q i).toNat : Nat) : Int) := by rw [IntKind.wrap_u8, Bm, Pk.byte_toNat]
  have HV := hd hv
  clear hv
  go_enter Try.func114, Try.ntmps114
  go_wp2
  go_ret
  refine ⟨?_, rfl⟩
  rw [← HV.out, IntKind.wrap_u8]
  rfl

/-- a list that lies untouched, and its copy -/
structure BF where
  A : Option Addr
  c : Nat
  l : List UInt8
  B : Option Addr
  d : Nat
def BF.v (r : BF) : Value := .slice r.A r.l.length r.c
def BF.u (r : BF) : Value := .slice r.B r.l.length r.d
def BF.row (r : BF) : Res := .row 5 1 r.v r.l.length (bv r.l)
def BF.was (r : BF) : Res := .rd 1 r.B r.l.length (bv r.l)
/-- a list that was written over -/
structure BK where
  A : Option Addr
  n : Nat
  c : Nat
  q : Nat
def BK.v (k : BK) : Value := .slice k.A k.n k.c
def BK.num (k : BK) : Value := .int .i64 (k.q : Int)
def BK.rd (k : BK) : Res := .rd 1 k.A k.n (bv (Bms k.q k.n))

/-- the book's box and its four lists, and what lies beside -/
structure Bk0 (w : World) (g : Nat) (cnt tot : Int) (F : List BF) (K : List BK) (vF vW vK vN : Value) (L : List Res) : Prop where
  sp : Sp w (Res.blk g 33 #[.int .i64 cnt, .int .i64 tot, vF, vW, vK, vN, .bool false] :: Res.row 22 1 vF F.length (F.map BF.v) :: Res.row 22 1 vW F.length (F.map BF.u) :: Res.row 22 1 vK K.length (K.map BK.v) :: Res.row 3 1 vN K.length (K.map BK.num) :: L)

section
variable {w : World} {g : Nat} {t : TypeId} {a b c d e f i j : Value}
theorem Blk.c7 (h : Blk w g t #[a, b, c, d, e, f, i]) : w.cell? ⟨g, 0, none⟩ = some a ∧ w.cell? ⟨g, 1, none⟩ = some b ∧ w.cell? ⟨g, 2, none⟩ = some c ∧ w.cell? ⟨g, 3, none⟩ = some d ∧ w.cell? ⟨g, 4, none⟩ = some e ∧ w.cell? ⟨g, 5, none⟩ = some f ∧ w.cell? ⟨g, 6, none⟩ = some i :=
  ⟨h.cell 0, h.cell 1, h.cell 2, h.cell 3, h.cell 4, h.cell 5, h.cell 6⟩
end

/-- the form of a row that holds something -/
theorem row_some {w : World} {e : TypeId} {sz n : Nat} {v : Value} {xs : List Value} (h : (Res.row e sz v n xs).holds w) : ∃ A c, v = .slice A n c ∧ n ≤ c ∧ Rd w sz A n xs := by
  obtain ⟨A, c, rfl, h1, _, h2⟩ := own_rd (h : w.ownsRow 0 e sz v n xs)
  exact ⟨A, c, rfl, h1, h2⟩

set_option maxHeartbeats 1000000 in
theorem look_any (w : World) (g : Nat) (cnt tot : Int) (F : List BF) (vF vW vK vN : Value) (nF : Nat) (hn : F.length = nF)
    (hB : Blk w g 33 #[.int .i64 cnt, .int .i64 tot, vF, vW, vK, vN, .bool false]) (hF : (Res.row 22 1 vF nF (F.map BF.v)).holds w) (hW : (Res.row 22 1 vW nF (F.map BF.u)).holds w)
    (nF' : vF.ownBlock ≠ some g) (nW' : vW.ownBlock ≠ some g) (hr : ∀ r ∈ F, r.row.holds w ∧ r.v.ownBlock ≠ some g) (hw : ∀ r ∈ F, r.was.holds w ∧ ¬ r.was.foot g) (hs : nF ≤ 1000000) :
    Calls Try.prog 113 #[.pointer (some ⟨g, 0, none⟩)] w fun e w' => e = .returned (.tuple #[]) ∧ Kp (fun b => b = g) w w' ∧ Blk w' g 33 #[.int .i64 cnt, .int .i64 tot, vF, vW, vK, vN, .bool false] := by
  have HN := hd hn
  clear hn
  go_enter Try.func113, Try.ntmps113
  go_wp2
  go_loopw [2] (fun i wr => ∃ k : Nat, i = .int .i64 k ∧ k ≤ nF ∧ Kp (fun b => b = g) w wr ∧ Blk wr g 33 #[.int .i64 cnt, .int .i64 tot, vF, vW, vK, vN, .bool false]) (fun i _ => nF - (intOf i).toNat)
  case atStart => exact ⟨0, rfl, by omega, Kp.refl w, hB⟩
  case round =>
    obtain ⟨k, rfl, hk, hK, hBr⟩ := hrel
    have hF2 := Res.keep (r := .row 22 1 vF nF (F.map BF.v)) hF hK (fun b e1 e2 => nF' (by rw [e1, e2]))
    have hW2 := Res.keep (r := .row 22 1 vW nF (F.map BF.u)) hW hK (fun b e1 e2 => nW' (by rw [e1, e2]))
    obtain ⟨aF, cF, rfl, hcF, hRF⟩ := row_some hF2
    obtain ⟨aW, cW, rfl, hcW, hRW⟩ := row_some hW2
    obtain ⟨p0, p1, p2, p3, p4, p5, p6⟩ := hBr.c7
    have q6 := hBr.free 6
    by_cases hlt : k < nF
    · have e1 : (k : Int) < (nF : Int) := by omega
      have hkF : k < F.length := by rw [HN.out]; exact hlt
      obtain ⟨bF, oF, rfl, hcellF⟩ := hRF.form (by omega) (by omega)
      obtain ⟨bW, oW, rfl, hcellW⟩ := hRW.form (by omega) (by omega)
      have r0 := hcellF k _ (by rw [List.getElem?_map, List.getElem?_eq_getElem hkF]; rfl)
      have r1 := hcellW k _ (by rw [List.getElem?_map, List.getElem?_eq_getElem hkF]; rfl)
      have hrk := hr F[k] (List.getElem_mem hkF)
      have hwk := hw F[k] (List.getElem_mem hkF)
      generalize F[k] = r at r0 r1 hrk hwk
      have hrow := Res.keep hrk.1 hK (fun b e1 e2 => hrk.2 (by rw [← e2]; exact e1))
      have hwas := Res.keep hwk.1 hK (fun b e1 e2 => hwk.2 (by rw [← e2]; exact e1))
      obtain ⟨A, c, l, B, d⟩ := r
      simp only [BF.v, BF.u] at r0 r1
      have N33 : Calls Try.prog 33 #[.slice A l.length c, .slice B l.length d] wr.drew (fun e w'' => e = .returned (.bool true) ∧ w'' = wr.drew) :=
        (SameBytes_any A B l.length l.length c d l l wr.drew ((Rd.of_own hrow).drew) hwas.2.drew).mono (by rw [beq_self_eq_true]; rintro e w1 ⟨rfl, rfl⟩; exact ⟨rfl, rfl⟩)
      clear hrk hwk hrow hwas hcellF hcellW hF2 hW2 hRF hRW
      go_upto_region 3 with (fail)
      refine wp_region_still_tail 25 (by kernel_rfl) (by kernel_rfl) ?_
      simp only [List.take_succ_cons, List.take_zero, List.drop_succ_cons, List.drop_zero]
      repeat still_step
      still_call N33
      repeat still_step
      try refine wpStill_nil ?_
      go_wp2
      go_roundw
      case rel => exact ⟨k + 1, by go_num, by omega, hK.drew.set ⟨g, 6, none⟩ (.inl rfl) _, hBr.drew.set_ 6 _⟩
      case measure => simp [intOf]; omega
    · have e1 : ¬ (k : Int) < (nF : Int) := by omega
      go_wp2
      go_end0
      exact ⟨rfl, hK, hBr⟩

end Go.Proofs.Ytfcbedkidjclhaa
