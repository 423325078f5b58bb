/-
  What the document's answer for package code reads and writes, in plain Lean, against the definition: one instruction out of bytes, and into bytes. No program in sight.
  No condition beyond those each statement names.
-/
import Derived.Test.YtfcbedkidjclhaaRefM
namespace Go.Proofs.Ytfcbedkidjclhaa.Rf
open Cd (Ins u8 fields)
set_option maxRecDepth 100000
set_option linter.unusedSimpArgs false
set_option linter.unusedVariables false

/-- the rows of an opcode -/
def rowsOf (c : Int) : List Row := rows.filter fun y => decide (y.code = c)
/-- do a row's fields fit? -/
def fits (y : Row) (dst src off : Int) : Bool := (decide (y.dst = -1) || decide (y.dst = dst)) && (decide (y.src = -1) || decide (y.src = src)) && (decide (y.off = -1) || decide (y.off = off))
/-- a number as 32 bits without sign -/
def unsig (m : Int) : Int := if m < 0 then m + 4294967296 else m
/-- the instruction that a row tells; hi: the second unit's number -/
def readI (y : Row) (dst src off imm hi : Int) : Ins :=
  ⟨y.op, y.narrow, y.reg, y.size, if y.dst = -1 then dst else 0, if y.src = -1 then src else 0, if y.off = -1 then off else 0,
    if y.op = 20 then hi * 4294967296 + unsig imm else if y.op = 21 then hi else if y.imm = -1 then imm else 0⟩
def read (y : Row) (dst src off imm hi : Int) : Option Ins :=
  if y.imm ≠ -1 ∧ y.imm ≠ imm then none
  else if (y.imm = -1 ∨ y.second = -1) ∧ good y (readI y dst src off imm hi).imm = false then none
  else some (readI y dst src off imm hi)
/-- the second unit's number -/
def hiOf (u : List UInt8) : Int := (fields (u.drop 8)).imm
/-- the instruction at the beginning of bytes, and how many units -/
def one (u : List UInt8) : Except Int (Ins × Nat) :=
  if u.length < 8 then .error 20
  else
    let f := fields u
    let l := rowsOf f.op
    match l with
    | [] => .error 21
    | y :: _ =>
      let n := if f.op = 24 then 2 else 1
      if u.length < 8 * n then .error 20
      else if regs y f.dst f.src f.imm = false then .error 22
      else
        let fit := l.filter fun y => fits y f.dst f.src f.off
        if fit = [] ∨ (n = 2 ∧ (u8 u 8 ≠ 0 ∨ u8 u 9 ≠ 0 ∨ u8 u 10 ≠ 0 ∨ u8 u 11 ≠ 0)) then .error 23
        else match fit.findSome? fun y => read y f.dst f.src f.off f.imm (hiOf u) with
          | some x => .ok (x, n)
          | none => .error 24

/-! ### the rows of an opcode -/
def srcOf (i : Ins) : Bool := Cd.usesSrc i || (decide (i.op = 15) && i.reg)
def kinds (i : Ins) : List (Int × Int × Int × Int) :=
  let im : Int := if Cd.usesImm i = true then -1 else 0
  if Cd.usesOff i = true then [(-1, i.op, i.size, im)]
  else if i.op = 4 then [(0, 4, 0, im), (1, 6, 0, im)]
  else if i.op = 5 then [(0, 5, 0, im), (1, 7, 0, im)]
  else if i.op = 15 ∧ i.reg = true then (0, 15, 0, im) :: (8, 16, 8, im) :: (16, 16, 16, im) :: (if i.narrow = true then [] else [(32, 16, 32, im)])
  else if 17 ≤ i.op ∧ i.op ≤ 19 then [(0, i.op, 16, 16), (0, i.op, 32, 32), (0, i.op, 64, 64)]
  else [(0, i.op, i.size, im)]
def mkRow (c : Int) (i : Ins) (k : Int × Int × Int × Int) : Row :=
  ⟨c, k.2.1, k.2.2.1, i.narrow, i.reg, if Cd.usesDst i = true then -1 else 0, if srcOf i = true then -1 else 0, k.1, k.2.2.2, 0, Cd.writesDst i.op⟩
def sameRow (a b : Row) : Bool := decide (a.code = b.code) && decide (a.op = b.op) && decide (a.size = b.size) && (a.narrow == b.narrow) && (a.reg == b.reg) && decide (a.dst = b.dst) && decide (a.src = b.src) && decide (a.off = b.off) && decide (a.imm = b.imm) && decide (a.second = b.second) && (a.writes == b.writes)
def sameRows : List Row → List Row → Bool
  | [], [] => true
  | a :: l, b :: m => sameRow a b && sameRows l m
  | _, _ => false
theorem sameRow_eq {a b : Row} (h : sameRow a b = true) : a = b := by
  obtain ⟨_, _, _, _, _, _, _, _, _, _, _⟩ := a
  obtain ⟨_, _, _, _, _, _, _, _, _, _, _⟩ := b
  simp only [sameRow, Bool.and_eq_true, decide_eq_true_eq, beq_iff_eq] at h
  simp only [Row.mk.injEq]
  simp [h]
theorem sameRows_eq : ∀ {l m : List Row}, sameRows l m = true → l = m
  | [], [], _ => rfl
  | a :: l, b :: m, h => by
    simp only [sameRows, Bool.and_eq_true] at h
    rw [sameRow_eq h.1, sameRows_eq h.2]
  | [], _ :: _, h => by cases h
  | _ :: _, [], h => by cases h
def tabO (c : Nat) : Bool :=
  if (Cd.operation c).2 = true then (if c = 24 then true else sameRows (rowsOf c) ((kinds (Cd.operation c).1).map (mkRow c (Cd.operation c).1)) && decide ((Cd.operation c).1.op ≠ 20) && decide ((Cd.operation c).1.op ≠ 21)
    && (kinds (Cd.operation c).1).all (fun k => decide (k.2.1 ≠ 20) && decide (k.2.1 ≠ 21) && Cd.formed (Cd.kind k.2.1 (Cd.operation c).1.narrow (Cd.operation c).1.reg k.2.2.1) && (Cd.usesImm (Cd.kind k.2.1 (Cd.operation c).1.narrow (Cd.operation c).1.reg k.2.2.1) == Cd.usesImm (Cd.operation c).1))
    && decide ((Cd.operation c).1.dst = 0) && decide ((Cd.operation c).1.src = 0) && decide ((Cd.operation c).1.off = 0) && decide ((Cd.operation c).1.imm = 0) && (decide (22 ≤ (Cd.operation c).1.op) || decide ((Cd.operation c).1.size = 0)) && decide (1 ≤ (Cd.operation c).1.op))
  else (rowsOf c).isEmpty
theorem tabO_all : ∀ c, c < 256 → tabO c = true := by decide +kernel
def row20 : Row := ⟨24, 20, 0, false, false, -1, 0, 0, -1, -1, true⟩
def row21 : Row := ⟨24, 21, 0, false, false, -1, 6, 0, 0, -1, true⟩
theorem rows24 : rowsOf 24 = [row20, row21] := sameRows_eq (by decide +kernel)

theorem good_eq {y : Row} {x : Ins} (h7 : y.op = x.op) (h8 : y.narrow = x.narrow) : good y x.imm = Cd.immFits x := by
  have ha : atom x.imm = Cd.atomic x.imm := by
    unfold atom fetches Cd.atomic Cd.fetches
    rw [Bool.eq_iff_iff]
    simp only [Bool.or_eq_true, decide_eq_true_eq]
    omega
  have hs : ((decide (0 ≤ x.imm) && decide (x.imm < 32)) || (decide (0 ≤ x.imm) && decide (x.imm < 64) && !x.narrow)) = (decide (0 ≤ x.imm) && decide (x.imm < 64) && !(x.narrow && decide (32 ≤ x.imm))) := by
    cases x.narrow <;> (rw [Bool.eq_iff_iff]; simp <;> omega)
  unfold good Cd.immFits
  rw [h7, h8, hs, ha]
theorem regs_head {c : Int} {i : Ins} {k : Int × Int × Int × Int} {d s m : Int} (hk : k.2.1 = i.op) :
    regs (mkRow c i k) d s m = false ↔ ((Cd.usesDst i && !Cd.isReg d (Cd.writesDst i.op)) || (srcOf i && !Cd.isReg s (Cd.writesSrc i.op m))) = true := by
  unfold regs Cd.isReg Cd.writesSrc mkRow
  dsimp only
  rw [hk]
  have hf : fetches m = Cd.fetches m := by
    unfold fetches Cd.fetches
    rw [Bool.eq_iff_iff]
    simp only [Bool.or_eq_true, decide_eq_true_eq]
    omega
  rw [hf]
  cases Cd.usesDst i <;> cases srcOf i <;> cases Cd.writesDst i.op <;> cases Cd.fetches m <;> simp <;> grind
theorem fits_kind {c : Int} {i : Ins} {k : Int × Int × Int × Int} {d s o : Int} : fits (mkRow c i k) d s o = ((Cd.usesDst i || decide (d = 0)) && (srcOf i || decide (s = 0)) && (decide (k.1 = -1) || decide (k.1 = o))) := by
  unfold fits mkRow
  dsimp only
  cases Cd.usesDst i <;> cases srcOf i <;> simp <;> grind
theorem read_kind {c : Int} {i : Ins} {o op size im : Int} {d s f m hi : Int} (h20 : op ≠ 20) (h21 : op ≠ 21) :
    read (mkRow c i (o, op, size, im)) d s f m hi = if (im ≠ -1 ∧ im ≠ m) ∨ (im = -1 ∧ Cd.immFits ⟨op, i.narrow, i.reg, size, 0, 0, 0, m⟩ = false) then none else
      some ⟨op, i.narrow, i.reg, size, if Cd.usesDst i = true then d else 0, if srcOf i = true then s else 0, if o = -1 then f else 0, if im = -1 then m else 0⟩ := by
  have hg := good_eq (y := mkRow c i (o, op, size, im)) (x := ⟨op, i.narrow, i.reg, size, 0, 0, 0, m⟩) rfl rfl
  unfold read readI
  dsimp only at hg
  have e1 : (mkRow c i (o, op, size, im)).imm = im := rfl
  have e2 : (mkRow c i (o, op, size, im)).second = 0 := rfl
  have e3 : (mkRow c i (o, op, size, im)).op = op := rfl
  rw [e1, e2, e3, if_neg h20, if_neg h21]
  by_cases h1 : im = -1
  · subst h1
    simp only [ne_eq, not_true_eq_false, false_and, if_false, true_or, true_and, if_true, false_or]
    rw [hg]
    split
    · rfl
    · unfold mkRow
      dsimp only
      congr 2 <;> split <;> simp_all
  · simp only [ne_eq, h1, not_false_eq_true, true_and, false_or, false_and, or_false, if_false]
    simp only [show ((0 : Int) = -1) = False from by simp, false_and, if_false]
    split
    · rfl
    · unfold mkRow
      dsimp only
      congr 2 <;> split <;> simp_all

/-- the kinds of an instruction at an offset -/
def kindsAt (i : Ins) (o : Int) : List (Int × Int × Int × Int) := (kinds i).filter fun k => decide (k.1 = -1) || decide (k.1 = o)
theorem filter_kinds {c : Int} {i : Ins} {d s o : Int} : ((kinds i).map (mkRow c i)).filter (fun y => fits y d s o) =
    if (Cd.usesDst i = false ∧ d ≠ 0) ∨ (srcOf i = false ∧ s ≠ 0) then [] else (kindsAt i o).map (mkRow c i) := by
  rw [List.filter_map]
  have e : ((fun y => fits y d s o) ∘ mkRow c i) = fun k => ((Cd.usesDst i || decide (d = 0)) && (srcOf i || decide (s = 0)) && (decide (k.1 = -1) || decide (k.1 = o))) := by
    funext k
    exact fits_kind
  rw [e]
  by_cases h : (Cd.usesDst i = false ∧ d ≠ 0) ∨ (srcOf i = false ∧ s ≠ 0)
  · rw [if_pos h]
    have : ((Cd.usesDst i || decide (d = 0)) && (srcOf i || decide (s = 0))) = false := by
      rcases h with h | h
      · rw [h.1]; simp [h.2]
      · rw [h.1]; simp [h.2]
    simp [this]
  · rw [if_neg h]
    have : ((Cd.usesDst i || decide (d = 0)) && (srcOf i || decide (s = 0))) = true := by
      cases hd : Cd.usesDst i <;> cases hs : srcOf i <;> simp_all
    simp [this, kindsAt]

/-- what a kind reads -/
def readK (i : Ins) (d s f m : Int) (k : Int × Int × Int × Int) : Option Ins :=
  if (k.2.2.2 ≠ -1 ∧ k.2.2.2 ≠ m) ∨ (k.2.2.2 = -1 ∧ Cd.immFits ⟨k.2.1, i.narrow, i.reg, k.2.2.1, 0, 0, 0, m⟩ = false) then none else
      some ⟨k.2.1, i.narrow, i.reg, k.2.2.1, d, s, if k.1 = -1 then f else 0, if k.2.2.2 = -1 then m else 0⟩
/-- a narrow instruction of the definition, behind its registers -/
def restN (i : Ins) (f : Cd.F) : Except Int (Ins × Nat) :=
  match (if Cd.usesOff i = true then some i else Cd.chosen i f.off) with
    | none => .error 23
    | some j =>
      if (Cd.usesImm i = false ∧ (Cd.filled j f (Cd.usesOff i)).imm ≠ 0) ∨ (Cd.usesImm i = true ∧ Cd.immFits (Cd.filled j f (Cd.usesOff i)) = false) ∨ Cd.formed (Cd.filled j f (Cd.usesOff i)) = false then .error 24
      else .ok (Cd.filled j f (Cd.usesOff i), 1)
theorem immFits_at (op : Int) (n r : Bool) (z d s o z' d' s' o' m : Int) (r' : Bool) : Cd.immFits ⟨op, n, r, z, d, s, o, m⟩ = Cd.immFits ⟨op, n, r', z', d', s', o', m⟩ := rfl
theorem formed_at (op : Int) (n r : Bool) (z d s o m : Int) : Cd.formed ⟨op, n, r, z, d, s, o, m⟩ = Cd.formed (Cd.kind op n r z) := rfl
theorem usesImm_at (op : Int) (n r : Bool) (z d s o m : Int) : Cd.usesImm ⟨op, n, r, z, d, s, o, m⟩ = Cd.usesImm (Cd.kind op n r z) := rfl

structure Nice (i : Ins) : Prop where
  all : ∀ k ∈ kinds i, k.2.1 ≠ 20 ∧ k.2.1 ≠ 21 ∧ Cd.formed (Cd.kind k.2.1 i.narrow i.reg k.2.2.1) = true ∧ Cd.usesImm (Cd.kind k.2.1 i.narrow i.reg k.2.2.1) = Cd.usesImm i
  dst : i.dst = 0
  src : i.src = 0
  off : i.off = 0
  imm : i.imm = 0
  size : i.op < 22 → i.size = 0

theorem one_kind (op : Int) (n r : Bool) (z : Int) (ui : Bool) (o op' z' : Int) (d s f m : Int) (hf : Cd.formed (Cd.kind op' n r z') = true) (off : Int) (hoff : off = if o = -1 then f else 0) :
    (match [(o, op', z', if ui = true then (-1 : Int) else 0)].findSome? (readK ⟨op, n, r, z, 0, 0, 0, 0⟩ d s f m) with | some x => (Except.ok (x, 1) : Except Int (Ins × Nat)) | none => .error 24) =
      if (ui = false ∧ m ≠ 0) ∨ (ui = true ∧ Cd.immFits ⟨op', n, r, z', d, s, off, m⟩ = false) ∨ Cd.formed ⟨op', n, r, z', d, s, off, m⟩ = false then .error 24 else .ok (⟨op', n, r, z', d, s, off, m⟩, 1) := by
  rw [formed_at, hf, immFits_at op' n r z' d s off 0 0 0 0 m r, List.findSome?_singleton]
  unfold readK
  dsimp only
  subst hoff
  cases ui with
  | true =>
    cases hi : Cd.immFits ⟨op', n, r, 0, 0, 0, 0, m⟩ with
    | true =>
      rw [immFits_at op' n r z' 0 0 0 0 0 0 0 m r, hi]
      simp
    | false =>
      rw [immFits_at op' n r z' 0 0 0 0 0 0 0 m r, hi]
      simp
  | false =>
    by_cases hm : m = 0
    · subst hm; simp
    · have : ¬ (0 = m) := fun e => hm e.symm
      simp [hm, this]

theorem swap_formed (op : Int) (n r : Bool) (z : Int) (h : 17 ≤ op ∧ op ≤ 19) (hf : Cd.formed (Cd.kind op n r 16) = true) : Cd.formed (Cd.kind op n r z) = (decide (z = 16) || decide (z = 32) || decide (z = 64)) := by
  unfold Cd.formed Cd.fsize Cd.kind at hf ⊢
  dsimp only at hf ⊢
  rw [if_neg (by omega), if_neg (by omega), if_pos h] at hf ⊢
  simp only [decide_true, Bool.true_or, Bool.true_and] at hf
  have e1 : Cd.fnarrow ⟨op, n, r, z, 0, 0, 0, 0⟩ = Cd.fnarrow ⟨op, n, r, 16, 0, 0, 0, 0⟩ := rfl
  rw [e1, Bool.and_assoc, hf, Bool.and_true]

theorem rest_law {i : Ins} (h : Nice i) (h1 : 1 ≤ i.op) (f : Cd.F) :
    restN i f = (match kindsAt i f.off with | [] => .error 23 | _ => match (kindsAt i f.off).findSome? (readK i f.dst f.src f.off f.imm) with | some x => .ok (x, 1) | none => .error 24) := by
  obtain ⟨op, n, r, z, d, s, o, m⟩ := i
  obtain ⟨hall, hd, hs, ho, hm, hz⟩ := h
  dsimp only at hd hs ho hm h1 hz
  subst hd hs ho hm
  obtain ⟨fo, fd, fs, ff, fm⟩ := f
  obtain ⟨uo, huo⟩ : ∃ b, Cd.usesOff ⟨op, n, r, z, 0, 0, 0, 0⟩ = b := ⟨_, rfl⟩
  obtain ⟨ui, hui⟩ : ∃ b, Cd.usesImm ⟨op, n, r, z, 0, 0, 0, 0⟩ = b := ⟨_, rfl⟩
  unfold restN kindsAt
  unfold kinds at hall ⊢
  dsimp only at hall ⊢
  rw [huo, hui] at hall
  rw [huo, hui]
  cases uo with
  | true =>
    have hop : 22 ≤ op := by
      unfold Cd.usesOff Cd.jump Cd.memory at huo
      simp only [Bool.or_eq_true, Bool.and_eq_true, decide_eq_true_eq] at huo
      omega
    simp only [if_true] at hall ⊢
    have h2 := (hall _ (List.mem_singleton.mpr rfl)).2.2.1
    unfold Cd.filled
    dsimp only
    rw [if_neg (show ¬ (17 ≤ op ∧ op ≤ 19) by omega)]
    have hk := one_kind op n r z ui (-1) op z fd fs ff fm h2 ff (by simp)
    have e : [((-1 : Int), op, z, if ui = true then (-1 : Int) else 0)].filter (fun k => decide (k.1 = -1) || decide (k.1 = ff)) = [((-1 : Int), op, z, if ui = true then (-1 : Int) else 0)] := rfl
    rw [e]
    simp only
    rw [hk]
    simp only [if_true]
  | false =>
    simp only [Bool.false_eq_true, if_false] at hall ⊢
    unfold Cd.chosen
    dsimp only
    by_cases h4 : op = 4
    · subst h4
      simp only [if_true] at hall ⊢
      have g1 := (hall _ (List.mem_cons_self ..)).2.2.1
      have g2 := (hall _ (List.mem_cons_of_mem _ (List.mem_cons_self ..))).2.2.1
      have k1 := one_kind 4 n r z ui 0 4 0 fd fs ff fm g1 0 (by simp)
      have k2 := one_kind 4 n r z ui 1 6 0 fd fs ff fm g2 0 (by simp)
      have gz : z = 0 := hz (by omega)
      subst gz
      by_cases o0 : ff = 0
      · subst o0
        simp only [if_true, Cd.filled]
        exact k1.symm
      · by_cases o1 : ff = 1
        · subst o1
          simp only [Cd.filled]
          exact k2.symm
        · simp [o0, o1]
          have : ¬ (0 = ff) := fun e => o0 e.symm
          have : ¬ (1 = ff) := fun e => o1 e.symm
          simp [*]
    by_cases h5 : op = 5
    · subst h5
      simp only [show ¬ ((5 : Int) = 4) by decide, if_false, if_true] at hall ⊢
      have g1 := (hall _ (List.mem_cons_self ..)).2.2.1
      have g2 := (hall _ (List.mem_cons_of_mem _ (List.mem_cons_self ..))).2.2.1
      have k1 := one_kind 5 n r z ui 0 5 0 fd fs ff fm g1 0 (by simp)
      have k2 := one_kind 5 n r z ui 1 7 0 fd fs ff fm g2 0 (by simp)
      have gz : z = 0 := hz (by omega)
      subst gz
      by_cases o0 : ff = 0
      · subst o0
        simp only [if_true, Cd.filled]
        exact k1.symm
      · by_cases o1 : ff = 1
        · subst o1
          simp only [Cd.filled]
          exact k2.symm
        · simp [o0, o1]
          have : ¬ (0 = ff) := fun e => o0 e.symm
          have : ¬ (1 = ff) := fun e => o1 e.symm
          simp [*]
    by_cases h15 : op = 15 ∧ r = true
    · obtain ⟨rfl, rfl⟩ := h15
      simp only [show ¬ ((15 : Int) = 4) by decide, show ¬ ((15 : Int) = 5) by decide, if_false, if_true, and_self] at hall ⊢
      have g1 := (hall _ (List.mem_cons_self ..)).2.2.1
      have g2 := (hall _ (List.mem_cons_of_mem _ (List.mem_cons_self ..))).2.2.1
      have g3 := (hall _ (List.mem_cons_of_mem _ (List.mem_cons_of_mem _ (List.mem_cons_self ..)))).2.2.1
      have k1 := one_kind 15 n true z ui 0 15 0 fd fs ff fm g1 0 (by simp)
      have k2 := one_kind 15 n true z ui 8 16 8 fd fs ff fm g2 0 (by simp)
      have k3 := one_kind 15 n true z ui 16 16 16 fd fs ff fm g3 0 (by simp)
      have gz : z = 0 := hz (by omega)
      subst gz
      by_cases o0 : ff = 0
      · subst o0
        have e : (match n with | true => ([] : List (Int × Int × Int × Int)) | false => []) = [] := by cases n <;> rfl
        simp only [if_true, Cd.filled]
        cases n with
        | true => exact k1.symm
        | false => exact k1.symm
      · by_cases o1 : ff = 8
        · subst o1
          simp only [Cd.filled]
          cases n with
          | true => exact k2.symm
          | false => exact k2.symm
        · by_cases o2 : ff = 16
          · subst o2
            simp only [Cd.filled]
            cases n with
            | true => exact k3.symm
            | false => exact k3.symm
          · have : ¬ (0 = ff) := fun e => o0 e.symm
            have : ¬ (8 = ff) := fun e => o1 e.symm
            have : ¬ (16 = ff) := fun e => o2 e.symm
            cases n with
            | true => simp [*]
            | false =>
              have g4 := (hall _ (List.mem_cons_of_mem _ (List.mem_cons_of_mem _ (List.mem_cons_of_mem _ (List.mem_cons_self ..))))).2.2.1
              have k4 := one_kind 15 false true 0 ui 32 16 32 fd fs ff fm g4 0 (by simp)
              by_cases o3 : ff = 32
              · subst o3
                simp only [Cd.filled]
                exact k4.symm
              · have : ¬ (32 = ff) := fun e => o3 e.symm
                simp [*]
    by_cases h17 : 17 ≤ op ∧ op ≤ 19
    · have gz : z = 0 := hz (by omega)
      subst gz
      simp only [h4, h5, h15, h17, if_false, if_true, and_self] at hall ⊢
      have g1 := (hall _ (List.mem_cons_self ..)).2.2.1
      have hu : ui = false := by
        rw [← hui]
        unfold Cd.usesImm Cd.second
        have e1 : ¬ (op ≤ 15) := by omega
        have e2 : ¬ (27 ≤ op) := by omega
        simp [e1, e2]
        omega
      subst hu
      by_cases o0 : ff = 0
      · subst o0
        simp only [if_true, Cd.filled, h17, and_self]
        rw [formed_at op n r fm, swap_formed op n r fm h17 g1]
        have e16 : ¬ ((16 : Int) = -1) := by decide
        have e32 : ¬ ((32 : Int) = -1) := by decide
        have e64 : ¬ ((64 : Int) = -1) := by decide
        by_cases f1 : fm = 16
        · subst f1; simp [readK]
        · by_cases f2 : fm = 32
          · subst f2; simp [readK]
          · by_cases f3 : fm = 64
            · subst f3; simp [readK]
            · have : ¬ (16 = fm) := fun e => f1 e.symm
              have : ¬ (32 = fm) := fun e => f2 e.symm
              have : ¬ (64 = fm) := fun e => f3 e.symm
              simp [readK, *]
      · have : ¬ (0 = ff) := fun e => o0 e.symm
        simp [*]
        rw [if_neg (fun e => h15 ⟨e.1, e.2.1⟩)]
    · simp only [h4, h5, h15, h17, if_false] at hall ⊢
      have g1 := (hall _ (List.mem_singleton.mpr rfl)).2.2.1
      have k1 := one_kind op n r z ui 0 op z fd fs ff fm g1 0 (by simp)
      by_cases o0 : ff = 0
      · subst o0
        simp only [if_true, Cd.filled, h17, if_false]
        exact k1.symm
      · have : ¬ (0 = ff) := fun e => o0 e.symm
        simp [*]
        rw [if_neg (fun e => h15 ⟨e.1, e.2.1⟩)]

theorem u8_lt (u : List UInt8) (k : Nat) : u8 u k < 256 := by unfold Cd.u8; exact UInt8.toNat_lt _
theorem tab_at {c : Nat} (hc : c < 256) (h : (Cd.operation c).2 = true) (h24 : c ≠ 24) : rowsOf c = (kinds (Cd.operation c).1).map (mkRow c (Cd.operation c).1) ∧ Nice (Cd.operation c).1 ∧ (Cd.operation c).1.op ≠ 20 ∧ 1 ≤ (Cd.operation c).1.op := by
  have ht := tabO_all c hc
  unfold tabO at ht
  rw [if_pos h, if_neg h24] at ht
  simp only [Bool.and_eq_true, decide_eq_true_eq, Bool.or_eq_true, List.all_eq_true, beq_iff_eq] at ht
  obtain ⟨⟨⟨⟨⟨⟨⟨⟨⟨t1, t2⟩, t3⟩, t4⟩, t5⟩, t6⟩, t7⟩, t8⟩, t9⟩, t10⟩ := ht
  exact ⟨sameRows_eq t1, ⟨fun k hk => ⟨(t4 k hk).1.1.1, (t4 k hk).1.1.2, (t4 k hk).1.2, (t4 k hk).2⟩, t5, t6, t7, t8, fun hlt => by rcases t9 with h | h; omega; exact h⟩, t2, t10⟩
theorem kinds_head (i : Ins) : ∃ k t, kinds i = k :: t ∧ k.2.1 = i.op := by
  unfold kinds
  dsimp only
  split
  · exact ⟨_, _, rfl, rfl⟩
  · split
    · rename_i h; exact ⟨_, _, rfl, h.symm⟩
    · split
      · rename_i h; exact ⟨_, _, rfl, h.symm⟩
      · split
        · rename_i h; exact ⟨_, _, rfl, h.1.symm⟩
        · split
          · exact ⟨_, _, rfl, rfl⟩
          · exact ⟨_, _, rfl, rfl⟩

theorem find_kinds {c : Int} {i : Ins} {d s f m hi : Int} (hn : Nice i) (hd : ¬ ((Cd.usesDst i = false ∧ d ≠ 0) ∨ (srcOf i = false ∧ s ≠ 0))) : ∀ l : List (Int × Int × Int × Int), (∀ k ∈ l, k ∈ kinds i) →
    (l.map (mkRow c i)).findSome? (fun y => read y d s f m hi) = l.findSome? (readK i d s f m)
  | [], _ => rfl
  | k :: l, h => by
    have hk := hn.all k (h k (List.mem_cons_self ..))
    have e : read (mkRow c i k) d s f m hi = readK i d s f m k := by
      obtain ⟨o, op, z, im⟩ := k
      rw [read_kind hk.1 hk.2.1]
      unfold readK
      dsimp only
      have e1 : (if Cd.usesDst i = true then d else 0) = d := by
        cases hu : Cd.usesDst i with
        | true => rfl
        | false => simp only [hu, true_and, not_or, Decidable.not_not] at hd; rw [hd.1]; rfl
      have e2 : (if srcOf i = true then s else 0) = s := by
        cases hu : srcOf i with
        | true => rfl
        | false => simp only [hu, true_and, not_or, Decidable.not_not] at hd; rw [hd.2]; rfl
      rw [e1, e2]
    rw [List.map_cons, List.findSome?_cons, List.findSome?_cons, e, find_kinds hn hd l fun k hk => h k (List.mem_cons_of_mem _ hk)]

theorem next_narrow {u : List UInt8} (h8 : 8 ≤ u.length) (h : (Cd.operation (fields u).op).2 = true) (h24 : (fields u).op ≠ 24) : one u = Cd.next u := by
  have hc : (fields u).op < 256 := u8_lt u 0
  unfold one Cd.next
  rw [if_neg (by omega), if_neg (by omega)]
  dsimp only
  generalize fields u = f at *
  obtain ⟨hr, hn, h20, hp⟩ := tab_at hc h h24
  have hlaw := rest_law hn hp f
  unfold restN at hlaw
  rw [hr, h]
  generalize (Cd.operation f.op).1 = i at *
  obtain ⟨k, t, hk, hko⟩ := kinds_head i
  have hreg := regs_head (c := f.op) (d := f.dst) (s := f.src) (m := f.imm) hko
  rw [filter_kinds, hk]
  rw [List.map_cons]
  dsimp only
  rw [if_neg (show ¬ (u.length < 8 * if f.op = 24 then 2 else 1) by rw [if_neg h24]; omega), if_neg (show ¬ (true = false) by decide), if_neg h20, if_neg h24]
  have es : (Cd.usesSrc i || (decide (i.op = 15) && i.reg)) = srcOf i := rfl
  rw [es]
  by_cases hE : regs (mkRow f.op i k) f.dst f.src f.imm = false
  · rw [if_pos hE, if_pos (hreg.mp hE)]
  · rw [if_neg hE, if_neg (fun e => hE (hreg.mpr e))]
    by_cases h23 : (Cd.usesDst i = false ∧ f.dst ≠ 0) ∨ (srcOf i = false ∧ f.src ≠ 0)
    · rw [if_pos h23, if_pos]
      left
      rw [if_pos (by rcases h23 with h | h; exact .inl ⟨h.1, by omega⟩; exact .inr ⟨h.1, by omega⟩)]
    · have h23' : ¬ ((Cd.usesDst i = false ∧ (f.dst : Int) ≠ 0) ∨ (srcOf i = false ∧ (f.src : Int) ≠ 0)) := by
        rintro (⟨a, b⟩ | ⟨a, b⟩)
        · exact h23 (.inl ⟨a, by omega⟩)
        · exact h23 (.inr ⟨a, by omega⟩)
      rw [if_neg h23, if_neg h23']
      refine Eq.trans ?_ hlaw.symm
      rw [find_kinds hn h23' (kindsAt i f.off) (fun k hk => (List.mem_filter.mp hk).1)]
      cases hka : kindsAt i f.off with
      | nil => simp
      | cons x l => simp

theorem sgn_range {v : Nat} {h : Int} (hv : (v : Int) < 2 * h) : -h ≤ Cd.sgn h v ∧ Cd.sgn h v < h := by
  unfold Cd.sgn
  split <;> omega
theorem imm_range (u : List UInt8) : -2147483648 ≤ (fields u).imm ∧ (fields u).imm < 2147483648 := by
  have h := Pk.val_small ((u.drop 4).take 4) (by simp; omega)
  simp only [Cd.fields]
  unfold Cd.sgn
  split <;> omega
theorem u8_drop (u : List UInt8) (k j : Nat) : u8 (u.drop k) j = u8 u (k + j) := by
  unfold Cd.u8
  rw [List.getD_eq_getElem?_getD, List.getD_eq_getElem?_getD, List.getElem?_drop]
theorem off_zero {u : List UInt8} (h : 4 ≤ u.length) : (fields u).off = 0 ↔ (u8 u 2 = 0 ∧ u8 u 3 = 0) := by
  obtain ⟨a, u, rfl⟩ : ∃ a t, u = a :: t := by cases u with | nil => simp at h | cons a t => exact ⟨a, t, rfl⟩
  obtain ⟨b, u, rfl⟩ : ∃ a t, u = a :: t := by cases u with | nil => simp at h | cons a t => exact ⟨a, t, rfl⟩
  obtain ⟨c, u, rfl⟩ : ∃ a t, u = a :: t := by cases u with | nil => simp at h | cons a t => exact ⟨a, t, rfl⟩
  obtain ⟨d, u, rfl⟩ : ∃ a t, u = a :: t := by cases u with | nil => simp at h | cons a t => exact ⟨a, t, rfl⟩
  have e : (fields (a :: b :: c :: d :: u)).off = Cd.sgn 32768 (Pk.val [c, d]) := by simp only [Cd.fields, List.drop_succ_cons, List.drop_zero, List.take_succ_cons, List.take_zero]
  have ev : Pk.val [c, d] = c.toNat + 256 * (d.toNat + 256 * 0) := rfl
  have e2 : u8 (a :: b :: c :: d :: u) 2 = c.toNat := rfl
  have e3 : u8 (a :: b :: c :: d :: u) 3 = d.toNat := rfl
  have hc := c.toNat_lt
  have hd := d.toNat_lt
  rw [e, e2, e3, ev]
  unfold Cd.sgn
  split <;> omega

theorem reg20 (d s m : Int) : regs row20 d s m = Cd.isReg d true := by
  unfold regs Cd.isReg row20
  simp only [true_and, and_true, if_true, show ((0 : Int) = -1) = False from by simp, false_and, if_false, Bool.true_and]
  rw [Bool.eq_iff_iff]
  simp [and_assoc]
theorem rest8 {u : List UInt8} (h16 : 16 ≤ u.length) : (u8 u 8 ≠ 0 ∨ u8 u 9 ≠ 0 ∨ u8 u 10 ≠ 0 ∨ u8 u 11 ≠ 0) ↔ ((fields (u.drop 8)).op ≠ 0 ∨ (fields (u.drop 8)).dst ≠ 0 ∨ (fields (u.drop 8)).src ≠ 0 ∨ (fields (u.drop 8)).off ≠ 0) := by
  have z := off_zero (u := u.drop 8) (by simp; omega)
  rw [show u8 (u.drop 8) 2 = u8 u 10 from u8_drop u 8 2, show u8 (u.drop 8) 3 = u8 u 11 from u8_drop u 8 3] at z
  have z0 : (fields (u.drop 8)).op = u8 u 8 := u8_drop u 8 0
  have z1 : (fields (u.drop 8)).dst = u8 u 9 % 16 := by simp only [Cd.fields]; rw [u8_drop]
  have z2 : (fields (u.drop 8)).src = u8 u 9 / 16 := by simp only [Cd.fields]; rw [u8_drop]
  have z3 := u8_lt u 9
  rw [z0, z1, z2]
  omega
theorem fits20 (d s : Nat) (o : Int) : fits row20 d s o = (decide (s = 0) && decide (o = 0)) := by
  unfold fits row20
  simp
  grind
theorem fits21 (d s : Nat) (o : Int) : fits row21 d s o = (decide (s = 6) && decide (o = 0)) := by
  unfold fits row21
  simp
  grind
theorem read20 (d s : Nat) (o m h : Int) (him : -2147483648 ≤ m ∧ m < 2147483648) : read row20 d s o m h = some ⟨20, false, false, 0, d, 0, 0, h * 4294967296 + m % 4294967296⟩ := by
  unfold read readI good row20 unsig
  simp
  split <;> omega
theorem read21 (d s : Nat) (o m h : Int) (him : -2147483648 ≤ m ∧ m < 2147483648) (hgm : -2147483648 ≤ h ∧ h < 2147483648) : read row21 d s o m h = if m ≠ 0 ∨ h < 0 then none else some ⟨21, false, false, 0, d, 0, 0, h⟩ := by
  unfold read readI good row21
  simp
  grind
theorem filt20 {d s : Nat} {o : Int} (h0 : s = 0) (ho : o = 0) : [row20, row21].filter (fun y => fits y d s o) = [row20] := by
  simp only [List.filter, fits20, fits21]
  simp [h0, ho]
theorem filt21 {d s : Nat} {o : Int} (h0 : s = 6) (ho : o = 0) : [row20, row21].filter (fun y => fits y d s o) = [row21] := by
  simp only [List.filter, fits20, fits21]
  simp [h0, ho]
theorem filtn {d s : Nat} {o : Int} (h : ¬ o = 0 ∨ (¬ s = 0 ∧ ¬ s = 6)) : [row20, row21].filter (fun y => fits y d s o) = [] := by
  simp only [List.filter, fits20, fits21]
  rcases h with h | ⟨h, h'⟩
  · simp [h]
  · simp [h, h']
theorem some21 {d s : Nat} {o m h : Int} (him : -2147483648 ≤ m ∧ m < 2147483648) (hgm : -2147483648 ≤ h ∧ h < 2147483648) : [row21].findSome? (fun y => read y d s o m h) = if m ≠ 0 ∨ h < 0 then none else some ⟨21, false, false, 0, d, 0, 0, h⟩ := by
  rw [List.findSome?_singleton]
  exact read21 d s o m h him hgm
theorem next_wide24 {u : List UInt8} (h8 : 8 ≤ u.length) (h24 : (fields u).op = 24) : one u = Cd.nextWide (fields u) u := by
  have him := imm_range u
  have hgm := imm_range (u.drop 8)
  unfold one Cd.nextWide
  rw [if_neg (by omega)]
  dsimp only
  rw [h24]
  rw [show rowsOf ((24 : Nat) : Int) = [row20, row21] from rows24]
  dsimp only
  rw [if_pos rfl]
  by_cases h16 : u.length < 16
  · rw [if_pos (show u.length < 8 * 2 by omega), if_pos (show u.length / 8 < 2 by omega)]
  · rw [if_neg (show ¬ u.length < 8 * 2 by omega), if_neg (show ¬ u.length / 8 < 2 by omega)]
    rw [reg20]
    split
    · rfl
    · have hgd := rest8 (u := u) (by omega)
      unfold hiOf
      generalize fields (u.drop 8) = g at *
      generalize fields u = f at *
      by_cases hz : u8 u 8 ≠ 0 ∨ u8 u 9 ≠ 0 ∨ u8 u 10 ≠ 0 ∨ u8 u 11 ≠ 0
      · rw [if_pos (.inr ⟨rfl, hz⟩), if_pos (.inr (.inr (hgd.mp hz)))]
      · have hz' : ¬ (g.op ≠ 0 ∨ g.dst ≠ 0 ∨ g.src ≠ 0 ∨ g.off ≠ 0) := fun e => hz (hgd.mpr e)
        by_cases ho : f.off = 0
        · by_cases h0 : f.src = 0
          · rw [filt20 h0 ho, if_neg (by rintro (e | e); cases e; exact hz e.2), if_neg (by rintro (e | e | e); exact e.1 h0; exact e ho; exact hz' e), if_neg (by omega)]
            simp only [List.findSome?_cons, read20 _ _ _ _ _ him, Cd.I0]
          · by_cases h6 : f.src = 6
            · rw [filt21 h6 ho, if_neg (by rintro (e | e); cases e; exact hz e.2), if_neg (by rintro (e | e | e); exact e.2 h6; exact e ho; exact hz' e), if_pos h6]
              rw [some21 him hgm]
              by_cases hb : f.imm ≠ 0 ∨ g.imm < 0
              · rw [if_pos hb, if_pos hb]
              · rw [if_neg hb, if_neg hb]
                simp only [Cd.I0]
            · rw [filtn (.inr ⟨h0, h6⟩), if_pos (.inl rfl), if_pos (.inl ⟨h0, h6⟩)]
        · rw [filtn (.inl ho), if_pos (.inl rfl), if_pos (.inr (.inl ho))]

/-- the document reads what the definition reads -/
theorem one_eq (u : List UInt8) : one u = Cd.next u := by
  by_cases h8 : u.length < 8
  · unfold one Cd.next
    rw [if_pos h8, if_pos (by omega)]
  · by_cases h : (Cd.operation (fields u).op).2 = true
    · by_cases h24 : (fields u).op = 24
      · rw [next_wide24 (by omega) h24]
        unfold Cd.next
        rw [if_neg (by omega)]
        dsimp only
        rw [h24]
        rfl
      · exact next_narrow (by omega) h h24
    · have ht := tabO_all (fields u).op (u8_lt u 0)
      unfold tabO at ht
      rw [if_neg h] at ht
      unfold one Cd.next
      rw [if_neg h8, if_neg (by omega)]
      dsimp only
      rw [List.isEmpty_iff.mp ht]
      dsimp only
      rw [if_pos (show (Cd.operation (fields u).op).2 = false by simpa using h)]

end Go.Proofs.Ytfcbedkidjclhaa.Rf
