/-
  What the document's answer for package code computes, in plain Lean: the table of rows, the row of an instruction, its error. No program in sight.
  No condition: definitions on lists and numbers.
-/
import Derived.Test.YtfcbedkidjclhaaCodeL
namespace Go.Proofs.Ytfcbedkidjclhaa.Rf
set_option maxRecDepth 100000
set_option linter.unusedSimpArgs false
set_option linter.unusedVariables false

/-- one way in which an instruction may stand in bytes; -1: a field that is the instruction's own -/
structure Row where
  code : Int
  op : Int
  size : Int
  narrow : Bool
  reg : Bool
  dst : Int
  src : Int
  off : Int
  imm : Int
  second : Int
  writes : Bool

/-- the four rows of an operation of two operands -/
def alu (op digit off : Int) : List Row :=
  [⟨16 * digit + 7, op, 0, false, false, -1, 0, off, -1, 0, true⟩, ⟨16 * digit + 15, op, 0, false, true, -1, -1, off, 0, 0, true⟩,
   ⟨16 * digit + 4, op, 0, true, false, -1, 0, off, -1, 0, true⟩, ⟨16 * digit + 12, op, 0, true, true, -1, -1, off, 0, 0, true⟩]
/-- the four rows of a conditional jump -/
def jump (op digit : Int) : List Row :=
  [⟨16 * digit + 5, op, 0, false, false, -1, 0, -1, -1, 0, false⟩, ⟨16 * digit + 13, op, 0, false, true, -1, -1, -1, 0, 0, false⟩,
   ⟨16 * digit + 6, op, 0, true, false, -1, 0, -1, -1, 0, false⟩, ⟨16 * digit + 14, op, 0, true, true, -1, -1, -1, 0, 0, false⟩]
def movs (size : Int) : List Row :=
  ⟨191, 16, size, false, true, -1, -1, size, 0, 0, true⟩ :: (if size < 32 then [⟨188, 16, size, true, true, -1, -1, size, 0, 0, true⟩] else [])
def swaps (size : Int) : List Row :=
  [⟨212, 17, size, false, false, -1, 0, 0, size, 0, true⟩, ⟨220, 18, size, false, false, -1, 0, 0, size, 0, true⟩, ⟨215, 19, size, false, false, -1, 0, 0, size, 0, true⟩]
def mems (size digit : Int) : List Row :=
  [⟨97 + digit, 22, size, false, false, -1, -1, -1, 0, 0, true⟩] ++ (if size < 8 then [⟨129 + digit, 23, size, false, false, -1, -1, -1, 0, 0, true⟩] else []) ++
  [⟨99 + digit, 24, size, false, true, -1, -1, -1, 0, 0, false⟩, ⟨98 + digit, 24, size, false, false, -1, 0, -1, -1, 0, false⟩] ++
  (if 4 ≤ size then [⟨195 + digit, 25, size, false, false, -1, -1, -1, -1, 0, false⟩] else [])
/-- the table -/
def rows : List Row :=
  alu 1 0 0 ++ alu 2 1 0 ++ alu 3 2 0 ++ alu 4 3 0 ++ alu 6 3 1 ++ alu 8 4 0 ++ alu 9 5 0 ++ alu 11 6 0 ++ alu 12 7 0 ++ alu 5 9 0 ++ alu 7 9 1 ++ alu 10 10 0 ++ alu 15 11 0 ++ alu 13 12 0 ++
  movs 8 ++ movs 16 ++ movs 32 ++
  [⟨135, 14, 0, false, false, -1, 0, 0, 0, 0, true⟩, ⟨132, 14, 0, true, false, -1, 0, 0, 0, 0, true⟩] ++
  swaps 16 ++ swaps 32 ++ swaps 64 ++
  [⟨24, 20, 0, false, false, -1, 0, 0, -1, -1, true⟩, ⟨24, 21, 0, false, false, -1, 6, 0, 0, -1, true⟩] ++
  mems 1 16 ++ mems 2 8 ++ mems 4 0 ++ mems 8 24 ++
  [⟨5, 26, 0, false, false, 0, 0, -1, 0, 0, false⟩, ⟨6, 26, 0, true, false, 0, 0, 0, -1, 0, false⟩] ++
  jump 27 1 ++ jump 29 2 ++ jump 30 3 ++ jump 37 4 ++ jump 28 5 ++ jump 33 6 ++ jump 34 7 ++ jump 31 10 ++ jump 32 11 ++ jump 35 12 ++ jump 36 13 ++
  [⟨133, 38, 0, false, false, 0, 0, 0, -1, 0, false⟩, ⟨149, 39, 0, false, false, 0, 0, 0, 0, 0, false⟩]

def fetches (m : Int) : Bool := decide (m = 1) || decide (m = 65) || decide (m = 81) || decide (m = 161) || decide (m = 225)
def atom (m : Int) : Bool := fetches m || decide (m = 0) || decide (m = 64) || decide (m = 80) || decide (m = 160) || decide (m = 241)
/-- may a row's own number be that? -/
def good (x : Row) (m : Int) : Bool :=
  if x.op = 20 then true
  else if m < -2147483648 ∨ 2147483647 < m then false
  else if 4 ≤ x.op ∧ x.op ≤ 7 then decide (m ≠ 0)
  else if 11 ≤ x.op ∧ x.op ≤ 13 then (decide (0 ≤ m) && decide (m < 32)) || (decide (0 ≤ m) && decide (m < 64) && !x.narrow)
  else if x.op = 25 then atom m
  else if x.op = 21 then decide (0 ≤ m)
  else true
def regs (x : Row) (dst src m : Int) : Bool :=
  if x.dst = -1 ∧ (dst < 0 ∨ 10 < dst ∨ (dst = 10 ∧ x.writes = true)) then false
  else if x.src = -1 ∧ (src < 0 ∨ 10 < src ∨ (src = 10 ∧ x.op = 25 ∧ fetches m = true)) then false
  else true
def fitsRow (y : Row) (x : Cd.Ins) : Bool := decide (y.op = x.op) && (y.narrow == x.narrow) && (y.reg == x.reg) && decide (y.size = x.size)
/-- the row of an instruction -/
def find (x : Cd.Ins) : Option Row := rows.find? fun y => fitsRow y x
/-- an instruction's error -/
def right (x : Cd.Ins) : Int :=
  match find x with
  | none => 21
  | some y =>
    if regs y x.dst x.src x.imm = false then 22
    else if (y.dst ≠ -1 ∧ x.dst ≠ 0) ∨ (y.src ≠ -1 ∧ x.src ≠ 0) ∨ (y.off ≠ -1 ∧ x.off ≠ 0) ∨ x.off < -32768 ∨ 32767 < x.off then 23
    else if y.imm ≠ -1 ∧ y.second ≠ -1 ∧ x.imm ≠ 0 then 24
    else if (y.imm = -1 ∨ y.second = -1) ∧ good y x.imm = false then 24
    else 0

/-! ### the table against the definition -/
def tabR (x : Cd.Ins) : Bool :=
  match find x with
  | none => !Cd.formed x
  | some y => Cd.formed x && (decide (y.dst = -1) == Cd.usesDst x) && (decide (y.src = -1) == Cd.usesSrc x) && (decide (y.off = -1) == Cd.usesOff x) && (decide (y.imm = -1 ∨ y.second = -1) == Cd.usesImm x) &&
      (y.writes == Cd.writesDst x.op) && decide (y.op = x.op) && (y.narrow == x.narrow)
theorem tabR_all : ∀ k, k < 40 → [false, true].all (fun n => [false, true].all fun r => Cd.sizesOf.all fun s => tabR (Cd.kind (k : Nat) n r s)) = true := by decide +kernel
theorem rows_formed : rows.all (fun y => decide (1 ≤ y.op) && decide (y.op ≤ 39) && Cd.sizesOf.contains y.size) = true := by decide +kernel

theorem find_kind (x : Cd.Ins) : find (Cd.kind x.op x.narrow x.reg x.size) = find x := rfl
theorem tabR_at (x : Cd.Ins) : tabR x = true := by
  by_cases h : (1 ≤ x.op ∧ x.op ≤ 39) ∧ x.size ∈ Cd.sizesOf
  · obtain ⟨ho, hs⟩ := h
    have h1 := tabR_all x.op.toNat (by omega)
    rw [List.all_eq_true] at h1
    have h2 := h1 x.narrow (by cases x.narrow <;> simp)
    rw [List.all_eq_true] at h2
    have h3 := h2 x.reg (by cases x.reg <;> simp)
    rw [List.all_eq_true] at h3
    have h4 := h3 x.size hs
    rw [show ((x.op.toNat : Nat) : Int) = x.op by omega] at h4
    exact h4
  · unfold tabR
    cases hf : find x with
    | none =>
      cases hx : Cd.formed x with
      | false => rfl
      | true => exact absurd ⟨Cd.formed_op hx, Cd.formed_size hx⟩ h
    | some y =>
      exfalso
      have h1 := List.find?_some hf
      have h2 := List.mem_of_find?_eq_some hf
      have h3 := List.all_eq_true.mp rows_formed y h2
      simp only [fitsRow, Bool.and_eq_true, decide_eq_true_eq, beq_iff_eq, List.contains_iff_mem] at h1 h3
      rw [h1.1.1.1, h1.2] at h3
      exact h ⟨h3.1, h3.2⟩

/-- P2.3: the document's error is the code's -/
theorem right_eq (x : Cd.Ins) : right x = Cd.right x := by
  have h := tabR_at x
  unfold tabR at h
  unfold right Cd.right
  cases hf : find x with
  | none =>
    rw [hf] at h
    have h1 : Cd.formed x = false := by simpa using h
    rw [if_pos h1]
  | some y =>
    rw [hf] at h
    simp only [Bool.and_eq_true, beq_iff_eq, decide_eq_true_eq] at h
    obtain ⟨⟨⟨⟨⟨⟨⟨h1, h2⟩, h3⟩, h4⟩, h5⟩, h6⟩, h7⟩, h8⟩ := h
    have hg : good y x.imm = Cd.immFits x := by
      have ha : atom x.imm = Cd.atomic x.imm := by
        unfold atom fetches Cd.atomic Cd.fetches
        rw [Bool.eq_iff_iff]
        simp only [Bool.or_eq_true, decide_eq_true_eq]
        omega
      have hs : ((decide (0 ≤ x.imm) && decide (x.imm < 32)) || (decide (0 ≤ x.imm) && decide (x.imm < 64) && !x.narrow)) = (decide (0 ≤ x.imm) && decide (x.imm < 64) && !(x.narrow && decide (32 ≤ x.imm))) := by
        cases x.narrow <;> (rw [Bool.eq_iff_iff]; simp <;> omega)
      unfold good Cd.immFits
      rw [h7, h8, hs, ha]
    have hr : regs y x.dst x.src x.imm = false ↔ ((Cd.usesDst x && !Cd.isReg x.dst (Cd.writesDst x.op)) || (Cd.usesSrc x && !Cd.isReg x.src (Cd.writesSrc x.op x.imm))) = true := by
      unfold regs Cd.isReg Cd.writesSrc
      rw [← h2, ← h3, ← h6, h7]
      unfold fetches Cd.fetches
      grind
    dsimp only
    rw [if_neg (show ¬ Cd.formed x = false by rw [h1]; decide)]
    rw [hg]
    have e2 : y.dst = -1 ↔ Cd.usesDst x = true := by rw [← h2]; simp
    have e3 : y.src = -1 ↔ Cd.usesSrc x = true := by rw [← h3]; simp
    have e4 : y.off = -1 ↔ Cd.usesOff x = true := by rw [← h4]; simp
    have e5 : (y.imm = -1 ∨ y.second = -1) ↔ Cd.usesImm x = true := by rw [← h5]; simp
    by_cases g1 : regs y x.dst x.src x.imm = false
    · rw [if_pos g1, if_pos (hr.mp g1)]
    · rw [if_neg g1, if_neg (fun h => g1 (hr.mpr h))]
      have c2 : ((y.dst ≠ -1 ∧ x.dst ≠ 0) ∨ (y.src ≠ -1 ∧ x.src ≠ 0) ∨ (y.off ≠ -1 ∧ x.off ≠ 0) ∨ x.off < -32768 ∨ 32767 < x.off) ↔ ((Cd.usesDst x = false ∧ x.dst ≠ 0) ∨ (Cd.usesSrc x = false ∧ x.src ≠ 0) ∨ (Cd.usesOff x = false ∧ x.off ≠ 0) ∨ x.off < -32768 ∨ 32768 ≤ x.off) := by
        rw [show (32767 < x.off) ↔ (32768 ≤ x.off) by omega]
        simp only [ne_eq, e2, e3, e4, Bool.not_eq_true]
      by_cases g2 : (y.dst ≠ -1 ∧ x.dst ≠ 0) ∨ (y.src ≠ -1 ∧ x.src ≠ 0) ∨ (y.off ≠ -1 ∧ x.off ≠ 0) ∨ x.off < -32768 ∨ 32767 < x.off
      · rw [if_pos g2, if_pos (c2.mp g2)]
      · rw [if_neg g2, if_neg (fun h => g2 (c2.mpr h))]
        cases hu : Cd.usesImm x with
        | true =>
          have k := e5.mpr hu
          rw [if_neg (by rintro ⟨k1, k2, _⟩; rcases k with k | k <;> contradiction)]
          by_cases g4 : Cd.immFits x = false
          · rw [if_pos ⟨k, g4⟩, if_pos (.inr ⟨rfl, g4⟩)]
          · rw [if_neg (fun h => g4 h.2), if_neg (by rintro (⟨h, _⟩ | ⟨_, h⟩); cases h; exact g4 h)]
        | false =>
          have k : ¬ (y.imm = -1 ∨ y.second = -1) := fun h => by rw [e5.mp h] at hu; cases hu
          by_cases g3 : x.imm = 0
          · rw [if_neg (fun h => h.2.2 g3), if_neg (fun h => k h.1), if_neg (by rintro (⟨_, h⟩ | ⟨h, _⟩); exact h g3; cases h)]
          · rw [if_pos ⟨fun h => k (.inl h), fun h => k (.inr h), g3⟩, if_pos (.inl ⟨rfl, g3⟩)]

end Go.Proofs.Ytfcbedkidjclhaa.Rf
