/-
  What package code computes, in plain Lean: operations, fields, what is right, units, instructions as bytes and back. No program in sight.
  No condition: definitions on lists and numbers.
-/
import Derived.Test.YtfcbedkidjclhaaPackM
namespace Go.Proofs.Ytfcbedkidjclhaa.Cd
set_option linter.unusedSimpArgs false
set_option linter.unusedVariables false

/-- an instruction -/
structure Ins where
  op : Int
  narrow : Bool
  reg : Bool
  size : Int
  dst : Int
  src : Int
  off : Int
  imm : Int

def I0 : Ins := ⟨0, false, false, 0, 0, 0, 0, 0⟩

def aluOps : List Int := [1, 2, 3, 4, 8, 9, 11, 12, 14, 5, 10, 15, 13, 17, 0, 0]
def jumpOps : List Int := [26, 27, 29, 30, 37, 28, 33, 34, 38, 39, 31, 32, 35, 36, 0, 0]
def sizes : List Int := [4, 2, 1, 8]

/-- the place of an operation in a table, or -1 -/
def digitFrom : Int → List Int → Int → Int
  | _, [], _ => -1
  | i, x :: l, op => if x = op then i else digitFrom (i + 1) l op
def digitOf (l : List Int) (op : Int) : Int := digitFrom 0 l op

def writesDst (op : Int) : Bool := decide (1 ≤ op) && decide (op ≤ 23)
def fetches (imm : Int) : Bool := decide (imm = 225) || decide (imm = 1) || decide (imm = 65) || decide (imm = 81) || decide (imm = 161)
def writesSrc (op imm : Int) : Bool := decide (op = 25) && fetches imm
def atomic (imm : Int) : Bool := decide (imm = 0) || decide (imm = 64) || decide (imm = 80) || decide (imm = 160) || decide (imm = 241) || fetches imm
def second (op : Int) : Bool := (decide (1 ≤ op) && decide (op ≤ 15) && decide (op ≠ 14)) || decide (op = 24) || (decide (27 ≤ op) && decide (op ≤ 37))
def jump (op : Int) : Bool := decide (27 ≤ op) && decide (op ≤ 37)
def memory (op : Int) : Bool := decide (22 ≤ op) && decide (op ≤ 25)
def usesDst (i : Ins) : Bool := decide (i.op ≠ 26) && decide (i.op ≠ 38) && decide (i.op ≠ 39)
def usesSrc (i : Ins) : Bool := (second i.op && i.reg) || decide (i.op = 16) || (memory i.op && decide (i.op ≠ 24))
def usesOff (i : Ins) : Bool := jump i.op || memory i.op || (decide (i.op = 26) && !i.narrow)
def usesImm (i : Ins) : Bool := (second i.op && !i.reg) || decide (i.op = 20) || decide (i.op = 21) || decide (i.op = 25) || decide (i.op = 38) || (decide (i.op = 26) && i.narrow)

/-- may the size be so? -/
def fsize (i : Ins) : Bool :=
  if 17 ≤ i.op ∧ i.op ≤ 19 then decide (i.size = 16) || decide (i.size = 32) || decide (i.size = 64)
  else if i.op = 22 ∨ i.op = 24 then decide (i.size = 1) || decide (i.size = 2) || decide (i.size = 4) || decide (i.size = 8)
  else if i.op = 23 then decide (i.size = 1) || decide (i.size = 2) || decide (i.size = 4)
  else if i.op = 25 then decide (i.size = 4) || decide (i.size = 8)
  else decide (i.size = 0)
def fnarrow (i : Ins) : Bool := decide (i.op ≤ 15) || (decide (26 ≤ i.op) && decide (i.op ≤ 37))
def formed (i : Ins) : Bool :=
  if i.op < 1 ∨ 39 < i.op then false
  else if i.op = 16 then i.reg && (decide (i.size = 8) || decide (i.size = 16) || (decide (i.size = 32) && !i.narrow))
  else fsize i && (fnarrow i || !i.narrow) && (second i.op || !i.reg)

def isReg (n : Int) (written : Bool) : Bool := decide (0 ≤ n) && decide (n ≤ 10) && !(written && decide (n = 10))
def immFits (i : Ins) : Bool :=
  if i.op = 20 then true
  else if i.imm < -2147483648 ∨ 2147483647 < i.imm then false
  else if 4 ≤ i.op ∧ i.op ≤ 7 then decide (i.imm ≠ 0)
  else if 11 ≤ i.op ∧ i.op ≤ 13 then decide (0 ≤ i.imm) && decide (i.imm < 64) && !(i.narrow && decide (32 ≤ i.imm))
  else if i.op = 25 then atomic i.imm
  else if i.op = 21 then decide (0 ≤ i.imm)
  else true

/-- an instruction's error -/
def right (i : Ins) : Int :=
  if formed i = false then 21
  else if (usesDst i && !isReg i.dst (writesDst i.op)) || (usesSrc i && !isReg i.src (writesSrc i.op i.imm)) then 22
  else if (usesDst i = false ∧ i.dst ≠ 0) ∨ (usesSrc i = false ∧ i.src ≠ 0) ∨ (usesOff i = false ∧ i.off ≠ 0) ∨ i.off < -32768 ∨ 32768 ≤ i.off then 23
  else if (usesImm i = false ∧ i.imm ≠ 0) ∨ (usesImm i = true ∧ immFits i = false) then 24
  else 0

/-- the first that is wrong: where, the error -/
def checkFrom : Nat → List Ins → Nat × Int
  | _, [] => (0, 0)
  | k, x :: l => if k = 4096 then (k, 25) else if right x ≠ 0 then (k, right x) else checkFrom (k + 1) l
def check (l : List Ins) : Nat × Int := checkFrom 0 l

def wide (op : Int) : Bool := decide (op = 20) || decide (op = 21)
def width (i : Ins) : Nat := if wide i.op = true then 2 else 1
def unitsFrom : Nat → List Ins → List Nat
  | n, [] => [n]
  | n, x :: l => n :: unitsFrom (n + width x) l
/-- each one's unit, and the one behind the last -/
def units (l : List Ins) : List Nat := unitsFrom 0 l

/-! ### reading -/
def sgn (half : Int) (v : Nat) : Int := if (v : Int) < half then v else v - 2 * half
structure F where
  op : Nat
  dst : Nat
  src : Nat
  off : Int
  imm : Int
def u8 (u : List UInt8) (i : Nat) : Nat := (u.getD i 0).toNat
def fields (u : List UInt8) : F := ⟨u8 u 0, u8 u 1 % 16, u8 u 1 / 16, sgn 32768 (Pk.val ((u.drop 2).take 2)), sgn 2147483648 (Pk.val ((u.drop 4).take 4))⟩

def swapped (c : Nat) : Ins × Bool :=
  if c % 8 = 7 then ({ I0 with op := 19 }, decide (c / 8 % 2 = 0))
  else if c / 8 % 2 = 1 then ({ I0 with op := 18 }, true)
  else ({ I0 with op := 17 }, true)
def mem (c : Nat) (size : Int) : Ins × Bool :=
  if c % 8 = 1 ∧ c / 32 = 3 then ({ I0 with op := 22, size := size }, true)
  else if c % 8 = 1 ∧ c / 32 = 4 then ({ I0 with op := 23, size := size }, decide (size < 8))
  else if c % 8 = 2 ∧ c / 32 = 3 then ({ I0 with op := 24, size := size }, true)
  else if c % 8 = 3 ∧ c / 32 = 3 then ({ I0 with op := 24, size := size, reg := true }, true)
  else if c % 8 = 3 ∧ c / 32 = 6 then ({ I0 with op := 25, size := size }, decide (4 ≤ size))
  else (I0, false)
/-- the instruction of an opcode, without its fields; false: none -/
def operation (c : Nat) : Ins × Bool :=
  let reg := decide (c / 8 % 2 = 1)
  if c % 8 = 4 ∨ c % 8 = 7 then
    let i : Ins := { I0 with op := aluOps.getD (c / 16) 0, narrow := decide (c % 8 = 4), reg := reg }
    if i.op = 17 then swapped c
    else (i, !((decide (i.op = 14) && reg) || decide (i.op = 0)))
  else if c % 8 = 5 ∨ c % 8 = 6 then
    let i : Ins := { I0 with op := jumpOps.getD (c / 16) 0, narrow := decide (c % 8 = 6), reg := reg }
    (i, decide (i.op ≠ 0) && !((decide (i.op = 38) || decide (i.op = 39)) && (i.narrow || reg)) && !(decide (i.op = 26) && reg))
  else if c % 8 = 0 then ({ I0 with op := 20 }, decide (c = 24))
  else mem c (sizes.getD (c / 8 % 4) 0)

/-- an offset that chooses the operation, or must be 0 -/
def chosen (i : Ins) (off : Int) : Option Ins :=
  if off = 0 then some i
  else if off = 1 ∧ i.op = 4 then some { i with op := 6 }
  else if off = 1 ∧ i.op = 5 then some { i with op := 7 }
  else if i.op = 15 ∧ i.reg = true ∧ (off = 8 ∨ off = 16 ∨ (off = 32 ∧ i.narrow = false)) then some { i with op := 16, size := off }
  else none

/-- an instruction of two units; u: all that is left -/
def nextWide (f : F) (u : List UInt8) : Except Int (Ins × Nat) :=
  if u.length / 8 < 2 then .error 20
  else
    let g := fields (u.drop 8)
    if isReg f.dst true = false then .error 22
    else if (f.src ≠ 0 ∧ f.src ≠ 6) ∨ f.off ≠ 0 ∨ g.op ≠ 0 ∨ g.dst ≠ 0 ∨ g.src ≠ 0 ∨ g.off ≠ 0 then .error 23
    else if f.src = 6 then (if f.imm ≠ 0 ∨ g.imm < 0 then .error 24 else .ok ({ I0 with op := 21, dst := f.dst, imm := g.imm }, 2))
    else .ok ({ I0 with op := 20, dst := f.dst, imm := g.imm * 4294967296 + f.imm % 4294967296 }, 2)

/-- the instruction with its fields -/
def filled (i : Ins) (f : F) (off : Bool) : Ins :=
  let j : Ins := { i with dst := f.dst, src := f.src, off := if off = true then f.off else i.off }
  if 17 ≤ j.op ∧ j.op ≤ 19 then { j with size := f.imm } else { j with imm := f.imm }

/-- the next instruction, and how many units; u: all that is left -/
def next (u : List UInt8) : Except Int (Ins × Nat) :=
  if u.length / 8 < 1 then .error 20
  else
    let f := fields u
    let p := operation f.op
    if p.2 = false then .error 21
    else if p.1.op = 20 then nextWide f u
    else
      let i := p.1
      let src := usesSrc i || (decide (i.op = 15) && i.reg)
      if (usesDst i && !isReg f.dst (writesDst i.op)) || (src && !isReg f.src (writesSrc i.op f.imm)) then .error 22
      else if (usesDst i = false ∧ f.dst ≠ 0) ∨ (src = false ∧ f.src ≠ 0) then .error 23
      else match (if usesOff i = true then some i else chosen i f.off) with
        | none => .error 23
        | some j =>
          let k := filled j f (usesOff i)
          if (usesImm i = false ∧ k.imm ≠ 0) ∨ (usesImm i = true ∧ immFits k = false) ∨ formed k = false then .error 24
          else .ok (k, 1)

/-- all of them, from the unit at on: the list, or where and which error -/
def readFrom (b : List UInt8) : Nat → List Ins → Nat → Except (Nat × Int) (List Ins)
  | 0, l, _ => .ok l
  | f + 1, l, at_ => if 8 * at_ < b.length then
      (if l.length = 4096 then .error (at_, 25)
      else match next (b.drop (8 * at_)) with
        | .error e => .error (at_, e)
        | .ok (x, k) => readFrom b f (l ++ [x]) (at_ + k))
    else .ok l
/-- Decode: the list, where, the error -/
def decode (b : List UInt8) : List Ins × Nat × Int :=
  match readFrom b b.length [] 0 with
  | .error (p, e) => ([], p, e)
  | .ok l => (l, 0, 0)

/-! ### writing -/
def sizeBits (size : Int) : Int := if size = 4 then 0 else if size = 2 then 8 else if size = 1 then 16 else if size = 8 then 24 else 0
/-- byte 0, and the numbers in the fields src, off, imm -/
def opcode (i : Ins) : Int × Int × Int × Int :=
  let reg : Int := if i.reg = true then 8 else 0
  let alu : Int := if i.narrow = true then 4 else 7
  let jmp : Int := if i.narrow = true then 6 else 5
  if i.op = 6 then (digitOf aluOps 4 * 16 + alu + reg, i.src, 1, i.imm)
  else if i.op = 7 then (digitOf aluOps 5 * 16 + alu + reg, i.src, 1, i.imm)
  else if i.op = 16 then (digitOf aluOps 15 * 16 + alu + reg, i.src, i.size, i.imm)
  else if i.op ≤ 15 then (digitOf aluOps i.op * 16 + alu + reg, i.src, i.off, i.imm)
  else if i.op = 17 then (212, i.src, i.off, i.size)
  else if i.op = 18 then (220, i.src, i.off, i.size)
  else if i.op = 19 then (215, i.src, i.off, i.size)
  else if i.op = 20 then (24, 0, 0, i.imm)
  else if i.op = 21 then (24, 6, 0, 0)
  else if i.op = 22 then (96 + sizeBits i.size + 1, i.src, i.off, i.imm)
  else if i.op = 23 then (128 + sizeBits i.size + 1, i.src, i.off, i.imm)
  else if i.op = 24 then (if i.reg = true then (96 + sizeBits i.size + 3, i.src, i.off, i.imm) else (96 + sizeBits i.size + 2, i.src, i.off, i.imm))
  else if i.op = 25 then (192 + sizeBits i.size + 3, i.src, i.off, i.imm)
  else (digitOf jumpOps i.op * 16 + jmp + reg, i.src, i.off, i.imm)
/-- the number in the second unit -/
def high (i : Ins) : Int := if i.op = 20 then i.imm / 4294967296 else i.imm
/-- one instruction's bytes -/
def bytes (i : Ins) : List UInt8 :=
  [Pk.byte (opcode i).1, Pk.byte ((opcode i).2.1 * 16 + i.dst)] ++ Pk.low 2 (opcode i).2.2.1 ++ Pk.low 4 (opcode i).2.2.2 ++ (if wide i.op = true then Pk.low 4 0 ++ Pk.low 4 (high i) else [])
/-- Encode: the bytes, where, the error -/
def encode (l : List Ins) : List UInt8 × Nat × Int :=
  if (check l).2 ≠ 0 then ([], (check l).1, (check l).2) else (l.flatMap bytes, 0, 0)

end Go.Proofs.Ytfcbedkidjclhaa.Cd
