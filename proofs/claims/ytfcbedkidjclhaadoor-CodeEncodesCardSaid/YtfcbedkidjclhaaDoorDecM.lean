/-
  What package pack's Decode computes, in plain mathematics, no program in sight.
  No condition: definitions and lemmas on lists and numbers.
-/
import Derived.Test.YtfcbedkidjclhaaDoorPackM
namespace Go.Proofs.YtfcbedkidjclhaaDoor.Pk
set_option linter.unusedSimpArgs false
set_option linter.unusedVariables false

/-- a container -/
structure C where
  lo : Int
  hi : Int
  data : List UInt8
  ts : List (Int × Int)
  code : List UInt8

def C0 : C := ⟨0, 0, [], [], []⟩

/-- one table from two bytes: none, or which of the two is wrong -/
def badB (x : UInt8) : Bool := decide (x.toNat < 1) || decide (64 < x.toNat)

/-- tables from bytes, the first standing at s -/
def tabs : Nat → List UInt8 → Except (Nat × Int) (List (Int × Int))
  | s, a :: b :: l => if badB a = true then .error (s, 122) else if badB b = true then .error (s + 1, 122) else
    match tabs (s + 2) l with
    | .error e => .error e
    | .ok ts => .ok (((a.toNat : Int), (b.toNat : Int)) :: ts)
  | _, _ => .ok []

/-- what a section's contents, which stand at s, make of a container -/
def cont (kind : Nat) (c : List UInt8) (s : Nat) (p : C) : Except (Nat × Int) C :=
  if kind = 1 then (if val (c.drop 2) < val (c.take 2) then .error (s, 121) else .ok { p with lo := val (c.take 2), hi := val (c.drop 2) })
  else if kind = 2 then (match tabs s c with | .error e => .error e | .ok ts => .ok { p with ts := p.ts ++ ts })
  else if kind = 3 then .ok { p with data := c }
  else .ok { p with code := c }

/-- the reader: where it stands, the last kind, the container so far -/
structure R where
  pos : Nat
  kind : Nat
  c : C

/-- a section: bytes are all that is ahead of the sum -/
def sect (bs : List UInt8) (r : R) : Except (Nat × Int) R :=
  let k := (bs.getD r.pos 0).toNat
  let size := val ((bs.drop (r.pos + 1)).take 3)
  if k < 1 ∨ 4 < k ∨ k ≤ r.kind ∨ (r.kind = 0 ∧ k ≠ 1) then .error (r.pos, 120)
  else if bs.length < r.pos + 4 then .error (bs.length, 120)
  else if size = 0 ∨ (k = 1 ∧ size ≠ 4) ∨ (k = 2 ∧ size % 2 = 1) then .error (r.pos + 1, 120)
  else if k = 2 ∧ 16 < size then .error (r.pos + 1, 122)
  else if k = 3 ∧ 4096 < size then .error (r.pos + 1, 123)
  else if bs.length < r.pos + 4 + size then .error (bs.length, 120)
  else match cont k ((bs.drop (r.pos + 4)).take size) (r.pos + 4) r.c with
    | .error e => .error e
    | .ok c => .ok ⟨r.pos + 4 + size, k, c⟩

def sects (bs : List UInt8) : Nat → R → Except (Nat × Int) R
  | 0, r => .ok r
  | f + 1, r => if r.pos < bs.length then (match sect bs r with | .error e => .error e | .ok r' => sects bs f r') else .ok r

/-- Decode: the container, where, the error -/
def decode (b : List UInt8) : C × Nat × Int :=
  if 131072 < b.length then (C0, 0, 2)
  else if b.length < 8 then (C0, b.length, 120)
  else if b.take 4 ≠ magic then (C0, 0, 120)
  else if sum (b.take (b.length - 4)) ≠ val (b.drop (b.length - 4)) then (C0, b.length - 4, 124)
  else match sects (b.take (b.length - 4)) b.length ⟨4, 0, C0⟩ with
    | .error e => (C0, e.1, e.2)
    | .ok r => if r.kind = 0 then (C0, b.length - 4, 120) else (r.c, 0, 0)

end Go.Proofs.YtfcbedkidjclhaaDoor.Pk
