/-
  The contracts of package pack's small functions: put, section, sum, get: what each computes, as Pk says it in plain mathematics.
  Conditions: the slices that come in read as lists; lengths far below 2^47 bytes.
-/
import Derived.Test.YtfcbedkidjclhaaDoorCopy
import Derived.Test.YtfcbedkidjclhaaDoorPackM
namespace Go.Proofs.YtfcbedkidjclhaaDoor
open Go.RowKit
set_option maxRecDepth 100000
set_option linter.unusedSimpArgs false
set_option linter.unusedVariables false
theorem bv_snoc (l : List UInt8) (v : Int) : bv l ++ [Value.int IntKind.u8 (v % 256)] = bv (l ++ [Pk.byte v]) := by
  rw [bv_append]
  congr 1
  simp only [bv, List.map_cons, List.map_nil, Pk.byte_toNat]
theorem oneCell_one (k : IntKind) (x : Int) : ∀ u ∈ [Value.int k x], u.oneCell' = true := by
  intro u hu
  simp at hu
  subst hu
  rfl

/-- what is owned lies not in a given row -/
theorem one_length (k : Int) (c : List UInt8) : (Pk.one k c).length = if c.length = 0 then 0 else c.length + 4 := by
  unfold Pk.one
  split
  · rfl
  · simp [Pk.low_length]; omega

end Go.Proofs.YtfcbedkidjclhaaDoor
