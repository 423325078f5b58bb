/-
  NARROWER THAN 'FOR EVERY INPUT', by the rows' own cells (each row's printed sentence says how): CodeEncodes: laid · CodeChecks: laid · CodeUnits: laid.
  DERIVED. THE GIVEN ROWS OF THIS SEAT. 3 by the template 'for every input the law returns true; each argument reads behind the call as it read before'; 0 by the template 'total and deterministic' (their statements: YtfcbedkidjclhaaDoorTotals.lean).
  GIVEN WITH THE SEED: the statements are not yours to turn. If you find one false, say at which input.
  Laid BY PROGRAM, IN A SANDBOX (cutbox-rows.mjs): the forced cells as the released guide's own fill.sh prints them over the translation cfc1bff0e72caad4… (all of the seat's roots in one cut). By AI agents, Wed Nov 11 2026. No macro, syntax, notation, axiom, sorry.
-/
import Derived.Test.YtfcbedkidjclhaaDoorChecked
import GoSem.Claim
import GoSem.ClaimJoined
import GoSem.ClaimMapViews
import Derived.JoinedTies
import Derived.KernelRfl
namespace Go.Proofs.YtfcbedkidjclhaaDoor
/- THE CELL 'sum', in the pinned program and in every row, IS THE sha256 OF THE DUMP (.gsa) THAT YtfcbedkidjclhaaDoorProg.lean LOADS. Nothing in Lean hashes anything: it is a label: what it is worth is what the hold of that sum in a sandbox is worth. -/
noncomputable def Tryd.pinned : Pinned := { name := "ytfcbedkidjclhaadoor", sum := "cfc1bff0e72caad4e2d30d0461987391a62689795d17cb12e781d532c6ba80d4", checked := Tryd.checked }
namespace Rows
def none {H : Type} : Left H := { results := [], args := [] }

/- WHAT THE LISTED PACKAGE-LEVEL VARIABLES READ AS WHEN THE CALL BEGINS. Each datum BY PROGRAM (the guide's laid-datum.mjs) off the statement by which the dump's own 'gosem.cut.vars' lays the variable. In a bare row this is a premise. The card (YtfcbedkidjclhaaDoorCards.lean) ties it to the program's text. -/
def laid_warrant_warrantlaw02_mark {H : Type} : DataW H := .agg [.lit (.int .i64 (-77)), .lit (.bool false), .lit (.bool false), .lit (.int .i64 (-77)), .lit (.int .i64 (-77)), .lit (.int .i64 (-77)), .lit (.int .i64 (-77)), .lit (.int .i64 (-77))]

/-- 'warrantlaw02.CodeEncodes': WHATEVER THE INPUT: true; the input reads as it did. -/
def codeEncodesSpec : ChangeSpec := { name := "codeEncodes", fn := fun _ => fun
  | [d] => { results := [.lit (.bool true)], args := [d] }
  | _ => none }
def codeEncodesRow : OpenClaim := { program := "ytfcbedkidjclhaadoor", sum := "cfc1bff0e72caad4e2d30d0461987391a62689795d17cb12e781d532c6ba80d4", func := "warrant/warrantlaw02.CodeEncodes", spec := "codeEncodes", unfollowed := true, recurses := true, named := ["warrant/warrantlaw02.mark"], apart := false, laid := [("warrant/warrantlaw02.mark", laid_warrant_warrantlaw02_mark)] }
def CodeEncodesSaid : Prop := codeEncodesRow.holds Tryd.pinned (OpenSpec.ofChange codeEncodesSpec)

/-- ITS FALSE NEIGHBOUR: 'it returns false'. Refute it at one input. -/
def codeEncodesWrong : ChangeSpec := { name := "codeEncodes", fn := fun _ => fun
  | [d] => { results := [.lit (.bool false)], args := [d] }
  | _ => none }
def CodeEncodesWrongFalsely : Prop := codeEncodesRow.holds Tryd.pinned (OpenSpec.ofChange codeEncodesWrong)

/-- 'warrantlaw02.CodeChecks': WHATEVER THE INPUT: true; the input reads as it did. -/
def codeChecksSpec : ChangeSpec := { name := "codeChecks", fn := fun _ => fun
  | [d] => { results := [.lit (.bool true)], args := [d] }
  | _ => none }
def codeChecksRow : OpenClaim := { program := "ytfcbedkidjclhaadoor", sum := "cfc1bff0e72caad4e2d30d0461987391a62689795d17cb12e781d532c6ba80d4", func := "warrant/warrantlaw02.CodeChecks", spec := "codeChecks", unfollowed := true, recurses := true, named := ["warrant/warrantlaw02.mark"], apart := false, laid := [("warrant/warrantlaw02.mark", laid_warrant_warrantlaw02_mark)] }
def CodeChecksSaid : Prop := codeChecksRow.holds Tryd.pinned (OpenSpec.ofChange codeChecksSpec)

/-- ITS FALSE NEIGHBOUR: 'it returns false'. Refute it at one input. -/
def codeChecksWrong : ChangeSpec := { name := "codeChecks", fn := fun _ => fun
  | [d] => { results := [.lit (.bool false)], args := [d] }
  | _ => none }
def CodeChecksWrongFalsely : Prop := codeChecksRow.holds Tryd.pinned (OpenSpec.ofChange codeChecksWrong)

/-- 'warrantlaw02.CodeUnits': WHATEVER THE INPUT: true; the input reads as it did. -/
def codeUnitsSpec : ChangeSpec := { name := "codeUnits", fn := fun _ => fun
  | [d] => { results := [.lit (.bool true)], args := [d] }
  | _ => none }
def codeUnitsRow : OpenClaim := { program := "ytfcbedkidjclhaadoor", sum := "cfc1bff0e72caad4e2d30d0461987391a62689795d17cb12e781d532c6ba80d4", func := "warrant/warrantlaw02.CodeUnits", spec := "codeUnits", unfollowed := true, recurses := true, named := ["warrant/warrantlaw02.mark"], apart := false, laid := [("warrant/warrantlaw02.mark", laid_warrant_warrantlaw02_mark)] }
def CodeUnitsSaid : Prop := codeUnitsRow.holds Tryd.pinned (OpenSpec.ofChange codeUnitsSpec)

/-- ITS FALSE NEIGHBOUR: 'it returns false'. Refute it at one input. -/
def codeUnitsWrong : ChangeSpec := { name := "codeUnits", fn := fun _ => fun
  | [d] => { results := [.lit (.bool false)], args := [d] }
  | _ => none }
def CodeUnitsWrongFalsely : Prop := codeUnitsRow.holds Tryd.pinned (OpenSpec.ofChange codeUnitsWrong)

/- THE SECOND FORM. 'bulk': how many values and letters a reading holds, each counted each time it is reached (what is shared counts as often as it is met; a slice's spare places count too). A statement '..UptoSaid' is the law's where the arguments, and the package variables that the reading takes, are together of bulk at most 1048576: NARROWER than '..Said'. Prove '..Said' where nothing that the law and all that it calls make is longer than what came in: it says more and counts as full. Else prove '..UptoSaid'. A law counts once. -/
mutual
def uptoBulk {H : Type} : DataW H → Nat
  | .lit (.string bytes) => bytes.length + 1
  | .lit _ => 1
  | .nil => 1
  | .ptr d => uptoBulk d + 1
  | .slice elems spare => uptoBulkAll elems + uptoBulkAll spare + 1
  | .agg parts => uptoBulkAll parts + 1
  | .iface _ d => uptoBulk d + 1
  | .map entries => uptoBulkEntries entries + 1
  | .held _ => 1
def uptoBulkAll {H : Type} : List (DataW H) → Nat
  | [] => 0
  | d :: r => uptoBulk d + uptoBulkAll r
def uptoBulkEntries {H : Type} : List (Lit × DataW H) → Nat
  | [] => 0
  | x :: r => uptoBulkEntry x + uptoBulkEntries r
def uptoBulkEntry {H : Type} : Lit × DataW H → Nat
  | (.string bytes, d) => bytes.length + uptoBulk d + 1
  | (_, d) => uptoBulk d + 1
 end
def uptoSmall : (H : Type) → List (DataW H) → Bool := fun _ ds => decide (uptoBulkAll ds ≤ 1048576)
def OpenSpec.upto (s : _root_.Go.ChangeSpec) : _root_.Go.OpenSpec := { _root_.Go.OpenSpec.ofChange s with cond := some uptoSmall }

/-- 'warrantlaw02.CodeEncodes', WHERE WHAT IT READS IS OF BULK AT MOST 1048576: true; the input reads as it did. -/
def codeEncodesUptoRow : OpenClaim := { program := "ytfcbedkidjclhaadoor", sum := "cfc1bff0e72caad4e2d30d0461987391a62689795d17cb12e781d532c6ba80d4", func := "warrant/warrantlaw02.CodeEncodes", spec := "codeEncodes", unfollowed := true, recurses := true, named := ["warrant/warrantlaw02.mark"], apart := false, laid := [("warrant/warrantlaw02.mark", laid_warrant_warrantlaw02_mark)], narrowed := true }
def CodeEncodesUptoSaid : Prop := codeEncodesUptoRow.holds Tryd.pinned (OpenSpec.upto codeEncodesSpec)

/-- 'warrantlaw02.CodeChecks', WHERE WHAT IT READS IS OF BULK AT MOST 1048576: true; the input reads as it did. -/
def codeChecksUptoRow : OpenClaim := { program := "ytfcbedkidjclhaadoor", sum := "cfc1bff0e72caad4e2d30d0461987391a62689795d17cb12e781d532c6ba80d4", func := "warrant/warrantlaw02.CodeChecks", spec := "codeChecks", unfollowed := true, recurses := true, named := ["warrant/warrantlaw02.mark"], apart := false, laid := [("warrant/warrantlaw02.mark", laid_warrant_warrantlaw02_mark)], narrowed := true }
def CodeChecksUptoSaid : Prop := codeChecksUptoRow.holds Tryd.pinned (OpenSpec.upto codeChecksSpec)

/-- 'warrantlaw02.CodeUnits', WHERE WHAT IT READS IS OF BULK AT MOST 1048576: true; the input reads as it did. -/
def codeUnitsUptoRow : OpenClaim := { program := "ytfcbedkidjclhaadoor", sum := "cfc1bff0e72caad4e2d30d0461987391a62689795d17cb12e781d532c6ba80d4", func := "warrant/warrantlaw02.CodeUnits", spec := "codeUnits", unfollowed := true, recurses := true, named := ["warrant/warrantlaw02.mark"], apart := false, laid := [("warrant/warrantlaw02.mark", laid_warrant_warrantlaw02_mark)], narrowed := true }
def CodeUnitsUptoSaid : Prop := codeUnitsUptoRow.holds Tryd.pinned (OpenSpec.upto codeUnitsSpec)

end Rows
end Go.Proofs.YtfcbedkidjclhaaDoor
