/-
  DERIVED. GIVEN WITH THE SEED: THE CARDS: each row of YtfcbedkidjclhaaDoorRows.lean that lists a variable, with what it lists TIED to the program's text (the seventh form; the later family's looks); each row that meets fmt, with fmt's text TOLD by the authors' own Lean function (tested against real Go, not proved from fmt's source: count such statements apart). THE CARD IS WHAT COUNTS. Prove the row's statement (the work); the ties are given (YtfcbedkidjclhaaDoorTie.lean); close each card by the builder's one call (the guide's Derived/Test/ToyasCard.lean, 'card_holds'). Laid BY PROGRAM, IN A SANDBOX (cutbox-door.mjs). By AI agents, Wed Nov 11 2026. No macro, syntax, notation, axiom, sorry.
-/
import Derived.Test.YtfcbedkidjclhaaDoorRows
import GoSem.ClaimSeven
namespace Go.Proofs.YtfcbedkidjclhaaDoor
namespace Rows

/-- THE TIED CARD OF 'warrantlaw02.CodeEncodes'. -/
def codeEncodesCard : Claim7 := { stood := { row := codeEncodesRow, standIns := [], harness := (true, "c5cf314e099e150fa429c02f248fbc07859fa006faf4cddeb063b3e80aeb09e1"), looks := true }, kinds := [], alts := [], laidByText := true, laidKinds := [.data], laidTests := true, laidLooks := .later }
def CodeEncodesCardSaid : Prop := Claim7.holds Tryd.pinned (.plain (OpenSpec.ofChange codeEncodesSpec)) codeEncodesCard

/-- THE TIED CARD OF 'warrantlaw02.CodeChecks'. -/
def codeChecksCard : Claim7 := { stood := { row := codeChecksRow, standIns := [], harness := (true, "c5cf314e099e150fa429c02f248fbc07859fa006faf4cddeb063b3e80aeb09e1"), looks := true }, kinds := [], alts := [], laidByText := true, laidKinds := [.data], laidTests := true, laidLooks := .later }
def CodeChecksCardSaid : Prop := Claim7.holds Tryd.pinned (.plain (OpenSpec.ofChange codeChecksSpec)) codeChecksCard

/-- THE TIED CARD OF 'warrantlaw02.CodeUnits'. -/
def codeUnitsCard : Claim7 := { stood := { row := codeUnitsRow, standIns := [], harness := (true, "c5cf314e099e150fa429c02f248fbc07859fa006faf4cddeb063b3e80aeb09e1"), looks := true }, kinds := [], alts := [], laidByText := true, laidKinds := [.data], laidTests := true, laidLooks := .later }
def CodeUnitsCardSaid : Prop := Claim7.holds Tryd.pinned (.plain (OpenSpec.ofChange codeUnitsSpec)) codeUnitsCard

/-- THE SECOND FORM's CARD OF 'warrantlaw02.CodeEncodes'. -/
def codeEncodesUptoCard : Claim7 := { stood := { row := codeEncodesUptoRow, standIns := [], harness := (true, "c5cf314e099e150fa429c02f248fbc07859fa006faf4cddeb063b3e80aeb09e1"), looks := true }, kinds := [], alts := [], laidByText := true, laidKinds := [.data], laidTests := true, laidLooks := .later }
def CodeEncodesUptoCardSaid : Prop := Claim7.holds Tryd.pinned (.plain (OpenSpec.upto codeEncodesSpec)) codeEncodesUptoCard

/-- THE SECOND FORM's CARD OF 'warrantlaw02.CodeChecks'. -/
def codeChecksUptoCard : Claim7 := { stood := { row := codeChecksUptoRow, standIns := [], harness := (true, "c5cf314e099e150fa429c02f248fbc07859fa006faf4cddeb063b3e80aeb09e1"), looks := true }, kinds := [], alts := [], laidByText := true, laidKinds := [.data], laidTests := true, laidLooks := .later }
def CodeChecksUptoCardSaid : Prop := Claim7.holds Tryd.pinned (.plain (OpenSpec.upto codeChecksSpec)) codeChecksUptoCard

/-- THE SECOND FORM's CARD OF 'warrantlaw02.CodeUnits'. -/
def codeUnitsUptoCard : Claim7 := { stood := { row := codeUnitsUptoRow, standIns := [], harness := (true, "c5cf314e099e150fa429c02f248fbc07859fa006faf4cddeb063b3e80aeb09e1"), looks := true }, kinds := [], alts := [], laidByText := true, laidKinds := [.data], laidTests := true, laidLooks := .later }
def CodeUnitsUptoCardSaid : Prop := Claim7.holds Tryd.pinned (.plain (OpenSpec.upto codeUnitsSpec)) codeUnitsUptoCard
end Rows
end Go.Proofs.YtfcbedkidjclhaaDoor
