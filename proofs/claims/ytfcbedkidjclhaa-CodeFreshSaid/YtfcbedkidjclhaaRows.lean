/-
  No cell of these rows narrows 'for every input' (looked for: loops, veiled, ifaces, maps, wideKeys, modest, calm, conditions, laid).
  DERIVED. THE GIVEN ROWS OF THIS SEAT. 21 by the template 'for every input the law returns true; each argument reads behind the call as it read before'; 0 by the template 'total and deterministic' (their statements: YtfcbedkidjclhaaTotals.lean).
  GIVEN WITH THE SEED: the statements are not yours to turn. If you find one false, say at which input.
  Laid BY PROGRAM, IN A SANDBOX (cutbox-rows.mjs): the forced cells as the released guide's own fill.sh prints them over the translation bb37318d7fd0f7a3… (all of the seat's roots in one cut). By AI agents, Wed Nov 11 2026. No macro, syntax, notation, axiom, sorry.
-/
import Derived.Test.YtfcbedkidjclhaaChecked
import GoSem.Claim
import GoSem.ClaimJoined
import GoSem.ClaimMapViews
import Derived.JoinedTies
import Derived.KernelRfl
namespace Go.Proofs.Ytfcbedkidjclhaa
/- THE CELL 'sum', in the pinned program and in every row, IS THE sha256 OF THE DUMP (.gsa) THAT YtfcbedkidjclhaaProg.lean LOADS. Nothing in Lean hashes anything: it is a label: what it is worth is what the hold of that sum in a sandbox is worth. -/
noncomputable def Try.pinned : Pinned := { name := "ytfcbedkidjclhaa", sum := "bb37318d7fd0f7a3c9611e4739f6689d9f2d9a35b4bf5c231ee9a6ae4905453d", checked := Try.checked }
namespace Rows
def none {H : Type} : Left H := { results := [], args := [] }

/-- 'warrantlaw12.PackEncodes': WHATEVER THE INPUT: true; the input reads as it did. -/
def packEncodesSpec : ChangeSpec := { name := "packEncodes", fn := fun _ => fun
  | [d1, d2] => { results := [.lit (.bool true)], args := [d1, d2] }
  | _ => none }
def packEncodesRow : OpenClaim := { program := "ytfcbedkidjclhaa", sum := "bb37318d7fd0f7a3c9611e4739f6689d9f2d9a35b4bf5c231ee9a6ae4905453d", func := "warrant/warrantlaw12.PackEncodes", spec := "packEncodes", unfollowed := true, recurses := true, apart := false }
def PackEncodesSaid : Prop := packEncodesRow.holds Try.pinned (OpenSpec.ofChange packEncodesSpec)

/-- ITS FALSE NEIGHBOUR: 'it returns false'. Refute it at one input. -/
def packEncodesWrong : ChangeSpec := { name := "packEncodes", fn := fun _ => fun
  | [d1, d2] => { results := [.lit (.bool false)], args := [d1, d2] }
  | _ => none }
def PackEncodesWrongFalsely : Prop := packEncodesRow.holds Try.pinned (OpenSpec.ofChange packEncodesWrong)

/-- 'warrantlaw12.PackDecodes': WHATEVER THE INPUT: true; the input reads as it did. -/
def packDecodesSpec : ChangeSpec := { name := "packDecodes", fn := fun _ => fun
  | [d1, d2] => { results := [.lit (.bool true)], args := [d1, d2] }
  | _ => none }
def packDecodesRow : OpenClaim := { program := "ytfcbedkidjclhaa", sum := "bb37318d7fd0f7a3c9611e4739f6689d9f2d9a35b4bf5c231ee9a6ae4905453d", func := "warrant/warrantlaw12.PackDecodes", spec := "packDecodes", unfollowed := true, recurses := true, apart := false }
def PackDecodesSaid : Prop := packDecodesRow.holds Try.pinned (OpenSpec.ofChange packDecodesSpec)

/-- ITS FALSE NEIGHBOUR: 'it returns false'. Refute it at one input. -/
def packDecodesWrong : ChangeSpec := { name := "packDecodes", fn := fun _ => fun
  | [d1, d2] => { results := [.lit (.bool false)], args := [d1, d2] }
  | _ => none }
def PackDecodesWrongFalsely : Prop := packDecodesRow.holds Try.pinned (OpenSpec.ofChange packDecodesWrong)

/-- 'warrantlaw12.PackBack': WHATEVER THE INPUT: true; the input reads as it did. -/
def packBackSpec : ChangeSpec := { name := "packBack", fn := fun _ => fun
  | [d1, d2] => { results := [.lit (.bool true)], args := [d1, d2] }
  | _ => none }
def packBackRow : OpenClaim := { program := "ytfcbedkidjclhaa", sum := "bb37318d7fd0f7a3c9611e4739f6689d9f2d9a35b4bf5c231ee9a6ae4905453d", func := "warrant/warrantlaw12.PackBack", spec := "packBack", unfollowed := true, recurses := true, apart := false }
def PackBackSaid : Prop := packBackRow.holds Try.pinned (OpenSpec.ofChange packBackSpec)

/-- ITS FALSE NEIGHBOUR: 'it returns false'. Refute it at one input. -/
def packBackWrong : ChangeSpec := { name := "packBack", fn := fun _ => fun
  | [d1, d2] => { results := [.lit (.bool false)], args := [d1, d2] }
  | _ => none }
def PackBackWrongFalsely : Prop := packBackRow.holds Try.pinned (OpenSpec.ofChange packBackWrong)

/-- 'warrantlaw12.PackSums': WHATEVER THE INPUT: true; the input reads as it did. -/
def packSumsSpec : ChangeSpec := { name := "packSums", fn := fun _ => fun
  | [d1, d2, d3] => { results := [.lit (.bool true)], args := [d1, d2, d3] }
  | _ => none }
def packSumsRow : OpenClaim := { program := "ytfcbedkidjclhaa", sum := "bb37318d7fd0f7a3c9611e4739f6689d9f2d9a35b4bf5c231ee9a6ae4905453d", func := "warrant/warrantlaw12.PackSums", spec := "packSums", unfollowed := true, recurses := true, apart := false }
def PackSumsSaid : Prop := packSumsRow.holds Try.pinned (OpenSpec.ofChange packSumsSpec)

/-- ITS FALSE NEIGHBOUR: 'it returns false'. Refute it at one input. -/
def packSumsWrong : ChangeSpec := { name := "packSums", fn := fun _ => fun
  | [d1, d2, d3] => { results := [.lit (.bool false)], args := [d1, d2, d3] }
  | _ => none }
def PackSumsWrongFalsely : Prop := packSumsRow.holds Try.pinned (OpenSpec.ofChange packSumsWrong)

/-- 'warrantlaw12.PackParts': WHATEVER THE INPUT: true; the input reads as it did. -/
def packPartsSpec : ChangeSpec := { name := "packParts", fn := fun _ => fun
  | [d] => { results := [.lit (.bool true)], args := [d] }
  | _ => none }
def packPartsRow : OpenClaim := { program := "ytfcbedkidjclhaa", sum := "bb37318d7fd0f7a3c9611e4739f6689d9f2d9a35b4bf5c231ee9a6ae4905453d", func := "warrant/warrantlaw12.PackParts", spec := "packParts", unfollowed := true, recurses := true, apart := false }
def PackPartsSaid : Prop := packPartsRow.holds Try.pinned (OpenSpec.ofChange packPartsSpec)

/-- ITS FALSE NEIGHBOUR: 'it returns false'. Refute it at one input. -/
def packPartsWrong : ChangeSpec := { name := "packParts", fn := fun _ => fun
  | [d] => { results := [.lit (.bool false)], args := [d] }
  | _ => none }
def PackPartsWrongFalsely : Prop := packPartsRow.holds Try.pinned (OpenSpec.ofChange packPartsWrong)

/-- 'warrantlaw02.CodeNames': WHATEVER THE INPUT: true; the input reads as it did. -/
def codeNamesSpec : ChangeSpec := { name := "codeNames", fn := fun _ => fun
  | [] => { results := [.lit (.bool true)], args := [] }
  | _ => none }
def codeNamesRow : OpenClaim := { program := "ytfcbedkidjclhaa", sum := "bb37318d7fd0f7a3c9611e4739f6689d9f2d9a35b4bf5c231ee9a6ae4905453d", func := "warrant/warrantlaw02.CodeNames", spec := "codeNames", unfollowed := true, recurses := true, apart := false }
def CodeNamesSaid : Prop := codeNamesRow.holds Try.pinned (OpenSpec.ofChange codeNamesSpec)

/-- ITS FALSE NEIGHBOUR: 'it returns false'. Refute it at one input. -/
def codeNamesWrong : ChangeSpec := { name := "codeNames", fn := fun _ => fun
  | [] => { results := [.lit (.bool false)], args := [] }
  | _ => none }
def CodeNamesWrongFalsely : Prop := codeNamesRow.holds Try.pinned (OpenSpec.ofChange codeNamesWrong)

/-- 'warrantlaw02.CodeDecodes': WHATEVER THE INPUT: true; the input reads as it did. -/
def codeDecodesSpec : ChangeSpec := { name := "codeDecodes", fn := fun _ => fun
  | [d] => { results := [.lit (.bool true)], args := [d] }
  | _ => none }
def codeDecodesRow : OpenClaim := { program := "ytfcbedkidjclhaa", sum := "bb37318d7fd0f7a3c9611e4739f6689d9f2d9a35b4bf5c231ee9a6ae4905453d", func := "warrant/warrantlaw02.CodeDecodes", spec := "codeDecodes", unfollowed := true, recurses := true, apart := false }
def CodeDecodesSaid : Prop := codeDecodesRow.holds Try.pinned (OpenSpec.ofChange codeDecodesSpec)

/-- ITS FALSE NEIGHBOUR: 'it returns false'. Refute it at one input. -/
def codeDecodesWrong : ChangeSpec := { name := "codeDecodes", fn := fun _ => fun
  | [d] => { results := [.lit (.bool false)], args := [d] }
  | _ => none }
def CodeDecodesWrongFalsely : Prop := codeDecodesRow.holds Try.pinned (OpenSpec.ofChange codeDecodesWrong)

/-- 'warrantlaw02.CodeRights': WHATEVER THE INPUT: true; the input reads as it did. -/
def codeRightsSpec : ChangeSpec := { name := "codeRights", fn := fun _ => fun
  | [d] => { results := [.lit (.bool true)], args := [d] }
  | _ => none }
def codeRightsRow : OpenClaim := { program := "ytfcbedkidjclhaa", sum := "bb37318d7fd0f7a3c9611e4739f6689d9f2d9a35b4bf5c231ee9a6ae4905453d", func := "warrant/warrantlaw02.CodeRights", spec := "codeRights", unfollowed := true, recurses := true, apart := false }
def CodeRightsSaid : Prop := codeRightsRow.holds Try.pinned (OpenSpec.ofChange codeRightsSpec)

/-- ITS FALSE NEIGHBOUR: 'it returns false'. Refute it at one input. -/
def codeRightsWrong : ChangeSpec := { name := "codeRights", fn := fun _ => fun
  | [d] => { results := [.lit (.bool false)], args := [d] }
  | _ => none }
def CodeRightsWrongFalsely : Prop := codeRightsRow.holds Try.pinned (OpenSpec.ofChange codeRightsWrong)

/-- 'warrantlaw02.CodeBack': WHATEVER THE INPUT: true; the input reads as it did. -/
def codeBackSpec : ChangeSpec := { name := "codeBack", fn := fun _ => fun
  | [d] => { results := [.lit (.bool true)], args := [d] }
  | _ => none }
def codeBackRow : OpenClaim := { program := "ytfcbedkidjclhaa", sum := "bb37318d7fd0f7a3c9611e4739f6689d9f2d9a35b4bf5c231ee9a6ae4905453d", func := "warrant/warrantlaw02.CodeBack", spec := "codeBack", unfollowed := true, recurses := true, apart := false }
def CodeBackSaid : Prop := codeBackRow.holds Try.pinned (OpenSpec.ofChange codeBackSpec)

/-- ITS FALSE NEIGHBOUR: 'it returns false'. Refute it at one input. -/
def codeBackWrong : ChangeSpec := { name := "codeBack", fn := fun _ => fun
  | [d] => { results := [.lit (.bool false)], args := [d] }
  | _ => none }
def CodeBackWrongFalsely : Prop := codeBackRow.holds Try.pinned (OpenSpec.ofChange codeBackWrong)

/-- 'warrantlaw02.CodeForth': WHATEVER THE INPUT: true; the input reads as it did. -/
def codeForthSpec : ChangeSpec := { name := "codeForth", fn := fun _ => fun
  | [d] => { results := [.lit (.bool true)], args := [d] }
  | _ => none }
def codeForthRow : OpenClaim := { program := "ytfcbedkidjclhaa", sum := "bb37318d7fd0f7a3c9611e4739f6689d9f2d9a35b4bf5c231ee9a6ae4905453d", func := "warrant/warrantlaw02.CodeForth", spec := "codeForth", unfollowed := true, recurses := true, apart := false }
def CodeForthSaid : Prop := codeForthRow.holds Try.pinned (OpenSpec.ofChange codeForthSpec)

/-- ITS FALSE NEIGHBOUR: 'it returns false'. Refute it at one input. -/
def codeForthWrong : ChangeSpec := { name := "codeForth", fn := fun _ => fun
  | [d] => { results := [.lit (.bool false)], args := [d] }
  | _ => none }
def CodeForthWrongFalsely : Prop := codeForthRow.holds Try.pinned (OpenSpec.ofChange codeForthWrong)

/-- 'warrantlaw02.CodeJoins': WHATEVER THE INPUT: true; the input reads as it did. -/
def codeJoinsSpec : ChangeSpec := { name := "codeJoins", fn := fun _ => fun
  | [d1, d2] => { results := [.lit (.bool true)], args := [d1, d2] }
  | _ => none }
def codeJoinsRow : OpenClaim := { program := "ytfcbedkidjclhaa", sum := "bb37318d7fd0f7a3c9611e4739f6689d9f2d9a35b4bf5c231ee9a6ae4905453d", func := "warrant/warrantlaw02.CodeJoins", spec := "codeJoins", unfollowed := true, recurses := true, apart := false }
def CodeJoinsSaid : Prop := codeJoinsRow.holds Try.pinned (OpenSpec.ofChange codeJoinsSpec)

/-- ITS FALSE NEIGHBOUR: 'it returns false'. Refute it at one input. -/
def codeJoinsWrong : ChangeSpec := { name := "codeJoins", fn := fun _ => fun
  | [d1, d2] => { results := [.lit (.bool false)], args := [d1, d2] }
  | _ => none }
def CodeJoinsWrongFalsely : Prop := codeJoinsRow.holds Try.pinned (OpenSpec.ofChange codeJoinsWrong)

/-- 'warrantlaw02.CodeFirst': WHATEVER THE INPUT: true; the input reads as it did. -/
def codeFirstSpec : ChangeSpec := { name := "codeFirst", fn := fun _ => fun
  | [d] => { results := [.lit (.bool true)], args := [d] }
  | _ => none }
def codeFirstRow : OpenClaim := { program := "ytfcbedkidjclhaa", sum := "bb37318d7fd0f7a3c9611e4739f6689d9f2d9a35b4bf5c231ee9a6ae4905453d", func := "warrant/warrantlaw02.CodeFirst", spec := "codeFirst", unfollowed := true, recurses := true, apart := false }
def CodeFirstSaid : Prop := codeFirstRow.holds Try.pinned (OpenSpec.ofChange codeFirstSpec)

/-- ITS FALSE NEIGHBOUR: 'it returns false'. Refute it at one input. -/
def codeFirstWrong : ChangeSpec := { name := "codeFirst", fn := fun _ => fun
  | [d] => { results := [.lit (.bool false)], args := [d] }
  | _ => none }
def CodeFirstWrongFalsely : Prop := codeFirstRow.holds Try.pinned (OpenSpec.ofChange codeFirstWrong)

/-- 'warrantlaw02.CodeAlone': WHATEVER THE INPUT: true; the input reads as it did. -/
def codeAloneSpec : ChangeSpec := { name := "codeAlone", fn := fun _ => fun
  | [d] => { results := [.lit (.bool true)], args := [d] }
  | _ => none }
def codeAloneRow : OpenClaim := { program := "ytfcbedkidjclhaa", sum := "bb37318d7fd0f7a3c9611e4739f6689d9f2d9a35b4bf5c231ee9a6ae4905453d", func := "warrant/warrantlaw02.CodeAlone", spec := "codeAlone", unfollowed := true, recurses := true, apart := false }
def CodeAloneSaid : Prop := codeAloneRow.holds Try.pinned (OpenSpec.ofChange codeAloneSpec)

/-- ITS FALSE NEIGHBOUR: 'it returns false'. Refute it at one input. -/
def codeAloneWrong : ChangeSpec := { name := "codeAlone", fn := fun _ => fun
  | [d] => { results := [.lit (.bool false)], args := [d] }
  | _ => none }
def CodeAloneWrongFalsely : Prop := codeAloneRow.holds Try.pinned (OpenSpec.ofChange codeAloneWrong)

/-- 'warrantlaw02.CodeUnlike': WHATEVER THE INPUT: true; the input reads as it did. -/
def codeUnlikeSpec : ChangeSpec := { name := "codeUnlike", fn := fun _ => fun
  | [d1, d2] => { results := [.lit (.bool true)], args := [d1, d2] }
  | _ => none }
def codeUnlikeRow : OpenClaim := { program := "ytfcbedkidjclhaa", sum := "bb37318d7fd0f7a3c9611e4739f6689d9f2d9a35b4bf5c231ee9a6ae4905453d", func := "warrant/warrantlaw02.CodeUnlike", spec := "codeUnlike", unfollowed := true, recurses := true, apart := false }
def CodeUnlikeSaid : Prop := codeUnlikeRow.holds Try.pinned (OpenSpec.ofChange codeUnlikeSpec)

/-- ITS FALSE NEIGHBOUR: 'it returns false'. Refute it at one input. -/
def codeUnlikeWrong : ChangeSpec := { name := "codeUnlike", fn := fun _ => fun
  | [d1, d2] => { results := [.lit (.bool false)], args := [d1, d2] }
  | _ => none }
def CodeUnlikeWrongFalsely : Prop := codeUnlikeRow.holds Try.pinned (OpenSpec.ofChange codeUnlikeWrong)

/-- 'warrantlaw02.CodeTurned': WHATEVER THE INPUT: true; the input reads as it did. -/
def codeTurnedSpec : ChangeSpec := { name := "codeTurned", fn := fun _ => fun
  | [d1, d2, d3] => { results := [.lit (.bool true)], args := [d1, d2, d3] }
  | _ => none }
def codeTurnedRow : OpenClaim := { program := "ytfcbedkidjclhaa", sum := "bb37318d7fd0f7a3c9611e4739f6689d9f2d9a35b4bf5c231ee9a6ae4905453d", func := "warrant/warrantlaw02.CodeTurned", spec := "codeTurned", unfollowed := true, recurses := true, apart := false }
def CodeTurnedSaid : Prop := codeTurnedRow.holds Try.pinned (OpenSpec.ofChange codeTurnedSpec)

/-- ITS FALSE NEIGHBOUR: 'it returns false'. Refute it at one input. -/
def codeTurnedWrong : ChangeSpec := { name := "codeTurned", fn := fun _ => fun
  | [d1, d2, d3] => { results := [.lit (.bool false)], args := [d1, d2, d3] }
  | _ => none }
def CodeTurnedWrongFalsely : Prop := codeTurnedRow.holds Try.pinned (OpenSpec.ofChange codeTurnedWrong)

/-- 'warrantlaw02.CodeFresh': WHATEVER THE INPUT: true; the input reads as it did. -/
def codeFreshSpec : ChangeSpec := { name := "codeFresh", fn := fun _ => fun
  | [d1, d2] => { results := [.lit (.bool true)], args := [d1, d2] }
  | _ => none }
def codeFreshRow : OpenClaim := { program := "ytfcbedkidjclhaa", sum := "bb37318d7fd0f7a3c9611e4739f6689d9f2d9a35b4bf5c231ee9a6ae4905453d", func := "warrant/warrantlaw02.CodeFresh", spec := "codeFresh", unfollowed := true, recurses := true, apart := false }
def CodeFreshSaid : Prop := codeFreshRow.holds Try.pinned (OpenSpec.ofChange codeFreshSpec)

/-- ITS FALSE NEIGHBOUR: 'it returns false'. Refute it at one input. -/
def codeFreshWrong : ChangeSpec := { name := "codeFresh", fn := fun _ => fun
  | [d1, d2] => { results := [.lit (.bool false)], args := [d1, d2] }
  | _ => none }
def CodeFreshWrongFalsely : Prop := codeFreshRow.holds Try.pinned (OpenSpec.ofChange codeFreshWrong)

/-- 'warrantlaw12.PackOfs': WHATEVER THE INPUT: true; the input reads as it did. -/
def packOfsSpec : ChangeSpec := { name := "packOfs", fn := fun _ => fun
  | [d] => { results := [.lit (.bool true)], args := [d] }
  | _ => none }
def packOfsRow : OpenClaim := { program := "ytfcbedkidjclhaa", sum := "bb37318d7fd0f7a3c9611e4739f6689d9f2d9a35b4bf5c231ee9a6ae4905453d", func := "warrant/warrantlaw12.PackOfs", spec := "packOfs", unfollowed := true, recurses := true, apart := false }
def PackOfsSaid : Prop := packOfsRow.holds Try.pinned (OpenSpec.ofChange packOfsSpec)

/-- ITS FALSE NEIGHBOUR: 'it returns false'. Refute it at one input. -/
def packOfsWrong : ChangeSpec := { name := "packOfs", fn := fun _ => fun
  | [d] => { results := [.lit (.bool false)], args := [d] }
  | _ => none }
def PackOfsWrongFalsely : Prop := packOfsRow.holds Try.pinned (OpenSpec.ofChange packOfsWrong)

/-- 'warrantlaw12.PackPrograms': WHATEVER THE INPUT: true; the input reads as it did. -/
def packProgramsSpec : ChangeSpec := { name := "packPrograms", fn := fun _ => fun
  | [d] => { results := [.lit (.bool true)], args := [d] }
  | _ => none }
def packProgramsRow : OpenClaim := { program := "ytfcbedkidjclhaa", sum := "bb37318d7fd0f7a3c9611e4739f6689d9f2d9a35b4bf5c231ee9a6ae4905453d", func := "warrant/warrantlaw12.PackPrograms", spec := "packPrograms", unfollowed := true, recurses := true, apart := false }
def PackProgramsSaid : Prop := packProgramsRow.holds Try.pinned (OpenSpec.ofChange packProgramsSpec)

/-- ITS FALSE NEIGHBOUR: 'it returns false'. Refute it at one input. -/
def packProgramsWrong : ChangeSpec := { name := "packPrograms", fn := fun _ => fun
  | [d] => { results := [.lit (.bool false)], args := [d] }
  | _ => none }
def PackProgramsWrongFalsely : Prop := packProgramsRow.holds Try.pinned (OpenSpec.ofChange packProgramsWrong)

/-- 'warrantlaw12.PackFaithful': WHATEVER THE INPUT: true; the input reads as it did. -/
def packFaithfulSpec : ChangeSpec := { name := "packFaithful", fn := fun _ => fun
  | [d] => { results := [.lit (.bool true)], args := [d] }
  | _ => none }
def packFaithfulRow : OpenClaim := { program := "ytfcbedkidjclhaa", sum := "bb37318d7fd0f7a3c9611e4739f6689d9f2d9a35b4bf5c231ee9a6ae4905453d", func := "warrant/warrantlaw12.PackFaithful", spec := "packFaithful", unfollowed := true, recurses := true, apart := false }
def PackFaithfulSaid : Prop := packFaithfulRow.holds Try.pinned (OpenSpec.ofChange packFaithfulSpec)

/-- ITS FALSE NEIGHBOUR: 'it returns false'. Refute it at one input. -/
def packFaithfulWrong : ChangeSpec := { name := "packFaithful", fn := fun _ => fun
  | [d] => { results := [.lit (.bool false)], args := [d] }
  | _ => none }
def PackFaithfulWrongFalsely : Prop := packFaithfulRow.holds Try.pinned (OpenSpec.ofChange packFaithfulWrong)

/-- 'warrantlaw12.PackAgain': WHATEVER THE INPUT: true; the input reads as it did. -/
def packAgainSpec : ChangeSpec := { name := "packAgain", fn := fun _ => fun
  | [d] => { results := [.lit (.bool true)], args := [d] }
  | _ => none }
def packAgainRow : OpenClaim := { program := "ytfcbedkidjclhaa", sum := "bb37318d7fd0f7a3c9611e4739f6689d9f2d9a35b4bf5c231ee9a6ae4905453d", func := "warrant/warrantlaw12.PackAgain", spec := "packAgain", unfollowed := true, recurses := true, apart := false }
def PackAgainSaid : Prop := packAgainRow.holds Try.pinned (OpenSpec.ofChange packAgainSpec)

/-- ITS FALSE NEIGHBOUR: 'it returns false'. Refute it at one input. -/
def packAgainWrong : ChangeSpec := { name := "packAgain", fn := fun _ => fun
  | [d] => { results := [.lit (.bool false)], args := [d] }
  | _ => none }
def PackAgainWrongFalsely : Prop := packAgainRow.holds Try.pinned (OpenSpec.ofChange packAgainWrong)

/-- 'warrantlaw12.PackRefuses': WHATEVER THE INPUT: true; the input reads as it did. -/
def packRefusesSpec : ChangeSpec := { name := "packRefuses", fn := fun _ => fun
  | [d1, d2, d3] => { results := [.lit (.bool true)], args := [d1, d2, d3] }
  | _ => none }
def packRefusesRow : OpenClaim := { program := "ytfcbedkidjclhaa", sum := "bb37318d7fd0f7a3c9611e4739f6689d9f2d9a35b4bf5c231ee9a6ae4905453d", func := "warrant/warrantlaw12.PackRefuses", spec := "packRefuses", unfollowed := true, recurses := true, apart := false }
def PackRefusesSaid : Prop := packRefusesRow.holds Try.pinned (OpenSpec.ofChange packRefusesSpec)

/-- ITS FALSE NEIGHBOUR: 'it returns false'. Refute it at one input. -/
def packRefusesWrong : ChangeSpec := { name := "packRefuses", fn := fun _ => fun
  | [d1, d2, d3] => { results := [.lit (.bool false)], args := [d1, d2, d3] }
  | _ => none }
def PackRefusesWrongFalsely : Prop := packRefusesRow.holds Try.pinned (OpenSpec.ofChange packRefusesWrong)

/- THE SECOND FORM. 'bulk': how many values and letters a reading holds, each counted each time it is reached (what is shared counts as often as it is met; a slice's spare places count too). A statement '..UptoSaid' is the law's where the arguments, and the package variables that the reading takes, are together of bulk at most 1048576: NARROWER than '..Said'. Prove '..Said' where nothing that the law and all that it calls make is longer than what came in: it says more and counts as full. Else prove '..UptoSaid'. A law counts once. -/
mutual
def uptoBulk {H : Type} : DataW H → Nat
  | .lit (.string bytes) => bytes.length + 1
  | .lit _ => 1
  | .nil => 1
  | .ptr d => uptoBulk d + 1
  | .slice elems spare => uptoBulkAll elems + uptoBulkAll spare + 1
  | .agg parts => uptoBulkAll parts + 1
  | .iface _ d => uptoBulk d + 1
  | .map entries => uptoBulkEntries entries + 1
  | .held _ => 1
def uptoBulkAll {H : Type} : List (DataW H) → Nat
  | [] => 0
  | d :: r => uptoBulk d + uptoBulkAll r
def uptoBulkEntries {H : Type} : List (Lit × DataW H) → Nat
  | [] => 0
  | x :: r => uptoBulkEntry x + uptoBulkEntries r
def uptoBulkEntry {H : Type} : Lit × DataW H → Nat
  | (.string bytes, d) => bytes.length + uptoBulk d + 1
  | (_, d) => uptoBulk d + 1
 end
def uptoSmall : (H : Type) → List (DataW H) → Bool := fun _ ds => decide (uptoBulkAll ds ≤ 1048576)
def OpenSpec.upto (s : _root_.Go.ChangeSpec) : _root_.Go.OpenSpec := { _root_.Go.OpenSpec.ofChange s with cond := some uptoSmall }

/-- 'warrantlaw12.PackEncodes', WHERE WHAT IT READS IS OF BULK AT MOST 1048576: true; the input reads as it did. -/
def packEncodesUptoRow : OpenClaim := { program := "ytfcbedkidjclhaa", sum := "bb37318d7fd0f7a3c9611e4739f6689d9f2d9a35b4bf5c231ee9a6ae4905453d", func := "warrant/warrantlaw12.PackEncodes", spec := "packEncodes", unfollowed := true, recurses := true, apart := false, narrowed := true }
def PackEncodesUptoSaid : Prop := packEncodesUptoRow.holds Try.pinned (OpenSpec.upto packEncodesSpec)

/-- 'warrantlaw12.PackDecodes', WHERE WHAT IT READS IS OF BULK AT MOST 1048576: true; the input reads as it did. -/
def packDecodesUptoRow : OpenClaim := { program := "ytfcbedkidjclhaa", sum := "bb37318d7fd0f7a3c9611e4739f6689d9f2d9a35b4bf5c231ee9a6ae4905453d", func := "warrant/warrantlaw12.PackDecodes", spec := "packDecodes", unfollowed := true, recurses := true, apart := false, narrowed := true }
def PackDecodesUptoSaid : Prop := packDecodesUptoRow.holds Try.pinned (OpenSpec.upto packDecodesSpec)

/-- 'warrantlaw12.PackBack', WHERE WHAT IT READS IS OF BULK AT MOST 1048576: true; the input reads as it did. -/
def packBackUptoRow : OpenClaim := { program := "ytfcbedkidjclhaa", sum := "bb37318d7fd0f7a3c9611e4739f6689d9f2d9a35b4bf5c231ee9a6ae4905453d", func := "warrant/warrantlaw12.PackBack", spec := "packBack", unfollowed := true, recurses := true, apart := false, narrowed := true }
def PackBackUptoSaid : Prop := packBackUptoRow.holds Try.pinned (OpenSpec.upto packBackSpec)

/-- 'warrantlaw12.PackSums', WHERE WHAT IT READS IS OF BULK AT MOST 1048576: true; the input reads as it did. -/
def packSumsUptoRow : OpenClaim := { program := "ytfcbedkidjclhaa", sum := "bb37318d7fd0f7a3c9611e4739f6689d9f2d9a35b4bf5c231ee9a6ae4905453d", func := "warrant/warrantlaw12.PackSums", spec := "packSums", unfollowed := true, recurses := true, apart := false, narrowed := true }
def PackSumsUptoSaid : Prop := packSumsUptoRow.holds Try.pinned (OpenSpec.upto packSumsSpec)

/-- 'warrantlaw12.PackParts', WHERE WHAT IT READS IS OF BULK AT MOST 1048576: true; the input reads as it did. -/
def packPartsUptoRow : OpenClaim := { program := "ytfcbedkidjclhaa", sum := "bb37318d7fd0f7a3c9611e4739f6689d9f2d9a35b4bf5c231ee9a6ae4905453d", func := "warrant/warrantlaw12.PackParts", spec := "packParts", unfollowed := true, recurses := true, apart := false, narrowed := true }
def PackPartsUptoSaid : Prop := packPartsUptoRow.holds Try.pinned (OpenSpec.upto packPartsSpec)

/-- 'warrantlaw02.CodeNames', WHERE WHAT IT READS IS OF BULK AT MOST 1048576: true; the input reads as it did. -/
def codeNamesUptoRow : OpenClaim := { program := "ytfcbedkidjclhaa", sum := "bb37318d7fd0f7a3c9611e4739f6689d9f2d9a35b4bf5c231ee9a6ae4905453d", func := "warrant/warrantlaw02.CodeNames", spec := "codeNames", unfollowed := true, recurses := true, apart := false, narrowed := true }
def CodeNamesUptoSaid : Prop := codeNamesUptoRow.holds Try.pinned (OpenSpec.upto codeNamesSpec)

/-- 'warrantlaw02.CodeDecodes', WHERE WHAT IT READS IS OF BULK AT MOST 1048576: true; the input reads as it did. -/
def codeDecodesUptoRow : OpenClaim := { program := "ytfcbedkidjclhaa", sum := "bb37318d7fd0f7a3c9611e4739f6689d9f2d9a35b4bf5c231ee9a6ae4905453d", func := "warrant/warrantlaw02.CodeDecodes", spec := "codeDecodes", unfollowed := true, recurses := true, apart := false, narrowed := true }
def CodeDecodesUptoSaid : Prop := codeDecodesUptoRow.holds Try.pinned (OpenSpec.upto codeDecodesSpec)

/-- 'warrantlaw02.CodeRights', WHERE WHAT IT READS IS OF BULK AT MOST 1048576: true; the input reads as it did. -/
def codeRightsUptoRow : OpenClaim := { program := "ytfcbedkidjclhaa", sum := "bb37318d7fd0f7a3c9611e4739f6689d9f2d9a35b4bf5c231ee9a6ae4905453d", func := "warrant/warrantlaw02.CodeRights", spec := "codeRights", unfollowed := true, recurses := true, apart := false, narrowed := true }
def CodeRightsUptoSaid : Prop := codeRightsUptoRow.holds Try.pinned (OpenSpec.upto codeRightsSpec)

/-- 'warrantlaw02.CodeBack', WHERE WHAT IT READS IS OF BULK AT MOST 1048576: true; the input reads as it did. -/
def codeBackUptoRow : OpenClaim := { program := "ytfcbedkidjclhaa", sum := "bb37318d7fd0f7a3c9611e4739f6689d9f2d9a35b4bf5c231ee9a6ae4905453d", func := "warrant/warrantlaw02.CodeBack", spec := "codeBack", unfollowed := true, recurses := true, apart := false, narrowed := true }
def CodeBackUptoSaid : Prop := codeBackUptoRow.holds Try.pinned (OpenSpec.upto codeBackSpec)

/-- 'warrantlaw02.CodeForth', WHERE WHAT IT READS IS OF BULK AT MOST 1048576: true; the input reads as it did. -/
def codeForthUptoRow : OpenClaim := { program := "ytfcbedkidjclhaa", sum := "bb37318d7fd0f7a3c9611e4739f6689d9f2d9a35b4bf5c231ee9a6ae4905453d", func := "warrant/warrantlaw02.CodeForth", spec := "codeForth", unfollowed := true, recurses := true, apart := false, narrowed := true }
def CodeForthUptoSaid : Prop := codeForthUptoRow.holds Try.pinned (OpenSpec.upto codeForthSpec)

/-- 'warrantlaw02.CodeJoins', WHERE WHAT IT READS IS OF BULK AT MOST 1048576: true; the input reads as it did. -/
def codeJoinsUptoRow : OpenClaim := { program := "ytfcbedkidjclhaa", sum := "bb37318d7fd0f7a3c9611e4739f6689d9f2d9a35b4bf5c231ee9a6ae4905453d", func := "warrant/warrantlaw02.CodeJoins", spec := "codeJoins", unfollowed := true, recurses := true, apart := false, narrowed := true }
def CodeJoinsUptoSaid : Prop := codeJoinsUptoRow.holds Try.pinned (OpenSpec.upto codeJoinsSpec)

/-- 'warrantlaw02.CodeFirst', WHERE WHAT IT READS IS OF BULK AT MOST 1048576: true; the input reads as it did. -/
def codeFirstUptoRow : OpenClaim := { program := "ytfcbedkidjclhaa", sum := "bb37318d7fd0f7a3c9611e4739f6689d9f2d9a35b4bf5c231ee9a6ae4905453d", func := "warrant/warrantlaw02.CodeFirst", spec := "codeFirst", unfollowed := true, recurses := true, apart := false, narrowed := true }
def CodeFirstUptoSaid : Prop := codeFirstUptoRow.holds Try.pinned (OpenSpec.upto codeFirstSpec)

/-- 'warrantlaw02.CodeAlone', WHERE WHAT IT READS IS OF BULK AT MOST 1048576: true; the input reads as it did. -/
def codeAloneUptoRow : OpenClaim := { program := "ytfcbedkidjclhaa", sum := "bb37318d7fd0f7a3c9611e4739f6689d9f2d9a35b4bf5c231ee9a6ae4905453d", func := "warrant/warrantlaw02.CodeAlone", spec := "codeAlone", unfollowed := true, recurses := true, apart := false, narrowed := true }
def CodeAloneUptoSaid : Prop := codeAloneUptoRow.holds Try.pinned (OpenSpec.upto codeAloneSpec)

/-- 'warrantlaw02.CodeUnlike', WHERE WHAT IT READS IS OF BULK AT MOST 1048576: true; the input reads as it did. -/
def codeUnlikeUptoRow : OpenClaim := { program := "ytfcbedkidjclhaa", sum := "bb37318d7fd0f7a3c9611e4739f6689d9f2d9a35b4bf5c231ee9a6ae4905453d", func := "warrant/warrantlaw02.CodeUnlike", spec := "codeUnlike", unfollowed := true, recurses := true, apart := false, narrowed := true }
def CodeUnlikeUptoSaid : Prop := codeUnlikeUptoRow.holds Try.pinned (OpenSpec.upto codeUnlikeSpec)

/-- 'warrantlaw02.CodeTurned', WHERE WHAT IT READS IS OF BULK AT MOST 1048576: true; the input reads as it did. -/
def codeTurnedUptoRow : OpenClaim := { program := "ytfcbedkidjclhaa", sum := "bb37318d7fd0f7a3c9611e4739f6689d9f2d9a35b4bf5c231ee9a6ae4905453d", func := "warrant/warrantlaw02.CodeTurned", spec := "codeTurned", unfollowed := true, recurses := true, apart := false, narrowed := true }
def CodeTurnedUptoSaid : Prop := codeTurnedUptoRow.holds Try.pinned (OpenSpec.upto codeTurnedSpec)

/-- 'warrantlaw02.CodeFresh', WHERE WHAT IT READS IS OF BULK AT MOST 1048576: true; the input reads as it did. -/
def codeFreshUptoRow : OpenClaim := { program := "ytfcbedkidjclhaa", sum := "bb37318d7fd0f7a3c9611e4739f6689d9f2d9a35b4bf5c231ee9a6ae4905453d", func := "warrant/warrantlaw02.CodeFresh", spec := "codeFresh", unfollowed := true, recurses := true, apart := false, narrowed := true }
def CodeFreshUptoSaid : Prop := codeFreshUptoRow.holds Try.pinned (OpenSpec.upto codeFreshSpec)

/-- 'warrantlaw12.PackOfs', WHERE WHAT IT READS IS OF BULK AT MOST 1048576: true; the input reads as it did. -/
def packOfsUptoRow : OpenClaim := { program := "ytfcbedkidjclhaa", sum := "bb37318d7fd0f7a3c9611e4739f6689d9f2d9a35b4bf5c231ee9a6ae4905453d", func := "warrant/warrantlaw12.PackOfs", spec := "packOfs", unfollowed := true, recurses := true, apart := false, narrowed := true }
def PackOfsUptoSaid : Prop := packOfsUptoRow.holds Try.pinned (OpenSpec.upto packOfsSpec)

/-- 'warrantlaw12.PackPrograms', WHERE WHAT IT READS IS OF BULK AT MOST 1048576: true; the input reads as it did. -/
def packProgramsUptoRow : OpenClaim := { program := "ytfcbedkidjclhaa", sum := "bb37318d7fd0f7a3c9611e4739f6689d9f2d9a35b4bf5c231ee9a6ae4905453d", func := "warrant/warrantlaw12.PackPrograms", spec := "packPrograms", unfollowed := true, recurses := true, apart := false, narrowed := true }
def PackProgramsUptoSaid : Prop := packProgramsUptoRow.holds Try.pinned (OpenSpec.upto packProgramsSpec)

/-- 'warrantlaw12.PackFaithful', WHERE WHAT IT READS IS OF BULK AT MOST 1048576: true; the input reads as it did. -/
def packFaithfulUptoRow : OpenClaim := { program := "ytfcbedkidjclhaa", sum := "bb37318d7fd0f7a3c9611e4739f6689d9f2d9a35b4bf5c231ee9a6ae4905453d", func := "warrant/warrantlaw12.PackFaithful", spec := "packFaithful", unfollowed := true, recurses := true, apart := false, narrowed := true }
def PackFaithfulUptoSaid : Prop := packFaithfulUptoRow.holds Try.pinned (OpenSpec.upto packFaithfulSpec)

/-- 'warrantlaw12.PackAgain', WHERE WHAT IT READS IS OF BULK AT MOST 1048576: true; the input reads as it did. -/
def packAgainUptoRow : OpenClaim := { program := "ytfcbedkidjclhaa", sum := "bb37318d7fd0f7a3c9611e4739f6689d9f2d9a35b4bf5c231ee9a6ae4905453d", func := "warrant/warrantlaw12.PackAgain", spec := "packAgain", unfollowed := true, recurses := true, apart := false, narrowed := true }
def PackAgainUptoSaid : Prop := packAgainUptoRow.holds Try.pinned (OpenSpec.upto packAgainSpec)

/-- 'warrantlaw12.PackRefuses', WHERE WHAT IT READS IS OF BULK AT MOST 1048576: true; the input reads as it did. -/
def packRefusesUptoRow : OpenClaim := { program := "ytfcbedkidjclhaa", sum := "bb37318d7fd0f7a3c9611e4739f6689d9f2d9a35b4bf5c231ee9a6ae4905453d", func := "warrant/warrantlaw12.PackRefuses", spec := "packRefuses", unfollowed := true, recurses := true, apart := false, narrowed := true }
def PackRefusesUptoSaid : Prop := packRefusesUptoRow.holds Try.pinned (OpenSpec.upto packRefusesSpec)

end Rows
end Go.Proofs.Ytfcbedkidjclhaa
