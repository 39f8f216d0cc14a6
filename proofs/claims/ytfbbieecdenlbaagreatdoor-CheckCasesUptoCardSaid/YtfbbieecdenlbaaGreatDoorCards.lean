/-
  DERIVED. GIVEN WITH THE SEED: THE CARDS: each row of YtfbbieecdenlbaaGreatDoorRows.lean that lists a variable, with what it lists TIED to the program's text (the seventh form; the later family's looks); each row that meets fmt, with fmt's text TOLD by the authors' own Lean function (tested against real Go, not proved from fmt's source: count such statements apart). THE CARD IS WHAT COUNTS. Prove the row's statement (the work); the ties are given (YtfbbieecdenlbaaGreatDoorTie.lean); close each card by the builder's one call (the guide's Derived/Test/ToyasCard.lean, 'card_holds'). Laid BY PROGRAM, IN A SANDBOX (cutbox-door.mjs). By AI agents, Wed Nov 11 2026. No macro, syntax, notation, axiom, sorry.
-/
import Derived.Test.YtfbbieecdenlbaaGreatDoorRows
import GoSem.ClaimSeven
namespace Go.Proofs.YtfbbieecdenlbaaGreatDoor
namespace Rows

/-- THE TIED CARD OF 'redpenlaw22.CheckCases'. -/
def checkCasesCard : Claim7 := { stood := { row := checkCasesRow, standIns := [], harness := (true, "3dbe8a2e0c4614a1406769c85e7bf2fdfb2ffa42bcfa88f5dcfbcf07ddec8ed0"), looks := true }, kinds := [], alts := [], laidByText := true, laidKinds := [.data, .data, .data, .data, .sentinel, .sentinel, .data, .widerDeep, .widerDeep, .pinned], laidTests := true, laidLooks := .later }
def CheckCasesCardSaid : Prop := Claim7.holds Tryz.pinned (.plain (OpenSpec.ofChange checkCasesSpec)) checkCasesCard

/-- THE TIED CARD OF 'redpenlaw23.FixNone'. -/
def fixNoneCard : Claim7 := { stood := { row := fixNoneRow, standIns := [], harness := (true, "3dbe8a2e0c4614a1406769c85e7bf2fdfb2ffa42bcfa88f5dcfbcf07ddec8ed0"), looks := true }, kinds := [], alts := [], laidByText := true, laidKinds := [.data, .data, .data, .data, .sentinel, .sentinel, .data, .widerDeep, .widerDeep, .pinned], laidTests := true, laidLooks := .later }
def FixNoneCardSaid : Prop := Claim7.holds Tryz.pinned (.plain (OpenSpec.ofChange fixNoneSpec)) fixNoneCard

/-- THE SECOND FORM's CARD OF 'redpenlaw22.CheckCases'. -/
def checkCasesUptoCard : Claim7 := { stood := { row := checkCasesUptoRow, standIns := [], harness := (true, "3dbe8a2e0c4614a1406769c85e7bf2fdfb2ffa42bcfa88f5dcfbcf07ddec8ed0"), looks := true }, kinds := [], alts := [], laidByText := true, laidKinds := [.data, .data, .data, .data, .sentinel, .sentinel, .data, .widerDeep, .widerDeep, .pinned], laidTests := true, laidLooks := .later }
def CheckCasesUptoCardSaid : Prop := Claim7.holds Tryz.pinned (.plain (OpenSpec.upto checkCasesSpec)) checkCasesUptoCard

/-- THE SECOND FORM's CARD OF 'redpenlaw23.FixNone'. -/
def fixNoneUptoCard : Claim7 := { stood := { row := fixNoneUptoRow, standIns := [], harness := (true, "3dbe8a2e0c4614a1406769c85e7bf2fdfb2ffa42bcfa88f5dcfbcf07ddec8ed0"), looks := true }, kinds := [], alts := [], laidByText := true, laidKinds := [.data, .data, .data, .data, .sentinel, .sentinel, .data, .widerDeep, .widerDeep, .pinned], laidTests := true, laidLooks := .later }
def FixNoneUptoCardSaid : Prop := Claim7.holds Tryz.pinned (.plain (OpenSpec.upto fixNoneSpec)) fixNoneUptoCard
end Rows
end Go.Proofs.YtfbbieecdenlbaaGreatDoor
