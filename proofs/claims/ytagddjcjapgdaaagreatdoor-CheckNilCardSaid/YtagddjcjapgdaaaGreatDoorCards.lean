/-
  DERIVED. GIVEN WITH THE SEED: THE CARDS: each row of YtagddjcjapgdaaaGreatDoorRows.lean that lists a variable, with what it lists TIED to the program's text (the seventh form; the later family's looks); each row that meets fmt, with fmt's text TOLD by the authors' own Lean function (tested against real Go, not proved from fmt's source: count such statements apart). THE CARD IS WHAT COUNTS. Prove the row's statement (the work); the ties are given (YtagddjcjapgdaaaGreatDoorTie.lean); close each card by the builder's one call (the guide's Derived/Test/ToyasCard.lean, 'card_holds'). Laid BY PROGRAM, IN A SANDBOX (cutbox-door.mjs). By AI agents, Wed Nov 11 2026. No macro, syntax, notation, axiom, sorry.
-/
import Derived.Test.YtagddjcjapgdaaaGreatDoorRows
import GoSem.ClaimSeven
namespace Go.Proofs.YtagddjcjapgdaaaGreatDoor
namespace Rows

/-- THE TIED CARD OF 'redpenlaw22.CheckNil'. -/
def checkNilCard : Claim7 := { stood := { row := checkNilRow, standIns := [], harness := (true, "ce845a6fc94c3bfc5c7e69ca28e11214ba125d1f5529e8732534292c24abf90f"), looks := true }, kinds := [], alts := [], laidByText := true, laidKinds := [.data, .data, .data, .data, .sentinel, .sentinel, .data, .widerDeep, .widerDeep, .pinned], laidTests := true, laidLooks := .later }
def CheckNilCardSaid : Prop := Claim7.holds Tryz.pinned (.plain (OpenSpec.ofChange checkNilSpec)) checkNilCard

/-- THE SECOND FORM's CARD OF 'redpenlaw22.CheckNil'. -/
def checkNilUptoCard : Claim7 := { stood := { row := checkNilUptoRow, standIns := [], harness := (true, "ce845a6fc94c3bfc5c7e69ca28e11214ba125d1f5529e8732534292c24abf90f"), looks := true }, kinds := [], alts := [], laidByText := true, laidKinds := [.data, .data, .data, .data, .sentinel, .sentinel, .data, .widerDeep, .widerDeep, .pinned], laidTests := true, laidLooks := .later }
def CheckNilUptoCardSaid : Prop := Claim7.holds Tryz.pinned (.plain (OpenSpec.upto checkNilSpec)) checkNilUptoCard
end Rows
end Go.Proofs.YtagddjcjapgdaaaGreatDoor
