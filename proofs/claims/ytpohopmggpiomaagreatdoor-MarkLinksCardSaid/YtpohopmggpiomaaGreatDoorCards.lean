/-
  DERIVED. GIVEN WITH THE SEED: THE CARDS: each row of YtpohopmggpiomaaGreatDoorRows.lean that lists a variable, with what it lists TIED to the program's text (the seventh form; the later family's looks); each row that meets fmt, with fmt's text TOLD by the authors' own Lean function (tested against real Go, not proved from fmt's source: count such statements apart). THE CARD IS WHAT COUNTS. Prove the row's statement (the work); the ties are given (YtpohopmggpiomaaGreatDoorTie.lean); close each card by the builder's one call (the guide's Derived/Test/ToyasCard.lean, 'card_holds'). Laid BY PROGRAM, IN A SANDBOX (cutbox-door.mjs). By AI agents, Wed Nov 11 2026. No macro, syntax, notation, axiom, sorry.
-/
import Derived.Test.YtpohopmggpiomaaGreatDoorRows
import GoSem.ClaimSeven
namespace Go.Proofs.YtpohopmggpiomaaGreatDoor
namespace Rows

/-- THE TIED CARD OF 'redpenlaw12.MarkLinks'. -/
def markLinksCard : Claim7 := { stood := { row := markLinksRow, standIns := [], harness := (true, "efed67a4edc12f2e882095d17957ffc1e565e87cf2a1f214656a86caf0bbf08f"), looks := false }, kinds := [], alts := [], laidByText := true, laidKinds := [.data, .pinned], laidTests := true, laidLooks := .later }
def MarkLinksCardSaid : Prop := Claim7.holds Tryz.pinned (.plain (OpenSpec.ofChange markLinksSpec)) markLinksCard

/-- THE SECOND FORM's CARD OF 'redpenlaw12.MarkLinks'. -/
def markLinksUptoCard : Claim7 := { stood := { row := markLinksUptoRow, standIns := [], harness := (true, "efed67a4edc12f2e882095d17957ffc1e565e87cf2a1f214656a86caf0bbf08f"), looks := false }, kinds := [], alts := [], laidByText := true, laidKinds := [.data, .pinned], laidTests := true, laidLooks := .later }
def MarkLinksUptoCardSaid : Prop := Claim7.holds Tryz.pinned (.plain (OpenSpec.upto markLinksSpec)) markLinksUptoCard
end Rows
end Go.Proofs.YtpohopmggpiomaaGreatDoor
