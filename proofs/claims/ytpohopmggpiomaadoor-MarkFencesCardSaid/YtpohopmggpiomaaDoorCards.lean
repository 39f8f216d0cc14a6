/-
  DERIVED. GIVEN WITH THE SEED: THE CARDS: each row of YtpohopmggpiomaaDoorRows.lean that lists a variable, with what it lists TIED to the program's text (the seventh form; the later family's looks); each row that meets fmt, with fmt's text TOLD by the authors' own Lean function (tested against real Go, not proved from fmt's source: count such statements apart). THE CARD IS WHAT COUNTS. Prove the row's statement (the work); the ties are given (YtpohopmggpiomaaDoorTie.lean); close each card by the builder's one call (the guide's Derived/Test/ToyasCard.lean, 'card_holds'). Laid BY PROGRAM, IN A SANDBOX (cutbox-door.mjs). By AI agents, Wed Nov 11 2026. No macro, syntax, notation, axiom, sorry.
-/
import Derived.Test.YtpohopmggpiomaaDoorRows
import GoSem.ClaimSeven
namespace Go.Proofs.YtpohopmggpiomaaDoor
namespace Rows

/-- THE TIED CARD OF 'redpenlaw12.MarkPlain'. -/
def markPlainCard : Claim7 := { stood := { row := markPlainRow, standIns := [], harness := (true, "0ecf5d51e3b0ea1cc4699741a932a61abfda57ff6d43a1a6badee817b0c8dd32"), looks := false }, kinds := [], alts := [], laidByText := true, laidKinds := [.data, .pinned], laidTests := true, laidLooks := .later }
def MarkPlainCardSaid : Prop := Claim7.holds Tryd.pinned (.plain (OpenSpec.ofChange markPlainSpec)) markPlainCard

/-- THE TIED CARD OF 'redpenlaw12.MarkFences'. -/
def markFencesCard : Claim7 := { stood := { row := markFencesRow, standIns := [], harness := (true, "0ecf5d51e3b0ea1cc4699741a932a61abfda57ff6d43a1a6badee817b0c8dd32"), looks := false }, kinds := [], alts := [], laidByText := true, laidKinds := [.data, .pinned], laidTests := true, laidLooks := .later }
def MarkFencesCardSaid : Prop := Claim7.holds Tryd.pinned (.plain (OpenSpec.ofChange markFencesSpec)) markFencesCard

/-- THE TIED CARD OF 'redpenlaw12.MarkSpans'. -/
def markSpansCard : Claim7 := { stood := { row := markSpansRow, standIns := [], harness := (true, "0ecf5d51e3b0ea1cc4699741a932a61abfda57ff6d43a1a6badee817b0c8dd32"), looks := false }, kinds := [], alts := [], laidByText := true, laidKinds := [.data, .pinned], laidTests := true, laidLooks := .later }
def MarkSpansCardSaid : Prop := Claim7.holds Tryd.pinned (.plain (OpenSpec.ofChange markSpansSpec)) markSpansCard

/-- THE TIED CARD OF 'redpenlaw12.MarkFront'. -/
def markFrontCard : Claim7 := { stood := { row := markFrontRow, standIns := [], harness := (true, "0ecf5d51e3b0ea1cc4699741a932a61abfda57ff6d43a1a6badee817b0c8dd32"), looks := false }, kinds := [], alts := [], laidByText := true, laidKinds := [.data, .pinned], laidTests := true, laidLooks := .later }
def MarkFrontCardSaid : Prop := Claim7.holds Tryd.pinned (.plain (OpenSpec.ofChange markFrontSpec)) markFrontCard

/-- THE SECOND FORM's CARD OF 'redpenlaw12.MarkPlain'. -/
def markPlainUptoCard : Claim7 := { stood := { row := markPlainUptoRow, standIns := [], harness := (true, "0ecf5d51e3b0ea1cc4699741a932a61abfda57ff6d43a1a6badee817b0c8dd32"), looks := false }, kinds := [], alts := [], laidByText := true, laidKinds := [.data, .pinned], laidTests := true, laidLooks := .later }
def MarkPlainUptoCardSaid : Prop := Claim7.holds Tryd.pinned (.plain (OpenSpec.upto markPlainSpec)) markPlainUptoCard

/-- THE SECOND FORM's CARD OF 'redpenlaw12.MarkFences'. -/
def markFencesUptoCard : Claim7 := { stood := { row := markFencesUptoRow, standIns := [], harness := (true, "0ecf5d51e3b0ea1cc4699741a932a61abfda57ff6d43a1a6badee817b0c8dd32"), looks := false }, kinds := [], alts := [], laidByText := true, laidKinds := [.data, .pinned], laidTests := true, laidLooks := .later }
def MarkFencesUptoCardSaid : Prop := Claim7.holds Tryd.pinned (.plain (OpenSpec.upto markFencesSpec)) markFencesUptoCard

/-- THE SECOND FORM's CARD OF 'redpenlaw12.MarkSpans'. -/
def markSpansUptoCard : Claim7 := { stood := { row := markSpansUptoRow, standIns := [], harness := (true, "0ecf5d51e3b0ea1cc4699741a932a61abfda57ff6d43a1a6badee817b0c8dd32"), looks := false }, kinds := [], alts := [], laidByText := true, laidKinds := [.data, .pinned], laidTests := true, laidLooks := .later }
def MarkSpansUptoCardSaid : Prop := Claim7.holds Tryd.pinned (.plain (OpenSpec.upto markSpansSpec)) markSpansUptoCard

/-- THE SECOND FORM's CARD OF 'redpenlaw12.MarkFront'. -/
def markFrontUptoCard : Claim7 := { stood := { row := markFrontUptoRow, standIns := [], harness := (true, "0ecf5d51e3b0ea1cc4699741a932a61abfda57ff6d43a1a6badee817b0c8dd32"), looks := false }, kinds := [], alts := [], laidByText := true, laidKinds := [.data, .pinned], laidTests := true, laidLooks := .later }
def MarkFrontUptoCardSaid : Prop := Claim7.holds Tryd.pinned (.plain (OpenSpec.upto markFrontSpec)) markFrontUptoCard
end Rows
end Go.Proofs.YtpohopmggpiomaaDoor
