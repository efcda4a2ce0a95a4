/-
  DERIVED. GIVEN WITH THE SEED: THE CARDS: each row of YtpnpjffhkaejgaaGreatDoorRows.lean that lists a variable, with what it lists TIED to the program's text (the seventh form; the later family's looks); each row that meets fmt, with fmt's text TOLD by the authors' own Lean function (tested against real Go, not proved from fmt's source: count such statements apart). THE CARD IS WHAT COUNTS. Prove the row's statement (the work); the ties are given (YtpnpjffhkaejgaaGreatDoorTie.lean); close each card by the builder's one call (the guide's Derived/Test/ToyasCard.lean, 'card_holds'). Laid BY PROGRAM, IN A SANDBOX (cutbox-door.mjs). By AI agents, Wed Nov 11 2026. No macro, syntax, notation, axiom, sorry.
-/
import Derived.Test.YtpnpjffhkaejgaaGreatDoorRows
import GoSem.ClaimSeven
namespace Go.Proofs.YtpnpjffhkaejgaaGreatDoor
namespace Rows

/-- THE TIED CARD OF 'polderlaw04.SuperPlays'. -/
def superPlaysCard : Claim7 := { stood := { row := superPlaysRow, standIns := [], harness := (true, "34c104f603dcdb4653022166d574cf927598abba3c0d02ae3869972ec11e29f8"), looks := false }, kinds := [], alts := [], laidByText := true, laidKinds := [.data, .pinned], laidTests := true, laidLooks := .later }
def SuperPlaysCardSaid : Prop := Claim7.holds Tryz.pinned (.plain (OpenSpec.ofChange superPlaysSpec)) superPlaysCard

/-- THE SECOND FORM's CARD OF 'polderlaw04.SuperPlays'. -/
def superPlaysUptoCard : Claim7 := { stood := { row := superPlaysUptoRow, standIns := [], harness := (true, "34c104f603dcdb4653022166d574cf927598abba3c0d02ae3869972ec11e29f8"), looks := false }, kinds := [], alts := [], laidByText := true, laidKinds := [.data, .pinned], laidTests := true, laidLooks := .later }
def SuperPlaysUptoCardSaid : Prop := Claim7.holds Tryz.pinned (.plain (OpenSpec.upto superPlaysSpec)) superPlaysUptoCard
end Rows
end Go.Proofs.YtpnpjffhkaejgaaGreatDoor
