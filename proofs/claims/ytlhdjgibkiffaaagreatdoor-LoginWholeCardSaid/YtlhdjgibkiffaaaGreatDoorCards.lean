/-
  DERIVED. GIVEN WITH THE SEED: THE CARDS: each row of YtlhdjgibkiffaaaGreatDoorRows.lean that lists a variable, with what it lists TIED to the program's text (the seventh form; the later family's looks); each row that meets fmt, with fmt's text TOLD by the authors' own Lean function (tested against real Go, not proved from fmt's source: count such statements apart). THE CARD IS WHAT COUNTS. Prove the row's statement (the work); the ties are given (YtlhdjgibkiffaaaGreatDoorTie.lean); close each card by the builder's one call (the guide's Derived/Test/ToyasCard.lean, 'card_holds'). Laid BY PROGRAM, IN A SANDBOX (cutbox-door.mjs). By AI agents, Wed Nov 11 2026. No macro, syntax, notation, axiom, sorry.
-/
import Derived.Test.YtlhdjgibkiffaaaGreatDoorRows
import GoSem.ClaimSeven
namespace Go.Proofs.YtlhdjgibkiffaaaGreatDoor
namespace Rows

/-- THE TIED CARD OF 'polderlaw20.LoginEnds'. -/
def loginEndsCard : Claim7 := { stood := { row := loginEndsRow, standIns := [], harness := (true, "709464891132045fe2521e851efc6049fe8b973fa8f217b1c0e4d1b50c801b69"), looks := true }, kinds := [], alts := [], laidByText := true, laidKinds := [.data, .data, .data, .data, .sentinel, .sentinel, .sentinel, .pinned], laidTests := true, laidLooks := .later }
def LoginEndsCardSaid : Prop := Claim7.holds Tryz.pinned (.plain (OpenSpec.ofChange loginEndsSpec)) loginEndsCard

/-- THE TIED CARD OF 'polderlaw20.LoginWhole'. -/
def loginWholeCard : Claim7 := { stood := { row := loginWholeRow, standIns := [], harness := (true, "709464891132045fe2521e851efc6049fe8b973fa8f217b1c0e4d1b50c801b69"), looks := true }, kinds := [], alts := [], laidByText := true, laidKinds := [.data, .data, .data, .data, .sentinel, .sentinel, .sentinel, .pinned], laidTests := true, laidLooks := .later }
def LoginWholeCardSaid : Prop := Claim7.holds Tryz.pinned (.plain (OpenSpec.ofChange loginWholeSpec)) loginWholeCard

/-- THE TIED CARD OF 'polderlaw20.LoginName'. -/
def loginNameCard : Claim7 := { stood := { row := loginNameRow, standIns := [], harness := (true, "709464891132045fe2521e851efc6049fe8b973fa8f217b1c0e4d1b50c801b69"), looks := true }, kinds := [], alts := [], laidByText := true, laidKinds := [.data, .data, .data, .data, .sentinel, .sentinel, .sentinel, .pinned], laidTests := true, laidLooks := .later }
def LoginNameCardSaid : Prop := Claim7.holds Tryz.pinned (.plain (OpenSpec.ofChange loginNameSpec)) loginNameCard

/-- THE SECOND FORM's CARD OF 'polderlaw20.LoginEnds'. -/
def loginEndsUptoCard : Claim7 := { stood := { row := loginEndsUptoRow, standIns := [], harness := (true, "709464891132045fe2521e851efc6049fe8b973fa8f217b1c0e4d1b50c801b69"), looks := true }, kinds := [], alts := [], laidByText := true, laidKinds := [.data, .data, .data, .data, .sentinel, .sentinel, .sentinel, .pinned], laidTests := true, laidLooks := .later }
def LoginEndsUptoCardSaid : Prop := Claim7.holds Tryz.pinned (.plain (OpenSpec.upto loginEndsSpec)) loginEndsUptoCard

/-- THE SECOND FORM's CARD OF 'polderlaw20.LoginWhole'. -/
def loginWholeUptoCard : Claim7 := { stood := { row := loginWholeUptoRow, standIns := [], harness := (true, "709464891132045fe2521e851efc6049fe8b973fa8f217b1c0e4d1b50c801b69"), looks := true }, kinds := [], alts := [], laidByText := true, laidKinds := [.data, .data, .data, .data, .sentinel, .sentinel, .sentinel, .pinned], laidTests := true, laidLooks := .later }
def LoginWholeUptoCardSaid : Prop := Claim7.holds Tryz.pinned (.plain (OpenSpec.upto loginWholeSpec)) loginWholeUptoCard

/-- THE SECOND FORM's CARD OF 'polderlaw20.LoginName'. -/
def loginNameUptoCard : Claim7 := { stood := { row := loginNameUptoRow, standIns := [], harness := (true, "709464891132045fe2521e851efc6049fe8b973fa8f217b1c0e4d1b50c801b69"), looks := true }, kinds := [], alts := [], laidByText := true, laidKinds := [.data, .data, .data, .data, .sentinel, .sentinel, .sentinel, .pinned], laidTests := true, laidLooks := .later }
def LoginNameUptoCardSaid : Prop := Claim7.holds Tryz.pinned (.plain (OpenSpec.upto loginNameSpec)) loginNameUptoCard
end Rows
end Go.Proofs.YtlhdjgibkiffaaaGreatDoor
