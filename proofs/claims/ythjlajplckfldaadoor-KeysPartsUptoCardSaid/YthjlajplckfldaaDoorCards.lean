/-
  DERIVED. GIVEN WITH THE SEED: THE CARDS: each row of YthjlajplckfldaaDoorRows.lean that lists a variable, with what it lists TIED to the program's text (the seventh form; the later family's looks); each row that meets fmt, with fmt's text TOLD by the authors' own Lean function (tested against real Go, not proved from fmt's source: count such statements apart). THE CARD IS WHAT COUNTS. Prove the row's statement (the work); the ties are given (YthjlajplckfldaaDoorTie.lean); close each card by the builder's one call (the guide's Derived/Test/ToyasCard.lean, 'card_holds'). Laid BY PROGRAM, IN A SANDBOX (cutbox-door.mjs). By AI agents, Wed Nov 11 2026. No macro, syntax, notation, axiom, sorry.
-/
import Derived.Test.YthjlajplckfldaaDoorRows
import GoSem.ClaimSeven
namespace Go.Proofs.YthjlajplckfldaaDoor
namespace Rows

/-- THE TIED CARD OF 'polderlaw19.KeysParts'. -/
def keysPartsCard : Claim7 := { stood := { row := keysPartsRow, standIns := [], harness := (true, "403589c24a538742a9c2c4db2c446aebd908119bc12309083ef028a0188434c2"), looks := true }, kinds := [], alts := [], laidByText := true, laidKinds := [.data, .data, .data, .data, .sentinel, .sentinel, .sentinel, .pinned], laidTests := true, laidLooks := .later }
def KeysPartsCardSaid : Prop := Claim7.holds Tryd.pinned (.plain (OpenSpec.ofChange keysPartsSpec)) keysPartsCard

/-- THE TIED CARD OF 'polderlaw19.KeysTurned'. -/
def keysTurnedCard : Claim7 := { stood := { row := keysTurnedRow, standIns := [], harness := (true, "403589c24a538742a9c2c4db2c446aebd908119bc12309083ef028a0188434c2"), looks := true }, kinds := [], alts := [], laidByText := true, laidKinds := [.data, .data, .data, .data, .sentinel, .sentinel, .sentinel, .pinned], laidTests := true, laidLooks := .later }
def KeysTurnedCardSaid : Prop := Claim7.holds Tryd.pinned (.plain (OpenSpec.ofChange keysTurnedSpec)) keysTurnedCard

/-- THE SECOND FORM's CARD OF 'polderlaw19.KeysParts'. -/
def keysPartsUptoCard : Claim7 := { stood := { row := keysPartsUptoRow, standIns := [], harness := (true, "403589c24a538742a9c2c4db2c446aebd908119bc12309083ef028a0188434c2"), looks := true }, kinds := [], alts := [], laidByText := true, laidKinds := [.data, .data, .data, .data, .sentinel, .sentinel, .sentinel, .pinned], laidTests := true, laidLooks := .later }
def KeysPartsUptoCardSaid : Prop := Claim7.holds Tryd.pinned (.plain (OpenSpec.upto keysPartsSpec)) keysPartsUptoCard

/-- THE SECOND FORM's CARD OF 'polderlaw19.KeysTurned'. -/
def keysTurnedUptoCard : Claim7 := { stood := { row := keysTurnedUptoRow, standIns := [], harness := (true, "403589c24a538742a9c2c4db2c446aebd908119bc12309083ef028a0188434c2"), looks := true }, kinds := [], alts := [], laidByText := true, laidKinds := [.data, .data, .data, .data, .sentinel, .sentinel, .sentinel, .pinned], laidTests := true, laidLooks := .later }
def KeysTurnedUptoCardSaid : Prop := Claim7.holds Tryd.pinned (.plain (OpenSpec.upto keysTurnedSpec)) keysTurnedUptoCard
end Rows
end Go.Proofs.YthjlajplckfldaaDoor
