/-
  DERIVED. GIVEN WITH THE SEED: THE CARDS: each row of YthjlajplckfldaaGreatDoorRows.lean that lists a variable, with what it lists TIED to the program's text (the seventh form; the later family's looks); each row that meets fmt, with fmt's text TOLD by the authors' own Lean function (tested against real Go, not proved from fmt's source: count such statements apart). THE CARD IS WHAT COUNTS. Prove the row's statement (the work); the ties are given (YthjlajplckfldaaGreatDoorTie.lean); close each card by the builder's one call (the guide's Derived/Test/ToyasCard.lean, 'card_holds'). Laid BY PROGRAM, IN A SANDBOX (cutbox-door.mjs). By AI agents, Wed Nov 11 2026. No macro, syntax, notation, axiom, sorry.
-/
import Derived.Test.YthjlajplckfldaaGreatDoorRows
import GoSem.ClaimSeven
namespace Go.Proofs.YthjlajplckfldaaGreatDoor
namespace Rows

/-- THE TIED CARD OF 'polderlaw19.KeysWrites'. -/
def keysWritesCard : Claim7 := { stood := { row := keysWritesRow, standIns := [], harness := (true, "2fd9c63cf8c46e6b2ee3b2eab64513c068c1ab40a2ab2931b5204884f4d90fb2"), looks := true }, kinds := [], alts := [], laidByText := true, laidKinds := [.data, .data, .data, .data, .sentinel, .sentinel, .sentinel, .pinned], laidTests := true, laidLooks := .later }
def KeysWritesCardSaid : Prop := Claim7.holds Tryz.pinned (.plain (OpenSpec.ofChange keysWritesSpec)) keysWritesCard

/-- THE TIED CARD OF 'polderlaw19.KeysReads'. -/
def keysReadsCard : Claim7 := { stood := { row := keysReadsRow, standIns := [], harness := (true, "2fd9c63cf8c46e6b2ee3b2eab64513c068c1ab40a2ab2931b5204884f4d90fb2"), looks := true }, kinds := [], alts := [], laidByText := true, laidKinds := [.data, .data, .data, .data, .sentinel, .sentinel, .sentinel, .pinned], laidTests := true, laidLooks := .later }
def KeysReadsCardSaid : Prop := Claim7.holds Tryz.pinned (.plain (OpenSpec.ofChange keysReadsSpec)) keysReadsCard

/-- THE TIED CARD OF 'polderlaw19.KeysFinds'. -/
def keysFindsCard : Claim7 := { stood := { row := keysFindsRow, standIns := [], harness := (true, "2fd9c63cf8c46e6b2ee3b2eab64513c068c1ab40a2ab2931b5204884f4d90fb2"), looks := true }, kinds := [], alts := [], laidByText := true, laidKinds := [.data, .data, .data, .data, .sentinel, .sentinel, .sentinel, .pinned], laidTests := true, laidLooks := .later }
def KeysFindsCardSaid : Prop := Claim7.holds Tryz.pinned (.plain (OpenSpec.ofChange keysFindsSpec)) keysFindsCard

/-- THE SECOND FORM's CARD OF 'polderlaw19.KeysWrites'. -/
def keysWritesUptoCard : Claim7 := { stood := { row := keysWritesUptoRow, standIns := [], harness := (true, "2fd9c63cf8c46e6b2ee3b2eab64513c068c1ab40a2ab2931b5204884f4d90fb2"), looks := true }, kinds := [], alts := [], laidByText := true, laidKinds := [.data, .data, .data, .data, .sentinel, .sentinel, .sentinel, .pinned], laidTests := true, laidLooks := .later }
def KeysWritesUptoCardSaid : Prop := Claim7.holds Tryz.pinned (.plain (OpenSpec.upto keysWritesSpec)) keysWritesUptoCard

/-- THE SECOND FORM's CARD OF 'polderlaw19.KeysReads'. -/
def keysReadsUptoCard : Claim7 := { stood := { row := keysReadsUptoRow, standIns := [], harness := (true, "2fd9c63cf8c46e6b2ee3b2eab64513c068c1ab40a2ab2931b5204884f4d90fb2"), looks := true }, kinds := [], alts := [], laidByText := true, laidKinds := [.data, .data, .data, .data, .sentinel, .sentinel, .sentinel, .pinned], laidTests := true, laidLooks := .later }
def KeysReadsUptoCardSaid : Prop := Claim7.holds Tryz.pinned (.plain (OpenSpec.upto keysReadsSpec)) keysReadsUptoCard

/-- THE SECOND FORM's CARD OF 'polderlaw19.KeysFinds'. -/
def keysFindsUptoCard : Claim7 := { stood := { row := keysFindsUptoRow, standIns := [], harness := (true, "2fd9c63cf8c46e6b2ee3b2eab64513c068c1ab40a2ab2931b5204884f4d90fb2"), looks := true }, kinds := [], alts := [], laidByText := true, laidKinds := [.data, .data, .data, .data, .sentinel, .sentinel, .sentinel, .pinned], laidTests := true, laidLooks := .later }
def KeysFindsUptoCardSaid : Prop := Claim7.holds Tryz.pinned (.plain (OpenSpec.upto keysFindsSpec)) keysFindsUptoCard
end Rows
end Go.Proofs.YthjlajplckfldaaGreatDoor
