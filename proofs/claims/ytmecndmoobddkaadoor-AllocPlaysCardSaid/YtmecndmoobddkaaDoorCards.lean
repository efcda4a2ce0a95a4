/-
  DERIVED. GIVEN WITH THE SEED: THE CARDS: each row of YtmecndmoobddkaaDoorRows.lean that lists a variable, with what it lists TIED to the program's text (the seventh form; the later family's looks); each row that meets fmt, with fmt's text TOLD by the authors' own Lean function (tested against real Go, not proved from fmt's source: count such statements apart). THE CARD IS WHAT COUNTS. Prove the row's statement (the work); the ties are given (YtmecndmoobddkaaDoorTie.lean); close each card by the builder's one call (the guide's Derived/Test/ToyasCard.lean, 'card_holds'). Laid BY PROGRAM, IN A SANDBOX (cutbox-door.mjs). By AI agents, Wed Nov 11 2026. No macro, syntax, notation, axiom, sorry.
-/
import Derived.Test.YtmecndmoobddkaaDoorRows
import GoSem.ClaimSeven
namespace Go.Proofs.YtmecndmoobddkaaDoor
namespace Rows

/-- THE TIED CARD OF 'polderlaw08.AllocFill'. -/
def allocFillCard : Claim7 := { stood := { row := allocFillRow, standIns := [], harness := (true, "9f35a43763c4564eead5dc65ba869a3f12babf10653df52ec0743d141f7ba24a"), looks := false }, kinds := [], alts := [], laidByText := true, laidKinds := [.data], laidTests := true, laidLooks := .later }
def AllocFillCardSaid : Prop := Claim7.holds Tryd.pinned (.plain (OpenSpec.ofChange allocFillSpec)) allocFillCard

/-- THE TIED CARD OF 'polderlaw08.AllocPlays'. -/
def allocPlaysCard : Claim7 := { stood := { row := allocPlaysRow, standIns := [], harness := (true, "9f35a43763c4564eead5dc65ba869a3f12babf10653df52ec0743d141f7ba24a"), looks := false }, kinds := [], alts := [], laidByText := true, laidKinds := [.data], laidTests := true, laidLooks := .later }
def AllocPlaysCardSaid : Prop := Claim7.holds Tryd.pinned (.plain (OpenSpec.ofChange allocPlaysSpec)) allocPlaysCard

/-- THE TIED CARD OF 'polderlaw08.AllocRuns'. -/
def allocRunsCard : Claim7 := { stood := { row := allocRunsRow, standIns := [], harness := (true, "9f35a43763c4564eead5dc65ba869a3f12babf10653df52ec0743d141f7ba24a"), looks := false }, kinds := [], alts := [], laidByText := true, laidKinds := [.data], laidTests := true, laidLooks := .later }
def AllocRunsCardSaid : Prop := Claim7.holds Tryd.pinned (.plain (OpenSpec.ofChange allocRunsSpec)) allocRunsCard

/-- THE TIED CARD OF 'polderlaw08.AllocUndo'. -/
def allocUndoCard : Claim7 := { stood := { row := allocUndoRow, standIns := [], harness := (true, "9f35a43763c4564eead5dc65ba869a3f12babf10653df52ec0743d141f7ba24a"), looks := false }, kinds := [], alts := [], laidByText := true, laidKinds := [.data], laidTests := true, laidLooks := .later }
def AllocUndoCardSaid : Prop := Claim7.holds Tryd.pinned (.plain (OpenSpec.ofChange allocUndoSpec)) allocUndoCard

/-- THE SECOND FORM's CARD OF 'polderlaw08.AllocFill'. -/
def allocFillUptoCard : Claim7 := { stood := { row := allocFillUptoRow, standIns := [], harness := (true, "9f35a43763c4564eead5dc65ba869a3f12babf10653df52ec0743d141f7ba24a"), looks := false }, kinds := [], alts := [], laidByText := true, laidKinds := [.data], laidTests := true, laidLooks := .later }
def AllocFillUptoCardSaid : Prop := Claim7.holds Tryd.pinned (.plain (OpenSpec.upto allocFillSpec)) allocFillUptoCard

/-- THE SECOND FORM's CARD OF 'polderlaw08.AllocPlays'. -/
def allocPlaysUptoCard : Claim7 := { stood := { row := allocPlaysUptoRow, standIns := [], harness := (true, "9f35a43763c4564eead5dc65ba869a3f12babf10653df52ec0743d141f7ba24a"), looks := false }, kinds := [], alts := [], laidByText := true, laidKinds := [.data], laidTests := true, laidLooks := .later }
def AllocPlaysUptoCardSaid : Prop := Claim7.holds Tryd.pinned (.plain (OpenSpec.upto allocPlaysSpec)) allocPlaysUptoCard

/-- THE SECOND FORM's CARD OF 'polderlaw08.AllocRuns'. -/
def allocRunsUptoCard : Claim7 := { stood := { row := allocRunsUptoRow, standIns := [], harness := (true, "9f35a43763c4564eead5dc65ba869a3f12babf10653df52ec0743d141f7ba24a"), looks := false }, kinds := [], alts := [], laidByText := true, laidKinds := [.data], laidTests := true, laidLooks := .later }
def AllocRunsUptoCardSaid : Prop := Claim7.holds Tryd.pinned (.plain (OpenSpec.upto allocRunsSpec)) allocRunsUptoCard

/-- THE SECOND FORM's CARD OF 'polderlaw08.AllocUndo'. -/
def allocUndoUptoCard : Claim7 := { stood := { row := allocUndoUptoRow, standIns := [], harness := (true, "9f35a43763c4564eead5dc65ba869a3f12babf10653df52ec0743d141f7ba24a"), looks := false }, kinds := [], alts := [], laidByText := true, laidKinds := [.data], laidTests := true, laidLooks := .later }
def AllocUndoUptoCardSaid : Prop := Claim7.holds Tryd.pinned (.plain (OpenSpec.upto allocUndoSpec)) allocUndoUptoCard
end Rows
end Go.Proofs.YtmecndmoobddkaaDoor
