/-
  DERIVED. GIVEN WITH THE SEED: THE CARDS: each row of YtkahpkmofeglgaaDoorRows.lean that lists a variable, with what it lists TIED to the program's text (the seventh form; the later family's looks); each row that meets fmt, with fmt's text TOLD by the authors' own Lean function (tested against real Go, not proved from fmt's source: count such statements apart). THE CARD IS WHAT COUNTS. Prove the row's statement (the work); the ties are given (YtkahpkmofeglgaaDoorTie.lean); close each card by the builder's one call (the guide's Derived/Test/ToyasCard.lean, 'card_holds'). Laid BY PROGRAM, IN A SANDBOX (cutbox-door.mjs). By AI agents, Wed Nov 11 2026. No macro, syntax, notation, axiom, sorry.
-/
import Derived.Test.YtkahpkmofeglgaaDoorRows
import GoSem.ClaimSeven
namespace Go.Proofs.YtkahpkmofeglgaaDoor
namespace Rows

/-- THE TIED CARD OF 'polderlaw02.CodecSuper'. -/
def codecSuperCard : Claim7 := { stood := { row := codecSuperRow, standIns := [], harness := (true, "b8207c528b2ec28889894f76ce431318b775d011398fc6d9e513b19dd6668509"), looks := false }, kinds := [], alts := [], laidByText := true, laidKinds := [.data, .pinned], laidTests := true, laidLooks := .later }
def CodecSuperCardSaid : Prop := Claim7.holds Tryd.pinned (.plain (OpenSpec.ofChange codecSuperSpec)) codecSuperCard

/-- THE TIED CARD OF 'polderlaw02.CodecImage'. -/
def codecImageCard : Claim7 := { stood := { row := codecImageRow, standIns := [], harness := (true, "b8207c528b2ec28889894f76ce431318b775d011398fc6d9e513b19dd6668509"), looks := false }, kinds := [], alts := [], laidByText := true, laidKinds := [.data, .pinned], laidTests := true, laidLooks := .later }
def CodecImageCardSaid : Prop := Claim7.holds Tryd.pinned (.plain (OpenSpec.ofChange codecImageSpec)) codecImageCard

/-- THE TIED CARD OF 'polderlaw02.CodecCounts'. -/
def codecCountsCard : Claim7 := { stood := { row := codecCountsRow, standIns := [], harness := (true, "b8207c528b2ec28889894f76ce431318b775d011398fc6d9e513b19dd6668509"), looks := false }, kinds := [], alts := [], laidByText := true, laidKinds := [.data, .pinned], laidTests := true, laidLooks := .later }
def CodecCountsCardSaid : Prop := Claim7.holds Tryd.pinned (.plain (OpenSpec.ofChange codecCountsSpec)) codecCountsCard

/-- THE TIED CARD OF 'polderlaw02.CodecPage'. -/
def codecPageCard : Claim7 := { stood := { row := codecPageRow, standIns := [], harness := (true, "b8207c528b2ec28889894f76ce431318b775d011398fc6d9e513b19dd6668509"), looks := false }, kinds := [], alts := [], laidByText := true, laidKinds := [.data, .pinned], laidTests := true, laidLooks := .later }
def CodecPageCardSaid : Prop := Claim7.holds Tryd.pinned (.plain (OpenSpec.ofChange codecPageSpec)) codecPageCard

/-- THE TIED CARD OF 'polderlaw02.CodecHead'. -/
def codecHeadCard : Claim7 := { stood := { row := codecHeadRow, standIns := [], harness := (true, "b8207c528b2ec28889894f76ce431318b775d011398fc6d9e513b19dd6668509"), looks := false }, kinds := [], alts := [], laidByText := true, laidKinds := [.data, .pinned], laidTests := true, laidLooks := .later }
def CodecHeadCardSaid : Prop := Claim7.holds Tryd.pinned (.plain (OpenSpec.ofChange codecHeadSpec)) codecHeadCard

/-- THE TIED CARD OF 'polderlaw02.CodecNode'. -/
def codecNodeCard : Claim7 := { stood := { row := codecNodeRow, standIns := [], harness := (true, "b8207c528b2ec28889894f76ce431318b775d011398fc6d9e513b19dd6668509"), looks := false }, kinds := [], alts := [], laidByText := true, laidKinds := [.data, .pinned], laidTests := true, laidLooks := .later }
def CodecNodeCardSaid : Prop := Claim7.holds Tryd.pinned (.plain (OpenSpec.ofChange codecNodeSpec)) codecNodeCard

/-- THE TIED CARD OF 'polderlaw02.CodecApart'. -/
def codecApartCard : Claim7 := { stood := { row := codecApartRow, standIns := [], harness := (true, "b8207c528b2ec28889894f76ce431318b775d011398fc6d9e513b19dd6668509"), looks := false }, kinds := [], alts := [], laidByText := true, laidKinds := [.data, .pinned], laidTests := true, laidLooks := .later }
def CodecApartCardSaid : Prop := Claim7.holds Tryd.pinned (.plain (OpenSpec.ofChange codecApartSpec)) codecApartCard

/-- THE TIED CARD OF 'polderlaw02.CodecCatalogue'. -/
def codecCatalogueCard : Claim7 := { stood := { row := codecCatalogueRow, standIns := [], harness := (true, "b8207c528b2ec28889894f76ce431318b775d011398fc6d9e513b19dd6668509"), looks := false }, kinds := [], alts := [], laidByText := true, laidKinds := [.data, .pinned], laidTests := true, laidLooks := .later }
def CodecCatalogueCardSaid : Prop := Claim7.holds Tryd.pinned (.plain (OpenSpec.ofChange codecCatalogueSpec)) codecCatalogueCard

/-- THE TIED CARD OF 'polderlaw02.CodecErrors'. -/
def codecErrorsCard : Claim7 := { stood := { row := codecErrorsRow, standIns := [], harness := (true, "b8207c528b2ec28889894f76ce431318b775d011398fc6d9e513b19dd6668509"), looks := false }, kinds := [], alts := [], laidByText := true, laidKinds := [.data, .pinned], laidTests := true, laidLooks := .later }
def CodecErrorsCardSaid : Prop := Claim7.holds Tryd.pinned (.plain (OpenSpec.ofChange codecErrorsSpec)) codecErrorsCard

/-- THE TIED CARD OF 'polderlaw02.CodecOwn'. -/
def codecOwnCard : Claim7 := { stood := { row := codecOwnRow, standIns := [], harness := (true, "b8207c528b2ec28889894f76ce431318b775d011398fc6d9e513b19dd6668509"), looks := false }, kinds := [], alts := [], laidByText := true, laidKinds := [.data, .pinned], laidTests := true, laidLooks := .later }
def CodecOwnCardSaid : Prop := Claim7.holds Tryd.pinned (.plain (OpenSpec.ofChange codecOwnSpec)) codecOwnCard

/-- THE TIED CARD OF 'polderlaw02.CodecReads'. -/
def codecReadsCard : Claim7 := { stood := { row := codecReadsRow, standIns := [], harness := (true, "b8207c528b2ec28889894f76ce431318b775d011398fc6d9e513b19dd6668509"), looks := false }, kinds := [], alts := [], laidByText := true, laidKinds := [.data, .pinned], laidTests := true, laidLooks := .later }
def CodecReadsCardSaid : Prop := Claim7.holds Tryd.pinned (.plain (OpenSpec.ofChange codecReadsSpec)) codecReadsCard

/-- THE SECOND FORM's CARD OF 'polderlaw02.CodecSuper'. -/
def codecSuperUptoCard : Claim7 := { stood := { row := codecSuperUptoRow, standIns := [], harness := (true, "b8207c528b2ec28889894f76ce431318b775d011398fc6d9e513b19dd6668509"), looks := false }, kinds := [], alts := [], laidByText := true, laidKinds := [.data, .pinned], laidTests := true, laidLooks := .later }
def CodecSuperUptoCardSaid : Prop := Claim7.holds Tryd.pinned (.plain (OpenSpec.upto codecSuperSpec)) codecSuperUptoCard

/-- THE SECOND FORM's CARD OF 'polderlaw02.CodecImage'. -/
def codecImageUptoCard : Claim7 := { stood := { row := codecImageUptoRow, standIns := [], harness := (true, "b8207c528b2ec28889894f76ce431318b775d011398fc6d9e513b19dd6668509"), looks := false }, kinds := [], alts := [], laidByText := true, laidKinds := [.data, .pinned], laidTests := true, laidLooks := .later }
def CodecImageUptoCardSaid : Prop := Claim7.holds Tryd.pinned (.plain (OpenSpec.upto codecImageSpec)) codecImageUptoCard

/-- THE SECOND FORM's CARD OF 'polderlaw02.CodecCounts'. -/
def codecCountsUptoCard : Claim7 := { stood := { row := codecCountsUptoRow, standIns := [], harness := (true, "b8207c528b2ec28889894f76ce431318b775d011398fc6d9e513b19dd6668509"), looks := false }, kinds := [], alts := [], laidByText := true, laidKinds := [.data, .pinned], laidTests := true, laidLooks := .later }
def CodecCountsUptoCardSaid : Prop := Claim7.holds Tryd.pinned (.plain (OpenSpec.upto codecCountsSpec)) codecCountsUptoCard

/-- THE SECOND FORM's CARD OF 'polderlaw02.CodecPage'. -/
def codecPageUptoCard : Claim7 := { stood := { row := codecPageUptoRow, standIns := [], harness := (true, "b8207c528b2ec28889894f76ce431318b775d011398fc6d9e513b19dd6668509"), looks := false }, kinds := [], alts := [], laidByText := true, laidKinds := [.data, .pinned], laidTests := true, laidLooks := .later }
def CodecPageUptoCardSaid : Prop := Claim7.holds Tryd.pinned (.plain (OpenSpec.upto codecPageSpec)) codecPageUptoCard

/-- THE SECOND FORM's CARD OF 'polderlaw02.CodecHead'. -/
def codecHeadUptoCard : Claim7 := { stood := { row := codecHeadUptoRow, standIns := [], harness := (true, "b8207c528b2ec28889894f76ce431318b775d011398fc6d9e513b19dd6668509"), looks := false }, kinds := [], alts := [], laidByText := true, laidKinds := [.data, .pinned], laidTests := true, laidLooks := .later }
def CodecHeadUptoCardSaid : Prop := Claim7.holds Tryd.pinned (.plain (OpenSpec.upto codecHeadSpec)) codecHeadUptoCard

/-- THE SECOND FORM's CARD OF 'polderlaw02.CodecNode'. -/
def codecNodeUptoCard : Claim7 := { stood := { row := codecNodeUptoRow, standIns := [], harness := (true, "b8207c528b2ec28889894f76ce431318b775d011398fc6d9e513b19dd6668509"), looks := false }, kinds := [], alts := [], laidByText := true, laidKinds := [.data, .pinned], laidTests := true, laidLooks := .later }
def CodecNodeUptoCardSaid : Prop := Claim7.holds Tryd.pinned (.plain (OpenSpec.upto codecNodeSpec)) codecNodeUptoCard

/-- THE SECOND FORM's CARD OF 'polderlaw02.CodecApart'. -/
def codecApartUptoCard : Claim7 := { stood := { row := codecApartUptoRow, standIns := [], harness := (true, "b8207c528b2ec28889894f76ce431318b775d011398fc6d9e513b19dd6668509"), looks := false }, kinds := [], alts := [], laidByText := true, laidKinds := [.data, .pinned], laidTests := true, laidLooks := .later }
def CodecApartUptoCardSaid : Prop := Claim7.holds Tryd.pinned (.plain (OpenSpec.upto codecApartSpec)) codecApartUptoCard

/-- THE SECOND FORM's CARD OF 'polderlaw02.CodecCatalogue'. -/
def codecCatalogueUptoCard : Claim7 := { stood := { row := codecCatalogueUptoRow, standIns := [], harness := (true, "b8207c528b2ec28889894f76ce431318b775d011398fc6d9e513b19dd6668509"), looks := false }, kinds := [], alts := [], laidByText := true, laidKinds := [.data, .pinned], laidTests := true, laidLooks := .later }
def CodecCatalogueUptoCardSaid : Prop := Claim7.holds Tryd.pinned (.plain (OpenSpec.upto codecCatalogueSpec)) codecCatalogueUptoCard

/-- THE SECOND FORM's CARD OF 'polderlaw02.CodecErrors'. -/
def codecErrorsUptoCard : Claim7 := { stood := { row := codecErrorsUptoRow, standIns := [], harness := (true, "b8207c528b2ec28889894f76ce431318b775d011398fc6d9e513b19dd6668509"), looks := false }, kinds := [], alts := [], laidByText := true, laidKinds := [.data, .pinned], laidTests := true, laidLooks := .later }
def CodecErrorsUptoCardSaid : Prop := Claim7.holds Tryd.pinned (.plain (OpenSpec.upto codecErrorsSpec)) codecErrorsUptoCard

/-- THE SECOND FORM's CARD OF 'polderlaw02.CodecOwn'. -/
def codecOwnUptoCard : Claim7 := { stood := { row := codecOwnUptoRow, standIns := [], harness := (true, "b8207c528b2ec28889894f76ce431318b775d011398fc6d9e513b19dd6668509"), looks := false }, kinds := [], alts := [], laidByText := true, laidKinds := [.data, .pinned], laidTests := true, laidLooks := .later }
def CodecOwnUptoCardSaid : Prop := Claim7.holds Tryd.pinned (.plain (OpenSpec.upto codecOwnSpec)) codecOwnUptoCard

/-- THE SECOND FORM's CARD OF 'polderlaw02.CodecReads'. -/
def codecReadsUptoCard : Claim7 := { stood := { row := codecReadsUptoRow, standIns := [], harness := (true, "b8207c528b2ec28889894f76ce431318b775d011398fc6d9e513b19dd6668509"), looks := false }, kinds := [], alts := [], laidByText := true, laidKinds := [.data, .pinned], laidTests := true, laidLooks := .later }
def CodecReadsUptoCardSaid : Prop := Claim7.holds Tryd.pinned (.plain (OpenSpec.upto codecReadsSpec)) codecReadsUptoCard
end Rows
end Go.Proofs.YtkahpkmofeglgaaDoor
