/-
  DERIVED. GIVEN WITH THE SEED: THE CARDS: each row of YtpnpjffhkaejgaaDoorRows.lean that lists a variable, with what it lists TIED to the program's text (the seventh form; the later family's looks); each row that meets fmt, with fmt's text TOLD by the authors' own Lean function (tested against real Go, not proved from fmt's source: count such statements apart). THE CARD IS WHAT COUNTS. Prove the row's statement (the work); the ties are given (YtpnpjffhkaejgaaDoorTie.lean); close each card by the builder's one call (the guide's Derived/Test/ToyasCard.lean, 'card_holds'). Laid BY PROGRAM, IN A SANDBOX (cutbox-door.mjs). By AI agents, Wed Nov 11 2026. No macro, syntax, notation, axiom, sorry.
-/
import Derived.Test.YtpnpjffhkaejgaaDoorRows
import GoSem.ClaimSeven
namespace Go.Proofs.YtpnpjffhkaejgaaDoor
namespace Rows

/-- THE TIED CARD OF 'polderlaw04.SuperChecks'. -/
def superChecksCard : Claim7 := { stood := { row := superChecksRow, standIns := [], harness := (true, "33309eda6df106688ef2a83b605542922621bfc64ffaaad8b5a378d9be3cbcfa"), looks := false }, kinds := [], alts := [], laidByText := true, laidKinds := [.data, .pinned], laidTests := true, laidLooks := .later }
def SuperChecksCardSaid : Prop := Claim7.holds Tryd.pinned (.plain (OpenSpec.ofChange superChecksSpec)) superChecksCard

/-- THE TIED CARD OF 'polderlaw04.SuperHolds'. -/
def superHoldsCard : Claim7 := { stood := { row := superHoldsRow, standIns := [], harness := (true, "33309eda6df106688ef2a83b605542922621bfc64ffaaad8b5a378d9be3cbcfa"), looks := false }, kinds := [], alts := [], laidByText := true, laidKinds := [.data, .pinned], laidTests := true, laidLooks := .later }
def SuperHoldsCardSaid : Prop := Claim7.holds Tryd.pinned (.plain (OpenSpec.ofChange superHoldsSpec)) superHoldsCard

/-- THE TIED CARD OF 'polderlaw04.SuperFails'. -/
def superFailsCard : Claim7 := { stood := { row := superFailsRow, standIns := [], harness := (true, "33309eda6df106688ef2a83b605542922621bfc64ffaaad8b5a378d9be3cbcfa"), looks := false }, kinds := [], alts := [], laidByText := true, laidKinds := [.data, .pinned], laidTests := true, laidLooks := .later }
def SuperFailsCardSaid : Prop := Claim7.holds Tryd.pinned (.plain (OpenSpec.ofChange superFailsSpec)) superFailsCard

/-- THE SECOND FORM's CARD OF 'polderlaw04.SuperChecks'. -/
def superChecksUptoCard : Claim7 := { stood := { row := superChecksUptoRow, standIns := [], harness := (true, "33309eda6df106688ef2a83b605542922621bfc64ffaaad8b5a378d9be3cbcfa"), looks := false }, kinds := [], alts := [], laidByText := true, laidKinds := [.data, .pinned], laidTests := true, laidLooks := .later }
def SuperChecksUptoCardSaid : Prop := Claim7.holds Tryd.pinned (.plain (OpenSpec.upto superChecksSpec)) superChecksUptoCard

/-- THE SECOND FORM's CARD OF 'polderlaw04.SuperHolds'. -/
def superHoldsUptoCard : Claim7 := { stood := { row := superHoldsUptoRow, standIns := [], harness := (true, "33309eda6df106688ef2a83b605542922621bfc64ffaaad8b5a378d9be3cbcfa"), looks := false }, kinds := [], alts := [], laidByText := true, laidKinds := [.data, .pinned], laidTests := true, laidLooks := .later }
def SuperHoldsUptoCardSaid : Prop := Claim7.holds Tryd.pinned (.plain (OpenSpec.upto superHoldsSpec)) superHoldsUptoCard

/-- THE SECOND FORM's CARD OF 'polderlaw04.SuperFails'. -/
def superFailsUptoCard : Claim7 := { stood := { row := superFailsUptoRow, standIns := [], harness := (true, "33309eda6df106688ef2a83b605542922621bfc64ffaaad8b5a378d9be3cbcfa"), looks := false }, kinds := [], alts := [], laidByText := true, laidKinds := [.data, .pinned], laidTests := true, laidLooks := .later }
def SuperFailsUptoCardSaid : Prop := Claim7.holds Tryd.pinned (.plain (OpenSpec.upto superFailsSpec)) superFailsUptoCard
end Rows
end Go.Proofs.YtpnpjffhkaejgaaDoor
