/-
  PROVED HERE: a world in which the tables of package unicode/utf8 hold what their initialisers lay. Conditions: none.
-/
import Derived.Test.YtpnpjffhkaejgaaGreatDoorRowKit
namespace Go.Proofs.YtpnpjffhkaejgaaGreatDoor
open Go.ChangeShapes Go.WideShapes Go.ChangeAt Go.RowKit
def litV {H : Type} : DataW H → List Value
  | .lit (.int k n) => [.int k n]
  | _ => []
def flatV {H : Type} : DataW H → List Value
  | .agg l => l.flatMap fun d => match d with | .agg m => m.flatMap litV | d => litV d
  | _ => []
def holds (l : List Value) : Obj → Obj
  | .cells _ t frozen => .cells l.toArray t frozen
  | o => o
/-- A world for the witness: the settled one, the tables holding what their initialisers lay. -/
noncomputable def laidWorld (os : Os) : World :=
  { World.holding Tryz.prog os ⟨#[], #[], []⟩ with heap := ((World.holding Tryz.prog os ⟨#[], #[], []⟩).heap.modify 1 (holds (flatV (Rows.laid_unicode_utf8_acceptRanges : DataW Unit)))).modify 0 (holds (flatV Rows.laid_unicode_utf8_first)) }
end Go.Proofs.YtpnpjffhkaejgaaGreatDoor
