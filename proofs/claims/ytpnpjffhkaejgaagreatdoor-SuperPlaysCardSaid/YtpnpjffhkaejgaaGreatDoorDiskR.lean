/-
  PROVED HERE: the disk's methods in a law: what else the law holds stays. Conditions: those that each theorem names.
-/
import Derived.Test.YtpnpjffhkaejgaaGreatDoorDiskQ
namespace Go.Proofs.YtpnpjffhkaejgaaGreatDoor
open Go.RowKit

/-- Bytes of the law's own. -/
def OwnB (w : World) (F : Nat → Prop) (l : List Nat) (n : Nat) (e : Ending) (w' : World) : Prop := ∃ g cap, e = .returned (.slice (some ⟨g, 0, none⟩) n cap) ∧ n ≤ cap ∧ cap ≤ 9223372036854775807 ∧ w.heap.size ≤ g ∧ ¬ F g ∧ g < w'.heap.size ∧ IsBytes w' (some ⟨g, 0, none⟩) l ∧ ∃ B, IsRow w' B (.slice (some ⟨g, 0, none⟩) n cap) l
end Go.Proofs.YtpnpjffhkaejgaaGreatDoor
