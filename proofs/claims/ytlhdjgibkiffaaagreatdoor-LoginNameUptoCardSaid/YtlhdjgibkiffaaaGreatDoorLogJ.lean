/-
  PROVED HERE: a row of PDUs, as it lies. Conditions: those that each theorem names.
-/
import Derived.Test.YtlhdjgibkiffaaaGreatDoorLogX
import Derived.Test.YtlhdjgibkiffaaaGreatDoorLogI
namespace Go.Proofs.YtlhdjgibkiffaaaGreatDoor
open Go.RowKit Go.Shelf
/-- The value v is a row of PDUs. -/
def IsRws (w : World) (v : Value) (l : List Rw) : Prop := ∃ p cap, v = .slice p l.length cap ∧ l.length ≤ cap ∧ cap ≤ maxLen ∧ ∀ i (h : i < l.length), ∃ g o, p = some ⟨g, o, none⟩ ∧ g < w.heap.size ∧
  (∀ j u, (rwV l[i])[j]? = some u → w.cell? ⟨g, o + i * 27 + j, none⟩ = some u) ∧ IsTxtV w (.slice l[i].dp l[i].data.length l[i].dc) l[i].data
end Go.Proofs.YtlhdjgibkiffaaaGreatDoor
