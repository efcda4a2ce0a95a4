/-
  PROVED HERE: what the statements' rows ask of this seat's program, closed facts by the kernel; what the row's list gives of the table of math/bits. Conditions: none.
-/
import Derived.Test.YtmecndmoobddkaaDoorCards
import Derived.Test.YtmecndmoobddkaaDoorTie
import Derived.Test.YtmecndmoobddkaaDoorBase
import Derived.ProofKit
import Derived.OpenShut
import Derived.Deep.DeepHandedRow
import Derived.Lib.LaidTab
import Derived.Lib.TrailingZeros
namespace Go.Proofs.YtmecndmoobddkaaDoor
open Go.ChangeShapes Go.WideShapes Go.ChangeAt Go.RowKit

theorem own : ownKnob Tryd.prog.godebug = none := by kernel_rfl
theorem laidOut : laidOutB Tryd.prog = true := by kernel_rfl
theorem no_standin {P : Program} {f : Func} (h : (f.params.toList.all fun t => !P.wantsStandIn t) = true) (j : Nat) (t : TypeId) (ht : f.params[j]? = some t) : P.wantsStandIn t = false := by
  have hm : t ∈ f.params.toList := by
    rw [Array.mem_toList_iff]
    exact Array.mem_of_getElem? ht
  simpa using List.all_eq_true.1 h t hm
theorem gTab : Tryd.prog.globalNamed "math/bits.deBruijn64tab" = some 0 := by kernel_rfl
theorem gTabType : (Tryd.prog.globals[0]?).map (·.type) = some 54 := by kernel_rfl
theorem cellsTab : Tryd.prog.cellsOf 54 = 64 := by kernel_rfl
theorem cellsU8 : Tryd.prog.cellsOf 5 = 1 := by kernel_rfl
def tabZ : List Int := Lib.deBruijn64tab.map Int.ofNat
/-- What the row's list gives: the table's cells hold its numbers. -/
theorem tab_cells {W : World} (h : laidMetH Tryd.prog [("math/bits.deBruijn64tab", Rows.laid_math_bits_deBruijn64tab)] W) : ∀ j, j < 64 → W.cell? ⟨0, j, none⟩ = some (.int .u8 (Lib.deBruijn64tab.getD j 0)) := by
  have h' : laidMet Tryd.prog [("math/bits.deBruijn64tab", Lib.tabData .u8 tabZ)] W := h
  have ht : Lib.TabIs Tryd.prog W "math/bits.deBruijn64tab" .u8 tabZ :=
    Lib.tabIs_of_head (rest := []) gTab gTabType Tryd.underlying54 Tryd.underlying5 cellsU8 cellsTab h'
  intro j hj
  rw [ht.cell gTab j (by exact hj)]
  simp [tabZ, List.getD, List.getElem?_map]
  cases Lib.deBruijn64tab[j]? <;> rfl
def tabCells : Array Value := (tabZ.map fun n => Value.int .u8 n).toArray
theorem i64_range {n : Int} (h : (Lit.int .i64 n).wf = true) : -9223372036854775808 ≤ n ∧ n ≤ 9223372036854775807 := by
  simp only [Lit.wf, Bool.and_eq_true, decide_eq_true_eq] at h
  exact h
/-- A world for the witness: the settled one, the table holding what its initialiser lays. -/
noncomputable def laidWorld (os : Os) : World :=
  { World.holding Tryd.prog os ⟨#[], #[], []⟩ with heap := (World.holding Tryd.prog os ⟨#[], #[], []⟩).heap.modify 0 fun
      | .cells _ t frozen => .cells tabCells t frozen
      | o => o }
end Go.Proofs.YtmecndmoobddkaaDoor
