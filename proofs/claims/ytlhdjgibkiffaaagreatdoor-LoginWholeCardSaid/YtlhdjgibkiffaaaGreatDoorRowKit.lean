/-
  PROVED HERE: what the statements' rows ask of this seat's program, closed facts by the kernel. Conditions: none.
-/
import Derived.Test.YtlhdjgibkiffaaaGreatDoorCards
import Derived.Test.YtlhdjgibkiffaaaGreatDoorTie
import Derived.Test.YtlhdjgibkiffaaaGreatDoorBase
import Derived.ProofKit
import Derived.OpenShut
import Derived.Deep.DeepHandedRow
namespace Go.Proofs.YtlhdjgibkiffaaaGreatDoor
open Go.ChangeShapes Go.WideShapes Go.ChangeAt Go.RowKit

theorem own : ownKnob Tryz.prog.godebug = none := by kernel_rfl
theorem laidOut : laidOutB Tryz.prog = true := by kernel_rfl
theorem no_standin {P : Program} {f : Func} (h : (f.params.toList.all fun t => !P.wantsStandIn t) = true) (j : Nat) (t : TypeId) (ht : f.params[j]? = some t) : P.wantsStandIn t = false := by
  have hm : t ∈ f.params.toList := by
    rw [Array.mem_toList_iff]
    exact Array.mem_of_getElem? ht
  simpa using List.all_eq_true.1 h t hm
theorem i64_range {n : Int} (h : (Lit.int .i64 n).wf = true) : -9223372036854775808 ≤ n ∧ n ≤ 9223372036854775807 := by
  simp only [Lit.wf, Bool.and_eq_true, decide_eq_true_eq] at h
  exact h
end Go.Proofs.YtlhdjgibkiffaaaGreatDoor
