/-
  PROVED HERE: what the statements' rows ask of this seat's program, closed facts by the kernel. Conditions: none.
-/
import Derived.Test.YtgmabhfffgnjjaaRows
import Derived.Test.YtgmabhfffgnjjaaBase
import Derived.ProofKit
import Derived.OpenShut
import Derived.Deep.DeepHandedRow
namespace Go.Proofs.Ytgmabhfffgnjjaa
open Go.ChangeShapes Go.WideShapes Go.ChangeAt Go.RowKit

theorem own : ownKnob Try.prog.godebug = none := by kernel_rfl
theorem laidOut : laidOutB Try.prog = true := by kernel_rfl
theorem laid_none (P : Program) (w : World) : laidMetH P [] w := ⟨[], rfl, List.nodup_nil, fun _ _ h => by cases h⟩
theorem i64_range {n : Int} (h : (Lit.int .i64 n).wf = true) : -9223372036854775808 ≤ n ∧ n ≤ 9223372036854775807 := by
  simp only [Lit.wf, Bool.and_eq_true, decide_eq_true_eq] at h
  exact h
end Go.Proofs.Ytgmabhfffgnjjaa
