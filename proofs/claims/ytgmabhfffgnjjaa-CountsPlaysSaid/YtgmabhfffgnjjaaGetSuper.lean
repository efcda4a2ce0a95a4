/-
  PROVED HERE: GetSuper of package codec. Conditions: the bytes can be read; the table may be used, and does not hold them.
-/
import Derived.Test.YtgmabhfffgnjjaaSuperRec
namespace Go.Proofs.Ytgmabhfffgnjjaa
open Go.RowKit

/-- A superblock as the program holds it. -/
def superV (s : List Int) : Value := .agg (i64s s).toArray
def superNone : List Int := [0, 0, 0, 0, 0, 0, 0]
theorem seg_rest {l : List Nat} (h : l.length = 256) (k : Nat) (hk : k < 7) : ((((l.drop 4).take 248).drop (8 * k)).take 8) = seg l (4 + 8 * k) 8 := by
  rw [seg_take (4 + 8 * k) 8 252 (by omega) (by omega), show (l.drop 4).take 248 = (l.take 252).drop 4 by rw [List.drop_take], List.drop_drop]
theorem okSuper_not {l : List Nat} {k : Nat} (hk : k < 7) (h : inB (numi (seg l (4 + 8 * k) 8)) 1099511627776 = false) : getSuper l = none := by
  unfold getSuper
  rw [if_neg]
  intro hc
  simp only [Bool.and_eq_true] at hc
  have := superOf_at hc.1.2 k hk
  rw [h] at this; cases this
theorem superOf_get (l : List Nat) (j : Nat) (hj : j < 7) : (i64s (superOf l))[j]? = some (.int .i64 (numi (seg l (4 + 8 * j) 8))) := by
  unfold i64s superOf
  rw [List.getElem?_map, List.getElem?_map, List.getElem?_range hj]
  rfl
theorem okSuper_all {l : List Nat} (h : ∀ j, j < 7 → inB (numi (seg l (4 + 8 * j) 8)) 1099511627776 = true) : okSuper (superOf l) = true := by
  unfold okSuper superOf
  rw [List.all_eq_true]
  intro x hx
  obtain ⟨k, hk, rfl⟩ := List.mem_map.1 hx
  exact h k (List.mem_range.1 hk)
end Go.Proofs.Ytgmabhfffgnjjaa
