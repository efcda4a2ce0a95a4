/-
  PROVED HERE: PutSuper of package codec. Conditions: the table may be used.
-/
import Derived.Test.YtgmabhfffgnjjaaPutKit
namespace Go.Proofs.Ytgmabhfffgnjjaa
open Go.RowKit

def i64s (l : List Int) : List Value := l.map (Value.int .i64)
def okSuper (l : List Int) : Bool := l.all (inB · 1099511627776)
def superBytes (l : List Int) : List Nat := [80, 83, 85, 80] ++ l.flatMap fun n => be n.toNat 8
def putSuper (l : List Int) : Option (List Nat) := if okSuper l then some (frame (superBytes l)) else none
theorem putSuper_no {l : List Int} {k : Nat} (hk : k < l.length) (h : inB l[k] 1099511627776 = false) : putSuper l = none := by
  unfold putSuper okSuper
  rw [if_neg]
  intro hall
  have := List.all_eq_true.1 hall l[k] (List.getElem_mem hk)
  rw [h] at this; cases this
theorem okSuper_of {l : List Int} (h : ∀ k (hk : k < l.length), inB l[k] 1099511627776 = true) : okSuper l = true := by
  unfold okSuper
  rw [List.all_eq_true]
  intro x hx
  obtain ⟨k, hk, rfl⟩ := List.mem_iff_getElem.1 hx
  exact h k hk
theorem superBytes_len (l : List Int) : (superBytes l).length = 4 + 8 * l.length := by
  unfold superBytes
  rw [List.length_append, List.length_flatMap]
  simp only [be_len]
  induction l with
  | nil => rfl
  | cons a l ih => simp at ih ⊢; omega
theorem superBytes_take (l : List Int) (k : Nat) (hk : k < l.length) : superBytes (l.take (k + 1)) = superBytes (l.take k) ++ be l[k].toNat 8 := by
  unfold superBytes
  rw [List.take_succ_eq_append_getElem hk, List.flatMap_append, List.append_assoc]
  simp
end Go.Proofs.Ytgmabhfffgnjjaa
