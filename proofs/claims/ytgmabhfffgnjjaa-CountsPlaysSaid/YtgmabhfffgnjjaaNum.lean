/-
  PROVED HERE: numbers as bytes, the highest first, and back. Conditions: those that each theorem names.
-/
import Derived.WalkKit
namespace Go.Proofs.Ytgmabhfffgnjjaa
open Go.RowKit

/-- A number's k lowest bytes, the highest first. -/
def be (n : Nat) : Nat → List Nat
  | 0 => []
  | k + 1 => n / 256 ^ k % 256 :: be n k
theorem be_len (n k : Nat) : (be n k).length = k := by
  induction k with
  | zero => rfl
  | succ k ih => simp [be, ih]
theorem be_get (n k i : Nat) (h : i < k) : (be n k)[i]? = some (n / 256 ^ (k - 1 - i) % 256) := by
  induction k generalizing i with
  | zero => omega
  | succ k ih =>
    cases i with
    | zero => simp [be]
    | succ i =>
      simp only [be, List.getElem?_cons_succ]
      rw [ih i (by omega), show k + 1 - 1 - (i + 1) = k - 1 - i by omega]
theorem be_lt (n k : Nat) : ∀ b ∈ be n k, b < 256 := by
  induction k with
  | zero => simp [be]
  | succ k ih =>
    intro b hb
    simp only [be, List.mem_cons] at hb
    rcases hb with rfl | hb
    · exact Nat.mod_lt _ (by decide)
    · exact ih b hb
/-- The number of some bytes. -/
def num (l : List Nat) : Nat := l.foldl (fun n b => 256 * n + b) 0
theorem num_snoc (l : List Nat) (b : Nat) : num (l ++ [b]) = 256 * num l + b := by simp [num]
theorem num_foldl (l : List Nat) (a : Nat) : l.foldl (fun n b => 256 * n + b) a = 256 ^ l.length * a + num l := by
  induction l generalizing a with
  | nil => simp [num]
  | cons x l ih =>
    simp only [List.foldl_cons, num, List.length_cons]
    rw [ih, ih (256 * 0 + x), Nat.mul_add, ← Nat.mul_assoc, ← Nat.pow_succ]
    simp; omega
theorem num_append (a b : List Nat) : num (a ++ b) = 256 ^ b.length * num a + num b := by
  unfold num
  rw [List.foldl_append]
  exact num_foldl b _
theorem num_lt {l : List Nat} (h : ∀ b ∈ l, b < 256) : num l < 256 ^ l.length := by
  induction l with
  | nil => simp [num]
  | cons x l ih =>
    have hx := h x (by simp)
    have ih := ih fun b hb => h b (by simp [hb])
    have e : num (x :: l) = 256 ^ l.length * x + num l := by
      have := num_append [x] l
      simpa [num] using this
    rw [e, List.length_cons, Nat.pow_succ]
    have : 256 ^ l.length * x ≤ 256 ^ l.length * 255 := Nat.mul_le_mul_left _ (by omega)
    omega
theorem num_be (n k : Nat) : num (be n k) = n % 256 ^ k := by
  induction k with
  | zero => simp [be, num, Nat.mod_one]
  | succ k ih =>
    have e : num (be n (k + 1)) = 256 ^ (be n k).length * (n / 256 ^ k % 256) + num (be n k) := by
      have := num_append [n / 256 ^ k % 256] (be n k)
      simpa [num, be] using this
    rw [e, be_len, ih, Nat.pow_succ, Nat.mod_mul]
    omega
theorem num_be_of_lt {n k : Nat} (h : n < 256 ^ k) : num (be n k) = n := by rw [num_be, Nat.mod_eq_of_lt h]
theorem num_cons (x : Nat) (l : List Nat) : num (x :: l) = 256 ^ l.length * x + num l := by
  have := num_append [x] l
  simpa [num] using this
theorem be_num {l : List Nat} (h : ∀ b ∈ l, b < 256) : be (num l) l.length = l := by
  induction l with
  | nil => rfl
  | cons x l ih =>
    have hx := h x (by simp)
    have ih := ih fun b hb => h b (by simp [hb])
    have hl : num l < 256 ^ l.length := num_lt fun b hb => h b (List.mem_cons_of_mem _ hb)
    have hz : 0 < 256 ^ l.length := Nat.pow_pos (by decide)
    have e1 : (256 ^ l.length * x + num l) / 256 ^ l.length % 256 = x := by
      rw [Nat.mul_add_div hz, Nat.div_eq_of_lt hl, Nat.add_zero, Nat.mod_eq_of_lt hx]
    have e2 : ∀ k m n : Nat, be (256 ^ k * m + n) k = be n k := by
      intro k
      have hg : ∀ j m n : Nat, j ≤ k → be (256 ^ k * m + n) j = be n j := by
        intro j
        induction j with
        | zero => intros; rfl
        | succ j ihj =>
          intro m n hj
          simp only [be]
          rw [ihj m n (by omega)]
          congr 1
          obtain ⟨d, rfl⟩ : ∃ d, k = j + 1 + d := ⟨k - (j + 1), by omega⟩
          rw [show 256 ^ (j + 1 + d) * m + n = 256 ^ j * (256 * (256 ^ d * m)) + n by
            rw [Nat.pow_add, Nat.pow_succ]
            simp only [Nat.mul_assoc],
            Nat.mul_add_div (Nat.pow_pos (by decide)), Nat.mul_add_mod]
      intro m n
      exact hg k m n (Nat.le_refl _)
    rw [num_cons, List.length_cons]
    simp only [be]
    rw [e1, e2, ih]
/-- The value of a number of up to eight bytes, as Go's int has it. -/
def numi (l : List Nat) : Int := wrap64 (num l)
theorem numi_nil : numi [] = 0 := by simp [numi, num, wrap64]
theorem numi_eq {l : List Nat} (h : ∀ b ∈ l, b < 256) (hl : l.length ≤ 7) : numi l = num l := by
  have h1 := num_lt h
  have h2 : 256 ^ l.length ≤ 256 ^ 7 := Nat.pow_le_pow_right (by decide) hl
  unfold numi wrap64
  have : (256 : Nat) ^ 7 = 72057594037927936 := by decide
  omega
/-- One byte more, in Go's own steps. -/
theorem shift_or (m b : Nat) (hm : m < 72057594037927936) (hb : b < 256) : bits .or .i64 (wrap64 ((m : Int) * 256)) (b : Int) = wrap64 ((256 * m + b : Nat) : Int) := by
  have h1 : (BitVec.ofInt 64 (wrap64 ((m : Int) * 256))).toNat = 256 * m := by
    simp only [BitVec.toNat_ofInt, wrap64]; omega
  have h2 : (BitVec.ofInt 64 (b : Int)).toNat = b := by
    simp only [BitVec.toNat_ofInt]; omega
  show IntKind.i64.wrap (((BitVec.ofInt 64 (wrap64 ((m : Int) * 256)) ||| BitVec.ofInt 64 (b : Int)) : BitVec 64).toNat : Int) = _
  have h3 : 256 * m ||| b = 256 * m + b := by
    have := Nat.two_pow_add_eq_or_of_lt (i := 8) (show b < 2 ^ 8 from hb) m
    rw [show (256 : Nat) = 2 ^ 8 from rfl, this]
  rw [BitVec.toNat_or, h1, h2, h3, IntKind.wrap_i64]
  unfold wrap64
  omega
end Go.Proofs.Ytgmabhfffgnjjaa
