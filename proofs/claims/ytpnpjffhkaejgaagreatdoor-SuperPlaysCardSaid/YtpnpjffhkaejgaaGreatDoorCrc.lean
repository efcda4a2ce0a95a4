/-
  PROVED HERE: the arithmetic of the sum of bytes (CRC-32C): bit by bit, and byte by byte by a table, come to the same. Conditions: numbers below 2^32, bytes below 256.
-/
import Derived.WalkKit
namespace Go.Proofs.YtpnpjffhkaejgaaGreatDoor

def poly : Nat := 2197175160
/-- One bit. -/
def cstep (c : Nat) : Nat := (c / 2) ^^^ (c % 2 * poly)
def csteps : Nat → Nat → Nat
  | 0, c => c
  | k + 1, c => csteps k (cstep c)
theorem xor_mod2 (x y : Nat) : (x ^^^ y) % 2 = (x % 2 + y % 2) % 2 := by
  have h : ((x ^^^ y).testBit 0) = (x.testBit 0 ^^ y.testBit 0) := Nat.testBit_xor ..
  simp only [Nat.testBit_zero] at h
  rcases Nat.mod_two_eq_zero_or_one x with hx | hx <;> rcases Nat.mod_two_eq_zero_or_one y with hy | hy <;> rcases Nat.mod_two_eq_zero_or_one (x ^^^ y) with hz | hz <;> simp [hx, hy, hz] at h ⊢
theorem xor_div2 (x y : Nat) : (x ^^^ y) / 2 = (x / 2) ^^^ (y / 2) := by
  apply Nat.eq_of_testBit_eq
  intro i
  rw [Nat.testBit_div_two, Nat.testBit_xor, Nat.testBit_xor, Nat.testBit_div_two, Nat.testBit_div_two]
theorem cstep_xor (x y : Nat) : cstep (x ^^^ y) = cstep x ^^^ cstep y := by
  unfold cstep
  rw [xor_div2, xor_mod2]
  rcases Nat.mod_two_eq_zero_or_one x with hx | hx <;> rcases Nat.mod_two_eq_zero_or_one y with hy | hy <;> rw [hx, hy]
  · simp
  · simp [Nat.xor_assoc]
  · simp only [Nat.one_mul, Nat.zero_mul, Nat.xor_zero, Nat.add_zero, Nat.mod_eq_of_lt (show 1 < 2 by decide)]
    rw [Nat.xor_assoc, Nat.xor_assoc, Nat.xor_comm (y / 2)]
  · simp only [Nat.one_mul, show (1 + 1) % 2 = 0 by decide, Nat.zero_mul, Nat.xor_zero]
    rw [Nat.xor_assoc, ← Nat.xor_assoc poly, Nat.xor_comm poly (y / 2), Nat.xor_assoc, Nat.xor_self, Nat.xor_zero]
theorem csteps_xor (k x y : Nat) : csteps k (x ^^^ y) = csteps k x ^^^ csteps k y := by
  induction k generalizing x y with
  | zero => rfl
  | succ k ih => show csteps k (cstep (x ^^^ y)) = _; rw [cstep_xor, ih]; rfl
theorem cstep_double (x : Nat) : cstep (2 * x) = x := by
  unfold cstep
  rw [show 2 * x / 2 = x by omega, show 2 * x % 2 = 0 by omega]; simp
theorem csteps_pow (k x : Nat) : csteps k (2 ^ k * x) = x := by
  induction k generalizing x with
  | zero => simp [csteps]
  | succ k ih =>
    show csteps k (cstep (2 ^ (k + 1) * x)) = x
    rw [show 2 ^ (k + 1) * x = 2 * (2 ^ k * x) by rw [Nat.pow_succ, Nat.mul_comm (2 ^ k) 2, Nat.mul_assoc], cstep_double, ih]
theorem cstep_lt {c : Nat} (h : c < 4294967296) : cstep c < 4294967296 := by
  unfold cstep
  have h1 : c / 2 < 2 ^ 32 := by omega
  have h2 : c % 2 * poly < 2 ^ 32 := by
    rcases Nat.mod_two_eq_zero_or_one c with h | h <;> rw [h] <;> decide
  exact Nat.xor_lt_two_pow h1 h2
theorem csteps_lt (k : Nat) {c : Nat} (h : c < 4294967296) : csteps k c < 4294967296 := by
  induction k generalizing c with
  | zero => exact h
  | succ k ih => exact ih (cstep_lt h)
/-- One byte, bit by bit. -/
def cbyte (c b : Nat) : Nat := csteps 8 (c ^^^ b)
/-- One byte, by the table. -/
theorem cbyte_table (c b : Nat) (_hb : b < 256) : cbyte c b = (c / 256) ^^^ csteps 8 ((c % 256) ^^^ b) := by
  unfold cbyte
  have e : c = (256 * (c / 256)) ^^^ (c % 256) := by
    apply Nat.eq_of_testBit_eq
    intro i
    have h : 256 * (c / 256) + c % 256 = c := by omega
    rw [Nat.testBit_xor, show 256 * (c / 256) = 2 ^ 8 * (c / 256) from rfl, Nat.testBit_two_pow_mul]
    conv => lhs; rw [← h, show 256 * (c / 256) = 2 ^ 8 * (c / 256) from rfl, Nat.testBit_two_pow_mul_add (c / 256) (show c % 256 < 2 ^ 8 from Nat.mod_lt _ (by decide))]
    by_cases hi : i < 8
    · simp [hi, show ¬ (i ≥ 8) by omega]
    · rw [if_neg hi, Nat.testBit_lt_two_pow (x := c % 256) (Nat.lt_of_lt_of_le (show c % 256 < 2 ^ 8 from Nat.mod_lt _ (by decide)) (Nat.pow_le_pow_right (by decide) (by omega)))]
      simp [show i ≥ 8 by omega]
  conv => lhs; rw [e]
  rw [Nat.xor_assoc, csteps_xor, show (256 : Nat) * (c / 256) = 2 ^ 8 * (c / 256) from rfl, csteps_pow]
theorem cbyte_lt {c b : Nat} (h : c < 4294967296) (hb : b < 256) : cbyte c b < 4294967296 :=
  csteps_lt 8 (Nat.xor_lt_two_pow (n := 32) h (by omega))
def cmore (c : Nat) (l : List Nat) : Nat := l.foldl cbyte c
theorem cmore_lt {l : List Nat} (hl : ∀ b ∈ l, b < 256) {c : Nat} (h : c < 4294967296) : cmore c l < 4294967296 := by
  induction l generalizing c with
  | nil => exact h
  | cons b l ih => exact ih (fun x hx => hl x (by simp [hx])) (cbyte_lt h (hl b (by simp)))
theorem cmore_snoc (c : Nat) (l : List Nat) (b : Nat) : cmore c (l ++ [b]) = cbyte (cmore c l) b := by simp [cmore]
def crc (l : List Nat) : Nat := cmore 4294967295 l ^^^ 4294967295
theorem crc_lt {l : List Nat} (hl : ∀ b ∈ l, b < 256) : crc l < 4294967296 := Nat.xor_lt_two_pow (n := 32) (cmore_lt hl (by decide)) (by decide)
end Go.Proofs.YtpnpjffhkaejgaaGreatDoor
