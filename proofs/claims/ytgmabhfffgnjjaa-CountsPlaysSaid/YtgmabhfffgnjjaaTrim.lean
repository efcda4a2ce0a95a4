/-
  PROVED HERE: bytes.Trim at the cutset of one nought: empty just if there are noughts alone. A reader is bare just then. Conditions: the bytes can be read.
-/
import Derived.Test.YtgmabhfffgnjjaaReader
import Derived.BigQuiet
namespace Go.Proofs.Ytgmabhfffgnjjaa
open Go.RowKit

theorem last_nonzero (l : List Nat) : ∃ m, m ≤ l.length ∧ (∀ i, m ≤ i → l.getD i 0 = 0) ∧ (m = 0 ∨ l.getD (m - 1) 0 ≠ 0) := by
  have : ∀ n, (∀ i, n ≤ i → l.getD i 0 = 0) → ∃ m, m ≤ n ∧ (∀ i, m ≤ i → l.getD i 0 = 0) ∧ (m = 0 ∨ l.getD (m - 1) 0 ≠ 0) := by
    intro n
    induction n with
    | zero => exact fun h => ⟨0, Nat.le_refl _, h, .inl rfl⟩
    | succ n ih =>
      intro h
      by_cases h0 : l.getD n 0 = 0
      · obtain ⟨m, hm, r⟩ := ih fun i hi => by
          by_cases e : i = n
          · rw [e]; exact h0
          · exact h i (by omega)
        exact ⟨m, by omega, r⟩
      · exact ⟨n + 1, Nat.le_refl _, h, .inr h0⟩
  exact this l.length fun i hi => by rw [List.getD_eq_getElem?_getD, List.getElem?_eq_none hi]; rfl
theorem first_nonzero (l : List Nat) (k : Nat) (hk : l.getD k 0 ≠ 0) : ∃ z, z ≤ k ∧ (∀ i, i < z → l.getD i 0 = 0) ∧ l.getD z 0 ≠ 0 := by
  have : ∀ d n, n + d = k → (∀ i, i < n → l.getD i 0 = 0) → ∃ z, z ≤ k ∧ (∀ i, i < z → l.getD i 0 = 0) ∧ l.getD z 0 ≠ 0 := by
    intro d
    induction d with
    | zero => intro n hn h; exact ⟨n, by omega, h, by rw [show n = k by omega]; exact hk⟩
    | succ d ih =>
      intro n hn h
      by_cases h0 : l.getD n 0 = 0
      · exact ih (n + 1) (by omega) fun i hi => by
          by_cases e : i = n
          · rw [e]; exact h0
          · exact h i (by omega)
      · exact ⟨n, by omega, h, h0⟩
  exact this k 0 (by omega) fun i hi => by omega
/-- Noughts alone? -/
def bare (l : List Nat) : Bool := l.all (· == 0)
theorem bare_iff (l : List Nat) : bare l = true ↔ ∀ i, l.getD i 0 = 0 := by
  unfold bare
  rw [List.all_eq_true]
  constructor
  · intro h i
    rw [List.getD_eq_getElem?_getD]
    cases e : l[i]? with
    | none => rfl
    | some x => simpa using h x (List.mem_of_getElem? e)
  · intro h x hx
    obtain ⟨i, hi, rfl⟩ := List.mem_iff_getElem.1 hx
    rw [getD_of hi, h i]; rfl
end Go.Proofs.Ytgmabhfffgnjjaa
