/-
  PROVED HERE: the plain side of the page allocator: its five numbers (how many pages; the bits of the free pages and of the dropped ones, now and as settled), their words of 64 bits, and what each step does to single bits. Conditions: those that each theorem names.
-/
import Derived.Test.YtmecndmoobddkaaDoorBase
import Derived.Test.YtmecndmoobddkaaDoorPop
namespace Go.Proofs.YtmecndmoobddkaaDoor
open Go.RowKit

/-- Word i of a row of bits. -/
def wd (F i : Nat) : Nat := F / 2 ^ (64 * i) % 18446744073709551616
theorem wd_lt (F i : Nat) : wd F i < 18446744073709551616 := Nat.mod_lt _ (by decide)
theorem wd_bit (F i j : Nat) : (wd F i).testBit j = (decide (j < 64) && F.testBit (64 * i + j)) := by
  unfold wd
  rw [show 18446744073709551616 = 2 ^ 64 by decide, Nat.testBit_mod_two_pow, Nat.testBit_div_two_pow, Nat.add_comm j]
theorem wd_ext {F i x : Nat} (hx : x < 18446744073709551616) (h : ∀ j, j < 64 → x.testBit j = F.testBit (64 * i + j)) : x = wd F i := by
  apply Nat.eq_of_testBit_eq
  intro j
  rw [wd_bit]
  by_cases hj : j < 64
  · simp [hj, h j hj]
  · rw [Nat.testBit_lt_two_pow (Nat.lt_of_lt_of_le hx (by rw [show 18446744073709551616 = 2 ^ 64 by decide]; exact Nat.pow_le_pow_right (by decide) (by omega)))]
    simp [hj]
/-- Bit k taken out, put in. -/
def clr (F k : Nat) : Nat := F ^^^ (F &&& 2 ^ k)
def put (F k : Nat) : Nat := F ||| 2 ^ k
theorem clr_bit (F k j : Nat) : (clr F k).testBit j = (F.testBit j && !decide (k = j)) := by
  unfold clr
  rw [Nat.testBit_xor, Nat.testBit_and, Nat.testBit_two_pow]
  by_cases h : k = j <;> simp [h]
theorem put_bit (F k j : Nat) : (put F k).testBit j = (F.testBit j || decide (k = j)) := by
  unfold put
  rw [Nat.testBit_or, Nat.testBit_two_pow]
theorem wd_clr (F k i : Nat) : wd (clr F k) i = if i = k / 64 then wd F i &&& (18446744073709551615 - 2 ^ (k % 64)) else wd F i := by
  have hk : k % 64 < 64 := Nat.mod_lt _ (by decide)
  split
  · rename_i h
    symm
    refine wd_ext (Nat.lt_of_le_of_lt Nat.and_le_left (wd_lt _ _)) fun j hj => ?_
    have h1 : 2 ^ (k % 64) < 2 ^ 64 := Nat.pow_lt_pow_right (by decide) hk
    rw [Nat.testBit_and, wd_bit, clr_bit, show 18446744073709551615 - 2 ^ (k % 64) = 2 ^ 64 - (2 ^ (k % 64) + 1) by omega, Nat.testBit_two_pow_sub_succ h1, Nat.testBit_two_pow]
    simp only [hj, decide_true, Bool.true_and]
    congr 2
    rw [decide_eq_decide]
    omega
  · rename_i h
    symm
    refine wd_ext (wd_lt _ _) fun j hj => ?_
    rw [wd_bit, clr_bit, show decide (k = 64 * i + j) = false by simp; omega]
    simp [hj]
theorem wd_put (F k i : Nat) : wd (put F k) i = if i = k / 64 then wd F i ||| 2 ^ (k % 64) else wd F i := by
  have hk : k % 64 < 64 := Nat.mod_lt _ (by decide)
  have h1 : 2 ^ (k % 64) < 2 ^ 64 := Nat.pow_lt_pow_right (by decide) hk
  split
  · rename_i h
    symm
    refine wd_ext (Nat.or_lt_two_pow (n := 64) (wd_lt _ _) h1) fun j hj => ?_
    rw [Nat.testBit_or, wd_bit, put_bit, Nat.testBit_two_pow]
    simp only [hj, decide_true, Bool.true_and]
    congr 1
    rw [decide_eq_decide]
    omega
  · rename_i h
    symm
    refine wd_ext (wd_lt _ _) fun j hj => ?_
    rw [wd_bit, put_bit, show decide (k = 64 * i + j) = false by simp; omega]
    simp [hj]
theorem wd_or (F D i : Nat) : wd (F ||| D) i = wd F i ||| wd D i := by
  symm
  refine wd_ext (Nat.or_lt_two_pow (n := 64) (wd_lt _ _) (wd_lt _ _)) fun j hj => ?_
  rw [Nat.testBit_or, wd_bit, wd_bit, Nat.testBit_or]
  simp [hj]
theorem wd_zero (i : Nat) : wd 0 i = 0 := by simp [wd]
theorem wd_at (F p : Nat) : wd F (p / 64) / 2 ^ (p % 64) % 2 = (F.testBit p).toNat := by
  have h : (wd F (p / 64)).testBit (p % 64) = F.testBit p := by
    rw [wd_bit, show 64 * (p / 64) + p % 64 = p by omega]
    simp [Nat.mod_lt p (show 0 < 64 by decide)]
  rw [← h, Nat.testBit_eq_decide_div_mod_eq]
  rcases Nat.mod_two_eq_zero_or_one (wd F (p / 64) / 2 ^ (p % 64)) with h | h <;> simp [h]

/-- The allocator's state. -/
structure St where
  n : Nat
  F : Nat
  D : Nat
  SF : Nat
  SD : Nat
/-- No bit stands beyond the last page. -/
def St.ok (s : St) : Prop := 1 ≤ s.n ∧ s.n ≤ 1024 ∧ s.F < 2 ^ s.n ∧ s.D < 2 ^ s.n ∧ s.SF < 2 ^ s.n ∧ s.SD < 2 ^ s.n
def u64 (x : Nat) : Value := .int .u64 (x : Int)
def St.cell (s : St) (j : Nat) : Value :=
  if j = 0 then .int .i64 (s.n : Int) else if j ≤ 16 then u64 (wd s.F (j - 1)) else if j ≤ 32 then u64 (wd s.D (j - 17)) else if j ≤ 48 then u64 (wd s.SF (j - 33)) else u64 (wd s.SD (j - 49))
def St.cells (s : St) : Array Value := ((List.range 65).map s.cell).toArray
theorem St.cells_get (s : St) (j : Nat) : s.cells[j]? = if j < 65 then some (s.cell j) else none := by
  unfold St.cells
  simp only [List.getElem?_toArray, List.getElem?_map]
  by_cases h : j < 65
  · simp [h]
  · simp [h]
theorem St.cells_size (s : St) : s.cells.size = 65 := by simp [St.cells]
theorem cells_ext {a b : Array Value} (h : ∀ j : Nat, a[j]? = b[j]?) : a = b := Array.ext_getElem? h
theorem St.cells_of (s : St) (cs : Array Value) (hs : cs.size = 65) (h : ∀ j, j < 65 → cs[j]? = some (s.cell j)) : cs = s.cells := by
  apply cells_ext
  intro j
  rw [s.cells_get]
  by_cases hj : j < 65
  · rw [h j hj, if_pos hj]
  · rw [if_neg hj, Array.getElem?_eq_none (by omega)]

theorem St.cell_n (s : St) : s.cell 0 = .int .i64 (s.n : Int) := rfl
theorem St.cell_F (s : St) {i : Nat} (h : i < 16) : s.cell (1 + i) = u64 (wd s.F i) := by
  unfold St.cell; rw [if_neg (by omega), if_pos (by omega), show 1 + i - 1 = i by omega]
theorem St.cell_D (s : St) {i : Nat} (h : i < 16) : s.cell (17 + i) = u64 (wd s.D i) := by
  unfold St.cell; rw [if_neg (by omega), if_neg (by omega), if_pos (by omega), show 17 + i - 17 = i by omega]
theorem St.cell_SF (s : St) {i : Nat} (h : i < 16) : s.cell (33 + i) = u64 (wd s.SF i) := by
  unfold St.cell; rw [if_neg (by omega), if_neg (by omega), if_neg (by omega), if_pos (by omega), show 33 + i - 33 = i by omega]
theorem St.cell_SD (s : St) {i : Nat} : s.cell (49 + i) = u64 (wd s.SD i) := by
  unfold St.cell; rw [if_neg (by omega), if_neg (by omega), if_neg (by omega), if_neg (by omega), show 49 + i - 49 = i by omega]
theorem St.place {j : Nat} (h : j < 65) : j = 0 ∨ (∃ i, i < 16 ∧ j = 1 + i) ∨ (∃ i, i < 16 ∧ j = 17 + i) ∨ (∃ i, i < 16 ∧ j = 33 + i) ∨ (∃ i, i < 16 ∧ j = 49 + i) := by
  by_cases h0 : j = 0
  · exact .inl h0
  · by_cases h1 : j ≤ 16
    · exact .inr (.inl ⟨j - 1, by omega, by omega⟩)
    · by_cases h2 : j ≤ 32
      · exact .inr (.inr (.inl ⟨j - 17, by omega, by omega⟩))
      · by_cases h3 : j ≤ 48
        · exact .inr (.inr (.inr (.inl ⟨j - 33, by omega, by omega⟩)))
        · exact .inr (.inr (.inr (.inr ⟨j - 49, by omega, by omega⟩)))
/-- Two states whose words are the same have the same cells. -/
theorem St.cells_eq {s : St} {cs : Array Value} (hs : cs.size = 65) (h0 : cs[0]? = some (.int .i64 (s.n : Int))) (hF : ∀ i, i < 16 → cs[1 + i]? = some (u64 (wd s.F i))) (hD : ∀ i, i < 16 → cs[17 + i]? = some (u64 (wd s.D i)))
    (hSF : ∀ i, i < 16 → cs[33 + i]? = some (u64 (wd s.SF i))) (hSD : ∀ i, i < 16 → cs[49 + i]? = some (u64 (wd s.SD i))) : cs = s.cells := by
  refine St.cells_of _ _ hs fun j hj => ?_
  rcases St.place hj with rfl | ⟨i, hi, rfl⟩ | ⟨i, hi, rfl⟩ | ⟨i, hi, rfl⟩ | ⟨i, hi, rfl⟩
  · exact h0
  · rw [s.cell_F hi]; exact hF i hi
  · rw [s.cell_D hi]; exact hD i hi
  · rw [s.cell_SF hi]; exact hSF i hi
  · rw [s.cell_SD]; exact hSD i hi
theorem St.at_n (s : St) : s.cells[0]? = some (.int .i64 (s.n : Int)) := by rw [s.cells_get]; rfl
theorem St.at_F (s : St) {i : Nat} (h : i < 16) : s.cells[1 + i]? = some (u64 (wd s.F i)) := by rw [s.cells_get, if_pos (by omega), s.cell_F h]
theorem St.at_D (s : St) {i : Nat} (h : i < 16) : s.cells[17 + i]? = some (u64 (wd s.D i)) := by rw [s.cells_get, if_pos (by omega), s.cell_D h]
theorem St.at_SF (s : St) {i : Nat} (h : i < 16) : s.cells[33 + i]? = some (u64 (wd s.SF i)) := by rw [s.cells_get, if_pos (by omega), s.cell_SF h]
theorem St.at_SD (s : St) {i : Nat} (h : i < 16) : s.cells[49 + i]? = some (u64 (wd s.SD i)) := by rw [s.cells_get, if_pos (by omega), s.cell_SD]

def St.there (s : St) (p : Int) : Bool := decide (0 ≤ p ∧ p < s.n)
def St.isFree (s : St) (p : Int) : Bool := s.there p && s.F.testBit p.toNat
def St.isDropped (s : St) (p : Int) : Bool := s.there p && s.D.testBit p.toNat
def St.mark (s : St) (p : Int) : St := if s.isFree p then { s with F := clr s.F p.toNat } else s
/-- May a page be dropped? It is there, taken, and was not dropped. -/
def St.canDrop (s : St) (p : Int) : Bool := s.there p && !s.F.testBit p.toNat && !s.D.testBit p.toNat
def St.drop (s : St) (p : Int) : St := if s.canDrop p then { s with D := put s.D p.toNat } else s
def St.settle (s : St) : St := { s with F := s.F ||| s.D, D := 0, SF := s.F ||| s.D, SD := 0 }
def St.undo (s : St) : St := { s with F := s.SF, D := s.SD }
def St.free (s : St) : Nat := cnt s.F s.n
def St.new (n : Nat) : St := { n, F := 2 ^ n - 1, D := 0, SF := 2 ^ n - 1, SD := 0 }

theorem lt_of_bits {F n : Nat} (h : ∀ j, n ≤ j → F.testBit j = false) : F < 2 ^ n := Nat.lt_pow_two_of_testBit F fun j hj => h j hj
theorem bit_of_lt {F n j : Nat} (h : F < 2 ^ n) (hj : n ≤ j) : F.testBit j = false := Nat.testBit_lt_two_pow (Nat.lt_of_lt_of_le h (Nat.pow_le_pow_right (by decide) hj))
theorem St.mark_ok {s : St} (h : s.ok) (p : Int) : (s.mark p).ok := by
  unfold St.mark; split
  · obtain ⟨a, b, c, d⟩ := h
    exact ⟨a, b, lt_of_bits fun j hj => by rw [clr_bit, bit_of_lt c hj]; rfl, d⟩
  · exact h
theorem St.drop_ok {s : St} (h : s.ok) (p : Int) : (s.drop p).ok := by
  unfold St.drop; split
  · rename_i hc
    obtain ⟨a, b, c, d, e⟩ := h
    simp only [St.canDrop, St.there, Bool.and_eq_true, decide_eq_true_eq] at hc
    exact ⟨a, b, c, lt_of_bits fun j hj => by
      have hj : s.n ≤ j := hj
      rw [put_bit, bit_of_lt d hj]; simp; omega, e⟩
  · exact h
theorem St.settle_ok {s : St} (h : s.ok) : s.settle.ok := by
  obtain ⟨a, b, c, d, e⟩ := h
  have hz : (0 : Nat) < 2 ^ s.n := Nat.two_pow_pos _
  exact ⟨a, b, Nat.or_lt_two_pow c d, hz, Nat.or_lt_two_pow c d, hz⟩
theorem St.undo_ok {s : St} (h : s.ok) : s.undo.ok := by
  obtain ⟨a, b, c, d, e, f⟩ := h
  exact ⟨a, b, e, f, e, f⟩
theorem St.new_ok {n : Nat} (h1 : 1 ≤ n) (h2 : n ≤ 1024) : (St.new n).ok := by
  have hz : (0 : Nat) < 2 ^ n := Nat.two_pow_pos _
  refine ⟨h1, h2, ?_, ?_, ?_, ?_⟩ <;> simp only [St.new] <;> omega
/-- The least free page. -/
def St.low (s : St) : Option Nat := (List.range s.n).find? s.F.testBit
def St.take (s : St) : St := match s.low with | some p => s.mark p | none => s
theorem St.take_ok {s : St} (h : s.ok) : s.take.ok := by
  unfold St.take; split
  · exact St.mark_ok h _
  · exact h
theorem St.low_some {s : St} {p : Nat} (hp : p < s.n) (h1 : s.F.testBit p = true) (h2 : ∀ q, q < p → s.F.testBit q = false) : s.low = some p := by
  unfold St.low
  rw [List.find?_range_eq_some]
  exact ⟨h1, by simpa using hp, fun j hj => by simp [h2 j hj]⟩
theorem St.low_none {s : St} (h : ∀ q, q < s.n → s.F.testBit q = false) : s.low = none := by
  unfold St.low
  rw [List.find?_eq_none]
  intro x hx
  simp at hx
  simp [h x hx]
/-- The words below k hold no bit: no page below 64 k is free. -/
theorem low_words {F k : Nat} (h : ∀ i, i < k → wd F i = 0) (q : Nat) (hq : q < 64 * k) : F.testBit q = false := by
  have := wd_bit F (q / 64) (q % 64)
  rw [h (q / 64) (by omega), show 64 * (q / 64) + q % 64 = q by omega] at this
  simpa [Nat.mod_lt q (show 0 < 64 by decide)] using this.symm
theorem cnt_word (F k : Nat) : cnt F (64 * (k + 1)) = cnt F (64 * k) + cnt (wd F k) 64 := by
  rw [show 64 * (k + 1) = 64 * k + 64 by omega, cnt_add]
  congr 1
  exact cnt_congr _ _ _ fun i hi => by rw [wd_bit, Nat.testBit_div_two_pow, Nat.add_comm i]; simp [hi]
theorem cnt_above {F n m : Nat} (h : F < 2 ^ n) (hm : n ≤ m) : cnt F m = cnt F n := by
  obtain ⟨d, rfl⟩ := Nat.exists_eq_add_of_le hm
  rw [cnt_add, Nat.div_eq_of_lt h]
  have : ∀ k, cnt 0 k = 0 := by
    intro k
    induction k with
    | zero => rfl
    | succ k ih => unfold cnt; rw [ih]; simp
  rw [this]; rfl

/-- The runs of free pages below a page: first ones and lengths. -/
def bump : List (Nat × Nat) → List (Nat × Nat)
  | [] => []
  | [(a, b)] => [(a, b + 1)]
  | x :: l => x :: bump l
def runs (f : Nat → Bool) : Nat → List (Nat × Nat)
  | 0 => []
  | p + 1 => if f p then (if p ≠ 0 ∧ f (p - 1) = true then bump (runs f p) else runs f p ++ [(p, 1)]) else runs f p
def St.runs (s : St) : List (Nat × Nat) := Go.Proofs.YtmecndmoobddkaaDoor.runs s.F.testBit s.n
theorem bump_snoc (l : List (Nat × Nat)) (a b : Nat) : bump (l ++ [(a, b)]) = l ++ [(a, b + 1)] := by
  induction l with
  | nil => rfl
  | cons x l ih =>
    cases l with
    | nil => rfl
    | cons y l => simp only [List.cons_append, bump] at ih ⊢; rw [ih]
/-- A run that begins at 'from' and has come to p. -/
theorem runs_run (f : Nat → Bool) (a d : Nat) (h0 : a = 0 ∨ f (a - 1) = false) (h : ∀ q, a ≤ q → q < a + d → f q = true) : runs f (a + d) = runs f a ++ (if d = 0 then [] else [(a, d)]) := by
  induction d with
  | zero => simp
  | succ d ih =>
    have ih := ih fun q h1 h2 => h q h1 (by omega)
    rw [← Nat.add_assoc]
    show (if f (a + d) then _ else _) = _
    rw [if_pos (h (a + d) (by omega) (by omega)), ih]
    by_cases hd : d = 0
    · subst hd
      rw [if_neg (by
        rintro ⟨h1, h2⟩
        rcases h0 with h0 | h0
        · omega
        · rw [Nat.add_zero, h0] at h2; cases h2)]
      simp
    · rw [if_pos ⟨by omega, h (a + d - 1) (by omega) (by omega)⟩, if_neg hd, bump_snoc]
      simp
theorem runs_skip (f : Nat → Bool) (p : Nat) (h : f p = false) : runs f (p + 1) = runs f p := by
  show (if f p then _ else _) = _
  simp [h]
theorem bump_len (l : List (Nat × Nat)) : (bump l).length = l.length := by
  induction l with
  | nil => rfl
  | cons x l ih => cases l <;> simp_all [bump]
theorem runs_len (f : Nat → Bool) (n : Nat) : (runs f n).length ≤ n := by
  induction n with
  | zero => exact Nat.le_refl _
  | succ n ih =>
    show (if f n then _ else _ : List (Nat × Nat)).length ≤ _
    split
    · split
      · rw [bump_len]; omega
      · simp; omega
    · omega
end Go.Proofs.YtmecndmoobddkaaDoor
