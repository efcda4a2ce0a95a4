/-
  PROVED HERE: plain laws on counts of pages: what is asked of them, what they answer, what stays. Conditions: those that each theorem names; no program's text is walked.
-/
import Derived.Test.YtgmabhfffgnjjaaCountsG
namespace Go.Proofs.Ytgmabhfffgnjjaa
open Go.RowKit

/-- Counts now, and at the last Settle. -/
structure Ct where
  now : List Int
  old : List Int
def inK (l : List Int) : Prop := ∀ x ∈ l, 0 ≤ x ∧ x ≤ 1000
structure Ct.Ok (s : Ct) : Prop where
  len : s.old.length = s.now.length
  lo : 16 ≤ s.now.length
  hi : s.now.length ≤ 1024
  now : inK s.now
  old : inK s.old
theorem inK.get {l : List Int} (h : inK l) (i : Nat) : 0 ≤ l.getD i 0 ∧ l.getD i 0 ≤ 1000 := by
  rw [List.getD_eq_getElem?_getD]
  cases hi : l[i]? with
  | none => simp
  | some x => exact h x (List.mem_of_getElem? hi)
theorem inK.set {l : List Int} (h : inK l) (i : Nat) {x : Int} (hx : 0 ≤ x ∧ x ≤ 1000) : inK (l.set i x) := fun y hy => by
  rcases List.mem_or_eq_of_mem_set hy with h1 | h1
  · exact h y h1
  · subst h1; exact hx
theorem getD_set (l : List Int) (i j : Nat) (x : Int) (hi : i < l.length) : (l.set i x).getD j 0 = if j = i then x else l.getD j 0 := by
  rw [List.getD_eq_getElem?_getD, List.getD_eq_getElem?_getD, List.getElem?_set]
  by_cases h : j = i
  · subst h; rw [if_pos rfl, if_pos rfl, if_pos hi]; rfl
  · rw [if_neg h, if_neg (Ne.symm h)]
theorem getD_out (l : List Int) (i : Nat) (h : l.length ≤ i) : l.getD i 0 = 0 := by
  rw [List.getD_eq_getElem?_getD, List.getElem?_eq_none h]; rfl
theorem getD_in (l : List Int) (i : Nat) (h : i < l.length) : l.getD i 0 = l[i] := by
  rw [List.getD_eq_getElem?_getD, List.getElem?_eq_getElem h]; rfl
theorem ext_getD {l l' : List Int} (h : l.length = l'.length) (he : ∀ i, i < l.length → l.getD i 0 = l'.getD i 0) : l = l' := by
  apply List.ext_getElem h
  intro i h1 h2
  rw [← getD_in l i h1, ← getD_in l' i h2]
  exact he i h1
/-- How many pages of counts there are for n pages. -/
def manyOf (n : Nat) : Nat := (n + 119) / 120
def Ct.new (n : Nat) : Ct := ⟨List.replicate n 0, List.replicate n 0⟩
theorem Ct.new_ok {n : Nat} (h1 : 16 ≤ n) (h2 : n ≤ 1024) : (Ct.new n).Ok := by
  have : inK (List.replicate n 0) := fun x hx => by obtain rfl := List.eq_of_mem_replicate hx; decide
  exact ⟨by simp [Ct.new], by simp [Ct.new]; exact h1, by simp [Ct.new]; exact h2, this, this⟩
theorem Ct.new_len (n : Nat) : (Ct.new n).now.length = n := by simp [Ct.new]
def Ct.get (s : Ct) (p : Int) : Int := if p < 0 then 0 else s.now.getD p.toNat 0
def Ct.inR (s : Ct) (p : Int) : Bool := decide (0 ≤ p) && decide (p < s.now.length)
def Ct.fits (s : Ct) (p y : Int) : Bool := decide (0 ≤ s.get p + y) && decide (s.get p + y ≤ 1000)
def Ct.addE (s : Ct) (p y : Int) : Int := if s.inR p then if s.fits p y then 0 else 21 else 2
def Ct.add (s : Ct) (p y : Int) : Ct := if s.inR p && s.fits p y then ⟨s.now.set p.toNat (s.get p + y), s.old⟩ else s
def Ct.settle (s : Ct) : Ct := ⟨s.now, s.now⟩
def Ct.undo (s : Ct) : Ct := ⟨s.old, s.old⟩
theorem Ct.inR_true {s : Ct} {p : Int} (h : s.inR p = true) : ∃ i : Nat, p = i ∧ i < s.now.length := by
  simp only [Ct.inR, Bool.and_eq_true, decide_eq_true_eq] at h
  obtain ⟨i, rfl⟩ := Int.eq_ofNat_of_zero_le h.1
  exact ⟨i, rfl, by omega⟩
theorem Ct.inR_false {s : Ct} {p : Int} (h : s.inR p = false) : p < 0 ∨ (s.now.length : Int) ≤ p := by
  simp only [Ct.inR, Bool.and_eq_false_iff, decide_eq_false_iff_not] at h
  omega
theorem Ct.inR_of {s : Ct} {i : Nat} (h : i < s.now.length) : s.inR (i : Int) = true := by
  simp only [Ct.inR, Bool.and_eq_true, decide_eq_true_eq]; omega
theorem Ct.get_nat (s : Ct) (i : Nat) : s.get (i : Int) = s.now.getD i 0 := by
  unfold Ct.get; rw [if_neg (by omega), Int.toNat_natCast]
theorem Ct.get_no {s : Ct} {p : Int} (h : s.inR p = false) : s.get p = 0 := by
  unfold Ct.get
  rcases Ct.inR_false h with h | h
  · rw [if_pos h]
  · rw [if_neg (by omega), getD_out _ _ (by omega)]
theorem Ct.get_bd {s : Ct} (h : s.Ok) (p : Int) : 0 ≤ s.get p ∧ s.get p ≤ 1000 := by
  unfold Ct.get; split
  · decide
  · exact h.now.get _
theorem Ct.fits_true {s : Ct} {p y : Int} (h : s.fits p y = true) : 0 ≤ s.get p + y ∧ s.get p + y ≤ 1000 := by
  simpa only [Ct.fits, Bool.and_eq_true, decide_eq_true_eq] using h
theorem Ct.fits_false {s : Ct} {p y : Int} (h : s.fits p y = false) : s.get p + y < 0 ∨ 1000 < s.get p + y := by
  simp only [Ct.fits, Bool.and_eq_false_iff, decide_eq_false_iff_not] at h
  omega
theorem Ct.add_len (s : Ct) (p y : Int) : (s.add p y).now.length = s.now.length := by
  unfold Ct.add; split
  · simp
  · rfl
theorem Ct.add_ok {s : Ct} (h : s.Ok) (p y : Int) : (s.add p y).Ok := by
  unfold Ct.add; split
  · rename_i hc
    rw [Bool.and_eq_true] at hc
    exact ⟨by simp [h.len], by simp [h.lo], by simp [h.hi], h.now.set _ (Ct.fits_true hc.2), h.old⟩
  · exact h
theorem Ct.settle_ok {s : Ct} (h : s.Ok) : s.settle.Ok := ⟨rfl, h.lo, h.hi, h.now, h.now⟩
theorem Ct.undo_ok {s : Ct} (h : s.Ok) : s.undo.Ok := ⟨rfl, by rw [Ct.undo, h.len]; exact h.lo, by rw [Ct.undo, h.len]; exact h.hi, h.old, h.old⟩
theorem Ct.add_old (s : Ct) (p y : Int) : (s.add p y).old = s.old := by unfold Ct.add; split <;> rfl
/-- The counts of one page of counts. -/
def Ct.page (s : Ct) (i : Nat) : List Int := (List.range 120).map fun k => s.now.getD (120 * i + k) 0
theorem Ct.page_len (s : Ct) (i : Nat) : (s.page i).length = 120 := by simp [Ct.page]
theorem Ct.page_get (s : Ct) (i k : Nat) (h : k < 120) : (s.page i).getD k 0 = s.now.getD (120 * i + k) 0 := by
  rw [getD_in _ _ (by rw [Ct.page_len]; exact h)]; simp [Ct.page]
theorem Ct.page_in {s : Ct} (h : s.Ok) (i : Nat) : inK (s.page i) := fun x hx => by
  obtain ⟨k, _, rfl⟩ := List.mem_map.1 hx
  exact h.now.get _
theorem okCounts_in {l : List Int} (h : inK l) : okCounts l = true := okCounts_of fun _ hk => inB_true.2 (h _ (List.getElem_mem hk))
theorem inK_of_ok {l : List Int} (h : okCounts l = true) : inK l := fun x hx => inB_true.1 (List.all_eq_true.1 h x hx)
theorem Ct.page_put {s : Ct} (h : s.Ok) (i : Nat) : putCounts (s.page i) = some (countBytes (s.page i)) := by
  unfold putCounts; rw [okCounts_in (Ct.page_in h i), Ct.page_len]; rfl
theorem Ct.page_read {s : Ct} (h : s.Ok) (i : Nat) : getCounts (countBytes (s.page i)) = some (s.page i) := by
  have := getCounts_of_put (l := s.page i)
  rw [Ct.page_put h] at this
  exact this
/-- Is there such a page of counts? -/
def Ct.inM (s : Ct) (i : Int) : Bool := decide (0 ≤ i) && decide (i < manyOf s.now.length)
theorem Ct.inM_true {s : Ct} {i : Int} (h : s.inM i = true) : ∃ j : Nat, i = j ∧ j < manyOf s.now.length := by
  simp only [Ct.inM, Bool.and_eq_true, decide_eq_true_eq] at h
  obtain ⟨j, rfl⟩ := Int.eq_ofNat_of_zero_le h.1
  exact ⟨j, rfl, by omega⟩
theorem Ct.inM_false {s : Ct} {i : Int} (h : s.inM i = false) : i < 0 ∨ (manyOf s.now.length : Int) ≤ i := by
  simp only [Ct.inM, Bool.and_eq_false_iff, decide_eq_false_iff_not] at h
  omega
theorem Ct.inM_of {s : Ct} {j : Nat} (h : j < manyOf s.now.length) : s.inM (j : Int) = true := by
  simp only [Ct.inM, Bool.and_eq_true, decide_eq_true_eq]; omega
def Ct.body (s : Ct) (i : Int) : List Nat := if s.inM i then countBytes (s.page i.toNat) else []
/-- One count of a page of counts is taken. -/
def Ct.put1 (s : Ct) (i : Nat) (l : List Int) (k : Nat) : Ct := if 120 * i + k < s.now.length then ⟨s.now.set (120 * i + k) (l.getD k 0), s.old.set (120 * i + k) (l.getD k 0)⟩ else s
def Ct.put (s : Ct) (i : Nat) (l : List Int) : Nat → Ct
  | 0 => s
  | k + 1 => (s.put i l k).put1 i l k
theorem Ct.put1_len (s : Ct) (i : Nat) (l : List Int) (k : Nat) : (s.put1 i l k).now.length = s.now.length := by unfold Ct.put1; split <;> simp
theorem Ct.put_len (s : Ct) (i : Nat) (l : List Int) : ∀ k, (s.put i l k).now.length = s.now.length
  | 0 => rfl
  | k + 1 => by rw [Ct.put, Ct.put1_len, Ct.put_len s i l k]
theorem Ct.put1_ok {s : Ct} (h : s.Ok) (i : Nat) {l : List Int} (hl : inK l) (k : Nat) : (s.put1 i l k).Ok := by
  unfold Ct.put1; split
  · exact ⟨by simp [h.len], by simp [h.lo], by simp [h.hi], h.now.set _ (hl.get k), h.old.set _ (hl.get k)⟩
  · exact h
theorem Ct.put_ok {s : Ct} (h : s.Ok) (i : Nat) {l : List Int} (hl : inK l) : ∀ k, (s.put i l k).Ok
  | 0 => h
  | k + 1 => Ct.put1_ok (Ct.put_ok h i hl k) i hl k
theorem Ct.put_more (s : Ct) (i : Nat) (l : List Int) {k : Nat} (hk : s.now.length ≤ 120 * i + k) : ∀ m, s.put i l (k + m) = s.put i l k
  | 0 => rfl
  | m + 1 => by
    show (s.put i l (k + m)).put1 i l (k + m) = _
    rw [Ct.put_more s i l hk m]
    unfold Ct.put1
    rw [if_neg (by rw [Ct.put_len]; omega)]
theorem Ct.put_all (s : Ct) (i : Nat) (l : List Int) {k : Nat} (hk : s.now.length ≤ 120 * i + k) (h : k ≤ 120) : s.put i l 120 = s.put i l k := by
  have := Ct.put_more s i l hk (120 - k)
  rwa [show k + (120 - k) = 120 by omega] at this
/-- The whole page of counts. -/
def Ct.full (s : Ct) (i : Nat) (l : List Int) : Ct := s.put i l 120
theorem Ct.full_eq (s : Ct) (i : Nat) (l : List Int) {k : Nat} (hk : k = 120) : s.put i l k = s.full i l := by subst hk; rfl
theorem Ct.full_of (s : Ct) (i : Nat) (l : List Int) {k : Nat} (hk : s.now.length ≤ 120 * i + k) (h : k ≤ 120) : s.put i l k = s.full i l := (Ct.put_all s i l hk h).symm
theorem Ct.full_len (s : Ct) (i : Nat) (l : List Int) : (s.full i l).now.length = s.now.length := Ct.put_len s i l 120
theorem Ct.full_ok {s : Ct} (h : s.Ok) (i : Nat) {l : List Int} (hl : inK l) : (s.full i l).Ok := Ct.put_ok h i hl 120
theorem Ct.put_get {s : Ct} (h : s.Ok) (i : Nat) (l : List Int) (q : Nat) : ∀ k, k ≤ 120 → (s.put i l k).now.getD q 0 = (if 120 * i ≤ q ∧ q < 120 * i + k ∧ q < s.now.length then l.getD (q - 120 * i) 0 else s.now.getD q 0) ∧
    (s.put i l k).old.getD q 0 = (if 120 * i ≤ q ∧ q < 120 * i + k ∧ q < s.now.length then l.getD (q - 120 * i) 0 else s.old.getD q 0) ∧ (s.put i l k).old.length = s.now.length
  | 0, _ => by
    rw [if_neg (by omega), if_neg (by omega)]
    exact ⟨rfl, rfl, h.len⟩
  | k + 1, hk => by
    obtain ⟨h1, h2, h3⟩ := Ct.put_get h i l q k (by omega)
    show ((s.put i l k).put1 i l k).now.getD q 0 = _ ∧ ((s.put i l k).put1 i l k).old.getD q 0 = _ ∧ ((s.put i l k).put1 i l k).old.length = _
    unfold Ct.put1
    rw [Ct.put_len]
    by_cases hlt : 120 * i + k < s.now.length
    · rw [if_pos hlt]
      refine ⟨?_, ?_, by simp [h3]⟩
      · show ((s.put i l k).now.set _ _).getD q 0 = _
        rw [getD_set _ _ _ _ (by rw [Ct.put_len]; exact hlt), h1]
        by_cases e : q = 120 * i + k
        · rw [if_pos e, if_pos (by omega), show q - 120 * i = k by omega]
        · rw [if_neg e]
          by_cases e2 : 120 * i ≤ q ∧ q < 120 * i + k ∧ q < s.now.length
          · rw [if_pos e2, if_pos (by omega)]
          · rw [if_neg e2, if_neg (by omega)]
      · show ((s.put i l k).old.set _ _).getD q 0 = _
        rw [getD_set _ _ _ _ (by rw [h3]; exact hlt), h2]
        by_cases e : q = 120 * i + k
        · rw [if_pos e, if_pos (by omega), show q - 120 * i = k by omega]
        · rw [if_neg e]
          by_cases e2 : 120 * i ≤ q ∧ q < 120 * i + k ∧ q < s.now.length
          · rw [if_pos e2, if_pos (by omega)]
          · rw [if_neg e2, if_neg (by omega)]
    · rw [if_neg hlt]
      refine ⟨h1.trans ?_, h2.trans ?_, h3⟩
      all_goals
        by_cases e2 : 120 * i ≤ q ∧ q < 120 * i + k ∧ q < s.now.length
        · rw [if_pos e2, if_pos (by omega)]
        · rw [if_neg e2, if_neg (by omega)]
theorem Ct.full_get {s : Ct} (h : s.Ok) (i : Nat) (l : List Int) (q : Nat) : (s.full i l).now.getD q 0 = (if 120 * i ≤ q ∧ q < 120 * i + 120 ∧ q < s.now.length then l.getD (q - 120 * i) 0 else s.now.getD q 0) ∧
    (s.full i l).old.getD q 0 = (if 120 * i ≤ q ∧ q < 120 * i + 120 ∧ q < s.now.length then l.getD (q - 120 * i) 0 else s.old.getD q 0) := by
  obtain ⟨h1, h2, _⟩ := Ct.put_get h i l q 120 (Nat.le_refl _)
  exact ⟨h1, h2⟩
/-- Is there room for all that is above nought? -/
def Ct.room1 (s : Ct) (i : Nat) (l : List Int) (k : Nat) : Bool := decide (l.getD k 0 ≤ 0) || decide (120 * i + k < s.now.length)
def Ct.room (s : Ct) (i : Nat) (l : List Int) : Bool := (List.range 120).all (s.room1 i l)
theorem Ct.room_not {s : Ct} {i : Nat} {l : List Int} {k : Nat} (hk : k < 120) (h : s.room1 i l k = false) : s.room i l = false := by
  unfold Ct.room; rw [List.all_eq_false]; exact ⟨k, List.mem_range.2 hk, by rw [h]; decide⟩
theorem Ct.room_of {s : Ct} {i : Nat} {l : List Int} (h : ∀ k, k < 120 → s.room1 i l k = true) : s.room i l = true := by
  unfold Ct.room; rw [List.all_eq_true]; exact fun k hk => h k (List.mem_range.1 hk)
def Ct.load (s : Ct) (i : Int) (b : List Nat) : Int × Ct :=
  if s.inM i then match getCounts b with
    | none => (14, s)
    | some l => if s.room i.toNat l then (0, s.full i.toNat l) else (14, s)
  else (2, s)
theorem getCounts_in {b : List Nat} {l : List Int} (h : getCounts b = some l) : l.length = 120 ∧ inK l := by
  unfold getCounts at h
  split at h
  · rename_i hc
    rw [Bool.and_eq_true] at hc
    obtain rfl := Option.some.inj h
    exact ⟨countsOf_len b, inK_of_ok hc.2⟩
  · cases h
theorem Ct.load_len (s : Ct) (i : Int) (b : List Nat) : (s.load i b).2.now.length = s.now.length := by
  unfold Ct.load; split
  · split
    · rfl
    · split
      · dsimp only; exact Ct.full_len _ _ _
      · rfl
  · rfl
theorem Ct.load_ok {s : Ct} (h : s.Ok) (i : Int) (b : List Nat) : (s.load i b).2.Ok := by
  unfold Ct.load; split
  · split
    · exact h
    · rename_i l hl
      split
      · dsimp only; exact Ct.full_ok h _ (getCounts_in hl).2
      · exact h
  · exact h
/-- Has a page of counts been touched? -/
def Ct.dirty1 (s : Ct) (i k : Nat) : Bool := decide (120 * i + k < s.now.length) && !decide (s.now.getD (120 * i + k) 0 = s.old.getD (120 * i + k) 0)
def Ct.dirty (s : Ct) (i : Nat) : Bool := (List.range 120).any (s.dirty1 i)
def Ct.touched (s : Ct) : List Nat := (List.range (manyOf s.now.length)).filter s.dirty
theorem Ct.dirty_iff {s : Ct} {i : Nat} : s.dirty i = true ↔ ∃ p, p < s.now.length ∧ p / 120 = i ∧ s.now.getD p 0 ≠ s.old.getD p 0 := by
  unfold Ct.dirty
  rw [List.any_eq_true]
  constructor
  · rintro ⟨k, hk, h⟩
    rw [List.mem_range] at hk
    simp only [Ct.dirty1, Bool.and_eq_true, decide_eq_true_eq, Bool.not_eq_true', decide_eq_false_iff_not] at h
    exact ⟨120 * i + k, h.1, by omega, h.2⟩
  · rintro ⟨p, hp, rfl, hne⟩
    refine ⟨p % 120, List.mem_range.2 (Nat.mod_lt _ (by decide)), ?_⟩
    simp only [Ct.dirty1, Bool.and_eq_true, decide_eq_true_eq, Bool.not_eq_true', decide_eq_false_iff_not]
    rw [Nat.div_add_mod]
    exact ⟨hp, hne⟩
theorem Ct.mem_touched {s : Ct} {i : Nat} : i ∈ s.touched ↔ ∃ p, p < s.now.length ∧ p / 120 = i ∧ s.now.getD p 0 ≠ s.old.getD p 0 := by
  unfold Ct.touched
  rw [List.mem_filter, List.mem_range, Ct.dirty_iff]
  constructor
  · exact fun h => h.2
  · rintro ⟨p, h1, h2, h3⟩
    exact ⟨by unfold manyOf; omega, p, h1, h2, h3⟩
theorem Ct.touched_sorted (s : Ct) : s.touched.Pairwise (· < ·) := List.Pairwise.filter _ List.pairwise_lt_range
theorem Ct.touched_len {s : Ct} (h : s.Ok) : s.touched.length ≤ 9 := by
  have h1 : s.touched.length ≤ (List.range (manyOf s.now.length)).length := List.length_filter_le _ _
  rw [List.length_range] at h1
  have := h.hi
  unfold manyOf at h1
  omega
theorem Ct.touched_none {s : Ct} (h : s.now = s.old) : s.touched = [] := by
  apply List.eq_nil_iff_forall_not_mem.2
  intro i hi
  obtain ⟨p, _, _, hne⟩ := Ct.mem_touched.1 hi
  exact hne (by rw [h])
/-- A deed that is asked of counts. -/
structure Deed where
  k : Int
  p : Int
  y : Int
  body : List Nat
def kindOf (c n : Int) : Int := (if c < 0 then -(c + 1) else c) % n
theorem kindOf_bd (c : Int) {n : Int} (hn : 0 < n) : 0 ≤ kindOf c n ∧ kindOf c n < n := ⟨Int.emod_nonneg _ (by omega), Int.emod_lt_of_pos _ hn⟩
def Ct.step (s : Ct) (x : Deed) : Ct :=
  if kindOf x.k 6 = 0 then s.add x.p x.y else if kindOf x.k 6 = 1 then (s.load x.p x.body).2 else if kindOf x.k 6 = 2 then s.settle else if kindOf x.k 6 = 3 then s.undo else s
theorem Ct.step_ok {s : Ct} (h : s.Ok) (x : Deed) : (s.step x).Ok := by
  unfold Ct.step
  split
  · exact Ct.add_ok h _ _
  · split
    · exact Ct.load_ok h _ _
    · split
      · exact Ct.settle_ok h
      · split
        · exact Ct.undo_ok h
        · exact h
theorem Ct.step_len {s : Ct} (h : s.Ok) (x : Deed) : (s.step x).now.length = s.now.length := by
  unfold Ct.step
  split
  · exact Ct.add_len _ _ _
  · split
    · exact Ct.load_len _ _ _
    · split
      · rfl
      · split
        · exact h.len
        · rfl
/-- Changes alone. -/
def Ct.adds (s : Ct) (l : List Deed) : Ct := l.foldl (fun s x => s.add x.p x.y) s
theorem Ct.adds_snoc (s : Ct) (l : List Deed) (k : Nat) (h : k < l.length) : s.adds (l.take (k + 1)) = (s.adds (l.take k)).add l[k].p l[k].y := by
  unfold Ct.adds
  rw [List.take_succ_eq_append_getElem h, List.foldl_append]
  rfl
theorem Ct.adds_ok {s : Ct} (h : s.Ok) (l : List Deed) : (s.adds l).Ok := by
  unfold Ct.adds
  induction l generalizing s with
  | nil => exact h
  | cons x r ih => exact ih (Ct.add_ok h _ _)
theorem Ct.adds_len (s : Ct) (l : List Deed) : (s.adds l).now.length = s.now.length := by
  unfold Ct.adds
  induction l generalizing s with
  | nil => rfl
  | cons x r ih => exact (ih _).trans (Ct.add_len _ _ _)
/-- A change changes one count alone, by so much, or none. -/
theorem Ct.add_get {s : Ct} (p y : Int) (q : Nat) : (s.add p y).now.getD q 0 = if (q : Int) = p ∧ s.inR p = true ∧ s.fits p y = true then s.now.getD q 0 + y else s.now.getD q 0 := by
  unfold Ct.add
  by_cases hc : s.inR p = true ∧ s.fits p y = true
  · obtain ⟨i, rfl, hi⟩ := Ct.inR_true hc.1
    rw [if_pos (by rw [hc.1, hc.2]; rfl)]
    show (s.now.set _ _).getD q 0 = _
    rw [Int.toNat_natCast, getD_set _ _ _ _ hi, Ct.get_nat]
    by_cases e : q = i
    · subst e; rw [if_pos rfl, if_pos ⟨rfl, hc⟩]
    · rw [if_neg e, if_neg (fun h => e (by omega))]
  · rw [if_neg (by rw [Bool.and_eq_true]; exact hc), if_neg (fun h => hc h.2)]
/-- What was told is taken: both are the same up to there. -/
structure Told (a b : Ct) (i : Nat) : Prop where
  ok : b.Ok
  len : b.now.length = a.now.length
  now : ∀ q, b.now.getD q 0 = if q < 120 * i then a.now.getD q 0 else 0
  old : ∀ q, b.old.getD q 0 = if q < 120 * i then a.now.getD q 0 else 0
theorem Told.start {a : Ct} (h : a.Ok) : Told a (Ct.new a.now.length) 0 :=
  ⟨Ct.new_ok h.lo h.hi, Ct.new_len _, fun q => by rw [if_neg (by omega)]; simp [Ct.new, List.getD_eq_getElem?_getD, List.getElem?_replicate]; split <;> rfl, fun q => by rw [if_neg (by omega)]; simp [Ct.new, List.getD_eq_getElem?_getD, List.getElem?_replicate]; split <;> rfl⟩
theorem Told.room {a b : Ct} {i : Nat} (h : Told a b i) : b.room i (a.page i) = true := Ct.room_of fun k hk => by
  unfold Ct.room1
  rw [Ct.page_get _ _ _ hk, h.len]
  by_cases hlt : 120 * i + k < a.now.length
  · rw [decide_eq_true hlt, Bool.or_true]
  · rw [getD_out _ _ (by omega)]; rfl
theorem Told.load {a b : Ct} {i : Nat} (ha : a.Ok) (h : Told a b i) (hi : i < manyOf a.now.length) : b.load (i : Int) (countBytes (a.page i)) = (0, b.full i (a.page i)) := by
  unfold Ct.load
  rw [if_pos (Ct.inM_of (by rw [h.len]; exact hi)), Ct.page_read ha, Int.toNat_natCast]
  show (if b.room i (a.page i) = true then _ else _) = _
  rw [if_pos h.room]
theorem Told.step {a b : Ct} {i : Nat} (ha : a.Ok) (h : Told a b i) : Told a (b.full i (a.page i)) (i + 1) := by
  have hp := fun q => Ct.full_get h.ok i (a.page i) q
  have hx : ∀ q (z : Int), (z = if q < 120 * i then a.now.getD q 0 else 0) → (if 120 * i ≤ q ∧ q < 120 * i + 120 ∧ q < b.now.length then (a.page i).getD (q - 120 * i) 0 else z) = if q < 120 * (i + 1) then a.now.getD q 0 else 0 := fun q z hz => by
    by_cases h1 : 120 * i ≤ q ∧ q < 120 * i + 120
    · rw [if_pos (show q < 120 * (i + 1) by omega)]
      by_cases h2 : q < b.now.length
      · rw [if_pos ⟨h1.1, h1.2, h2⟩, Ct.page_get _ _ _ (by omega), show 120 * i + (q - 120 * i) = q by omega]
      · rw [if_neg (fun e => h2 e.2.2), hz, if_neg (by omega), getD_out _ _ (by rw [← h.len]; omega)]
    · rw [if_neg (fun e => h1 ⟨e.1, e.2.1⟩), hz]
      by_cases h2 : q < 120 * i
      · rw [if_pos h2, if_pos (by omega)]
      · rw [if_neg h2, if_neg (by omega)]
  exact ⟨Ct.full_ok h.ok i (Ct.page_in ha i), (Ct.full_len _ _ _).trans h.len, fun q => (hp q).1.trans (hx q _ (h.now q)), fun q => (hp q).2.trans (hx q _ (h.old q))⟩
theorem Told.body {a b : Ct} {i : Nat} (h : Told a b (i + 1)) : b.page i = a.page i := by
  unfold Ct.page
  refine List.map_congr_left fun k hk => ?_
  rw [h.now, if_pos (by have := List.mem_range.1 hk; omega)]
theorem Told.done {a b : Ct} (h : Told a b (manyOf a.now.length)) : b = ⟨a.now, a.now⟩ := by
  have h1 : b.now = a.now := ext_getD h.len fun i hi => by rw [h.now, if_pos (by rw [h.len] at hi; unfold manyOf; omega)]
  have h2 : b.old = a.now := ext_getD (h.ok.len.trans h.len) fun i hi => by rw [h.old, if_pos (by rw [h.ok.len, h.len] at hi; unfold manyOf; omega)]
  obtain ⟨n, o⟩ := b
  simp only at h1 h2
  rw [h1, h2]
end Go.Proofs.Ytgmabhfffgnjjaa
