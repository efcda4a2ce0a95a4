/-
  PROVED HERE: the function 'known' of the statements on package alloc returns true; plain facts on an allocator that is filled and emptied. Conditions: the table of math/bits lies as its text lays it.
-/
import Derived.Test.YtmecndmoobddkaaDoorAllocD
namespace Go.Proofs.YtmecndmoobddkaaDoor
open Go.RowKit

theorem Tab.upd {w w' : World} {S : List Nat} (h : Tab w) (u : Upd S w w') (hs : 0 ∉ S) : Tab w' := fun j hj => by
  have h1 := h j hj
  rw [← h1]
  exact World.cell?_of_block (w := w) (u.block _ (World.block_lt_of_cell? _ _ h1) hs)
theorem Tab.lt {w : World} (h : Tab w) : 0 < w.heap.size := World.block_lt_of_cell? _ _ (h 0 (by decide))
theorem Upd.into {b : Nat} {w w1 w2 : World} (h : Upd [] w w1) (k : Upd [b] w1 w2) (hb : w.heap.size ≤ b) : Upd [] w w2 :=
  h.step k fun x hx => .inr (by rw [List.mem_singleton] at hx; omega)
set_option maxHeartbeats 800000 in
theorem known_any {w : World} (hT : Tab w) : Calls Tryd.prog 8 #[] w fun e w' => e = .returned (.bool true) ∧ Upd [] w w' := by
  have HT := Lib.hid hT
  have hlt := hT.lt
  have HB : Hid (w.heap.size ≠ 0) := by intro h; omega
  clear hT
  go_enter Tryd.func8, Tryd.ntmps8
  go_wp2_with fail
  refine (new_yes (n := 5) (by decide) (by decide)).mono ?_
  rintro e w1 ⟨rfl, h1, u1⟩
  have H1 := Lib.hid h1
  have U1 := Lib.hid u1
  generalize hb : w.heap.size = b at *
  have HBE := Lib.hid hb
  have HT1 := Lib.hid (HT.out.upd u1 (by simp))
  clear h1 u1 hb
  go_wp2_with fail
  refine (take_any H1.out HT1.out).mono ?_
  rintro e w2 ⟨rfl, h2, u2⟩
  have H2 := Lib.hid h2
  have U2 := Lib.hid (U1.out.into u2 (Nat.le_of_eq HBE.out))
  have HT2 := Lib.hid (HT1.out.upd u2 (by simp; exact Ne.symm HB.out))
  clear h2 u2
  rw [show (St.new 5).low = some 0 by decide]
  go_wp2_with fail
  refine (take_any H2.out HT2.out).mono ?_
  rintro e w3 ⟨rfl, h3, u3⟩
  have H3 := Lib.hid h3
  have U3 := Lib.hid (U2.out.into u3 (Nat.le_of_eq HBE.out))
  clear h3 u3
  rw [show (St.new 5).take.low = some 1 by decide]
  go_wp2_with fail
  refine (mark_any (p := 3) H3.out).mono ?_
  rintro e w4 ⟨rfl, h4, u4⟩
  have H4 := Lib.hid h4
  have U4 := Lib.hid (U3.out.into u4 (Nat.le_of_eq HBE.out))
  clear h4 u4
  rw [show (St.new 5).take.take.isFree 3 = true by decide]
  go_wp2_with fail
  refine (free_any H4.out).mono ?_
  rintro e w5 ⟨rfl, rfl⟩
  rw [show ((St.new 5).take.take.mark 3).free = 2 by decide]
  go_wp2_with fail
  refine (isFree_any (p := 4) H4.out).mono ?_
  rintro e w6 ⟨rfl, rfl⟩
  rw [show ((St.new 5).take.take.mark 3).isFree 4 = true by decide]
  go_wp2_with fail
  refine (isFree_any (p := 3) H4.out).mono ?_
  rintro e w7 ⟨rfl, rfl⟩
  rw [show ((St.new 5).take.take.mark 3).isFree 3 = false by decide]
  go_wp2
  go_ret
  exact ⟨rfl, U4.out⟩

/-- The pages from i on, below n. -/
def seg (i n : Nat) : Nat := (2 ^ n - 1) ^^^ (2 ^ i - 1)
theorem seg_bit {i n : Nat} (h : i ≤ n) (j : Nat) : (seg i n).testBit j = decide (i ≤ j ∧ j < n) := by
  unfold seg
  rw [Nat.testBit_xor, Nat.testBit_two_pow_sub_one, Nat.testBit_two_pow_sub_one]
  by_cases h1 : j < i
  · simp [h1, show j < n by omega]
  · by_cases h2 : j < n
    · simp [h1, h2, show i ≤ j by omega]
    · simp [h1, h2]
theorem cnt_seg {i n : Nat} (h : i ≤ n) (k : Nat) (hk : k ≤ n) : cnt (seg i n) k = k - i := by
  induction k with
  | zero => simp [cnt]
  | succ k ih =>
    unfold cnt
    rw [ih (by omega), seg_bit h]
    by_cases h1 : i ≤ k
    · rw [if_pos (by simp; omega)]; omega
    · rw [if_neg (by simp; omega)]; omega
def St.filled (n i : Nat) : St := { n, F := seg i n, D := 0, SF := 2 ^ n - 1, SD := 0 }
theorem St.filled_zero (n : Nat) : St.filled n 0 = St.new n := by simp [St.filled, St.new, seg]
theorem St.filled_low {n i : Nat} (h : i < n) : (St.filled n i).low = some i :=
  St.low_some (show i < n from h) (by show (seg i n).testBit i = true; rw [seg_bit (by omega)]; simp; omega) fun q hq => by show (seg i n).testBit q = false; rw [seg_bit (by omega)]; simp; omega
theorem St.filled_take {n i : Nat} (h : i < n) : (St.filled n i).take = St.filled n (i + 1) := by
  have hf : (St.filled n i).isFree (i : Int) = true := by
    simp only [St.isFree, St.there, St.filled, Int.toNat_natCast, seg_bit (Nat.le_of_lt h)]; simp; omega
  have hc : clr (seg i n) i = seg (i + 1) n := by
    apply Nat.eq_of_testBit_eq
    intro j
    rw [clr_bit, seg_bit (by omega), seg_bit (by omega)]
    rw [Bool.eq_iff_iff]
    simp only [Bool.and_eq_true, Bool.not_eq_true', decide_eq_true_eq, decide_eq_false_iff_not]
    omega
  simp only [St.take, St.filled_low h, St.mark, hf, if_true]
  simp only [St.filled, Int.toNat_natCast, hc]
theorem St.filled_free {n i : Nat} (h : i ≤ n) : (St.filled n i).free = n - i := cnt_seg h n (Nat.le_refl _)
theorem seg_end (n : Nat) : seg n n = 0 := Nat.xor_self _
theorem St.filled_end (n : Nat) : (St.filled n n).low = none := St.low_none fun q _ => by show (seg n n).testBit q = false; rw [seg_end]; simp
theorem runs_none (f : Nat → Bool) (n : Nat) (h : ∀ q, q < n → f q = false) : runs f n = [] := by
  induction n with
  | zero => rfl
  | succ n ih => rw [runs_skip _ _ (h n (by omega))]; exact ih fun q hq => h q (by omega)
theorem St.filled_runs (n : Nat) : (St.filled n n).runs = [] := runs_none _ _ fun q _ => by show (seg n n).testBit q = false; rw [seg_end]; simp
theorem St.filled_end_take (n : Nat) : (St.filled n n).take = St.filled n n := by rw [St.take, St.filled_end]
/-- Dropped one by one, from page k on, round about. -/
def ring (n k : Nat) : Nat → Nat
  | 0 => 0
  | j + 1 => put (ring n k j) ((k + j) % n)
theorem ring_bit (n k j q : Nat) : (ring n k j).testBit q = true ↔ ∃ i, i < j ∧ (k + i) % n = q := by
  induction j with
  | zero => simp [ring]
  | succ j ih =>
    unfold ring
    rw [put_bit, Bool.or_eq_true, ih, decide_eq_true_eq]
    constructor
    · rintro (⟨i, hi, e⟩ | e)
      · exact ⟨i, by omega, e⟩
      · exact ⟨j, by omega, e⟩
    · rintro ⟨i, hi, e⟩
      by_cases h : i = j
      · subst h; exact .inr e
      · exact .inl ⟨i, by omega, e⟩
theorem mod_inj {n k i j : Nat} (hi : i < j) (hj : j < n) (h : (k + i) % n = (k + j) % n) : False := by
  have h1 := Nat.div_add_mod (k + i) n
  have h2 := Nat.div_add_mod (k + j) n
  have h3 : n * ((k + j) / n) = n * ((k + i) / n) + (j - i) := by omega
  have h4 : (k + i) / n < (k + j) / n := by
    rcases Nat.lt_or_ge ((k + i) / n) ((k + j) / n) with h5 | h5
    · exact h5
    · have := Nat.mul_le_mul_left n h5; omega
  have := Nat.mul_le_mul_left n h4
  rw [Nat.mul_succ] at this
  omega
theorem ring_next {n k j : Nat} (hj : j < n) : (ring n k j).testBit ((k + j) % n) = false := by
  rw [Bool.eq_false_iff]
  intro h
  obtain ⟨i, hi, e⟩ := (ring_bit n k j _).1 h
  exact mod_inj hi hj e
theorem ring_all {n k : Nat} (hn : 0 < n) (hk : k < n) : ring n k n = 2 ^ n - 1 := by
  apply Nat.eq_of_testBit_eq
  intro q
  rw [Nat.testBit_two_pow_sub_one]
  by_cases hq : q < n
  · rw [decide_eq_true hq, ring_bit]
    by_cases h : k ≤ q
    · exact ⟨q - k, by omega, by rw [show k + (q - k) = q by omega]; exact Nat.mod_eq_of_lt hq⟩
    · exact ⟨q + n - k, by omega, by rw [show k + (q + n - k) = q + n by omega, Nat.add_mod_right]; exact Nat.mod_eq_of_lt hq⟩
  · rw [decide_eq_false hq, Bool.eq_false_iff]
    intro h
    obtain ⟨i, _, e⟩ := (ring_bit n k n q).1 h
    have := Nat.mod_lt (k + i) hn
    omega
def St.ringed (n k j : Nat) : St := { n, F := 0, D := ring n k j, SF := 2 ^ n - 1, SD := 0 }
theorem St.ringed_zero (n k : Nat) : St.ringed n k 0 = St.filled n n := by simp [St.ringed, St.filled, ring, seg_end]
theorem St.ringed_can {n k j : Nat} (hj : j < n) : (St.ringed n k j).canDrop (((k + j) % n : Nat) : Int) = true := by
  have hm := Nat.mod_lt (k + j) (show 0 < n by omega)
  have := ring_next (k := k) hj
  simp only [St.canDrop, St.there, St.ringed, Int.toNat_natCast, this, Nat.zero_testBit, Bool.not_false, Bool.and_true]
  exact decide_eq_true ⟨Int.natCast_nonneg _, Int.ofNat_lt.2 hm⟩
theorem St.ringed_drop {n k j : Nat} (hj : j < n) : (St.ringed n k j).drop (((k + j) % n : Nat) : Int) = St.ringed n k (j + 1) := by
  simp only [St.drop, St.ringed_can hj, if_true]
  simp only [St.ringed, Int.toNat_natCast]
  rfl
theorem St.ringed_free (n k j : Nat) : (St.ringed n k j).free = 0 := by
  have : ∀ m, cnt 0 m = 0 := by
    intro m
    induction m with
    | zero => rfl
    | succ m ih => unfold cnt; rw [ih]; simp
  exact this n
theorem St.ringed_settle {n k : Nat} (hn : 0 < n) (hk : k < n) : (St.ringed n k n).settle = St.new n := by
  simp [St.settle, St.ringed, St.new, ring_all hn hk]
theorem St.new_free (n : Nat) : (St.new n).free = n := by
  have := St.filled_free (Nat.zero_le n)
  rw [St.filled_zero] at this; omega
theorem St.new_runs {n : Nat} (hn : 0 < n) : (St.new n).runs = [(0, n)] := by
  have := runs_run (St.new n).F.testBit 0 n (.inl rfl) (fun q _ hq => by
    show (2 ^ n - 1).testBit q = true
    rw [Nat.testBit_two_pow_sub_one]; simp; omega)
  rw [Nat.zero_add, if_neg (by omega)] at this
  exact this
end Go.Proofs.YtmecndmoobddkaaDoor
