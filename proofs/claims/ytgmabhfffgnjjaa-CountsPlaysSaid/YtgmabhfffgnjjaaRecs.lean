/-
  PROVED HERE: plain laws on records as bytes: a sector is what was put into it just if its sum, its beginning and its noughts are; numbers that were put are read again. Conditions: those that each theorem names; no program's text is used.
-/
import Derived.Test.YtgmabhfffgnjjaaPutKit
namespace Go.Proofs.Ytgmabhfffgnjjaa
open Go.RowKit

theorem take_of_prefix {m l : List Nat} (h : m <+: l) : l.take m.length = m := by
  obtain ⟨q, rfl⟩ := h; simp
theorem pad_of {m l : List Nat} {n : Nat} (hl : l.length = n) (ht : l.take m.length = m) (hb : bare (l.drop m.length) = true) : pad m n = l := by
  subst hl
  have hm : m.length ≤ l.length := by
    have := congrArg List.length ht
    rw [List.length_take] at this; omega
  have hd : l.drop m.length = List.replicate (l.length - m.length) 0 := by
    apply List.ext_getElem?
    intro i
    rw [List.getElem?_replicate]
    have := (bare_iff _).1 hb i
    rw [List.getD_eq_getElem?_getD] at this
    by_cases h : i < l.length - m.length
    · rw [if_pos h, List.getElem?_eq_getElem (by simpa using h)] at *
      simpa using this
    · rw [if_neg h, List.getElem?_eq_none (by simp; omega)]
  unfold pad
  rw [← hd]
  conv => rhs; rw [← List.take_append_drop m.length l, ht]
theorem pad_iff {m l : List Nat} {n : Nat} (hm : m.length ≤ n) : pad m n = l ↔ l.length = n ∧ l.take m.length = m ∧ bare (l.drop m.length) = true := by
  constructor
  · rintro rfl
    refine ⟨pad_len hm, ?_, ?_⟩
    · unfold pad; simp
    · unfold pad bare
      simp
  · rintro ⟨h1, h2, h3⟩
    exact pad_of h1 h2 h3
theorem frame_iff {m l : List Nat} (hm : m.length ≤ 252) : frame m = l ↔ l.length = 256 ∧ l.drop 252 = le4 (crc (l.take 252)) ∧ l.take m.length = m ∧ bare ((l.take 252).drop m.length) = true := by
  constructor
  · rintro rfl
    have h1 := pad_len hm
    have ht : (frame m).take 252 = pad m 252 := by unfold frame; rw [List.take_append_of_le_length (by omega), List.take_of_length_le (by omega)]
    have h3 := (pad_iff hm).1 (rfl : pad m 252 = pad m 252)
    refine ⟨frame_len hm, ?_, ?_, ?_⟩
    · rw [ht]; unfold frame; rw [List.drop_append_of_le_length (by omega), List.drop_of_length_le (by omega)]; rfl
    · have : (frame m).take m.length = ((frame m).take 252).take m.length := by rw [List.take_take, Nat.min_eq_left hm]
      rw [this, ht]; exact h3.2.1
    · rw [ht]; exact h3.2.2
  · rintro ⟨h1, h2, h3, h4⟩
    have ht : pad m 252 = l.take 252 := pad_of (by rw [List.length_take]; omega) (by rw [List.take_take, Nat.min_eq_left hm]; exact h3) h4
    unfold frame
    rw [ht, ← h2, List.take_append_drop]

/-- Numbers one behind the other, each in so many bytes. -/
def enc (fs : List (Nat × Nat)) : List Nat := fs.flatMap fun f => be f.1 f.2
def dec : List Nat → List Nat → List (Nat × Nat)
  | _, [] => []
  | l, k :: ks => (num (l.take k), k) :: dec (l.drop k) ks
theorem enc_cons (f : Nat × Nat) (fs : List (Nat × Nat)) : enc (f :: fs) = be f.1 f.2 ++ enc fs := by simp [enc]
theorem enc_append (a b : List (Nat × Nat)) : enc (a ++ b) = enc a ++ enc b := by simp [enc]
theorem enc_len (fs : List (Nat × Nat)) : (enc fs).length = (fs.map (·.2)).sum := by
  induction fs with
  | nil => rfl
  | cons f fs ih => rw [enc_cons, List.length_append, be_len, ih]; simp
theorem enc_ok (fs : List (Nat × Nat)) : BytesOk (enc fs) := by
  induction fs with
  | nil => exact BytesOk.nil
  | cons f fs ih => rw [enc_cons]; exact (BytesOk.be _ _).append ih
theorem enc_dec {l : List Nat} (h : BytesOk l) (ks : List Nat) (hs : ks.sum ≤ l.length) : enc (dec l ks) = l.take ks.sum := by
  induction ks generalizing l with
  | nil => simp [dec, enc]
  | cons k ks ih =>
    simp only [List.sum_cons] at hs ⊢
    simp only [dec]
    rw [enc_cons, ih (h.drop k) (by rw [List.length_drop]; omega)]
    have e := be_num (h.take k)
    rw [List.length_take, Nat.min_eq_left (by omega)] at e
    rw [e, List.take_add]
theorem dec_enc (fs : List (Nat × Nat)) (hf : ∀ f ∈ fs, f.1 < 256 ^ f.2) (q : List Nat) : dec (enc fs ++ q) (fs.map (·.2)) = fs := by
  induction fs with
  | nil => rfl
  | cons f fs ih =>
    rw [enc_cons, List.map_cons, List.append_assoc]
    simp only [dec]
    have hl := be_len f.1 f.2
    rw [List.take_append_of_le_length (by omega), List.take_of_length_le (by omega), num_be_of_lt (hf f (by simp)), List.drop_append_of_le_length (by omega), List.drop_of_length_le (by omega), List.nil_append, ih fun g hg => hf g (by simp [hg])]
/-- What is read as a number that is in its bounds is that number. -/
theorem numi_in {l : List Nat} (h : BytesOk l) (hl : l.length ≤ 8) {m : Int} (hm : inB (numi l) m = true) (_hm : m ≤ 9223372036854775807) : (numi l).toNat = num l ∧ numi l = (num l : Int) := by
  have h1 := num_lt h
  have h2 : 256 ^ l.length ≤ 256 ^ 8 := Nat.pow_le_pow_right (by decide) hl
  have h3 : (256 : Nat) ^ 8 = 18446744073709551616 := by decide
  have h4 := (inB_true.1 hm).1
  unfold numi wrap64 at h4 ⊢
  omega
theorem seg_take {l : List Nat} (a k n : Nat) (h : a + k ≤ n) (hl : n ≤ l.length) : seg l a k = ((l.take n).drop a).take k := by
  rw [seg_eq (by omega), List.drop_take, List.take_take, Nat.min_eq_left (by omega)]
end Go.Proofs.Ytgmabhfffgnjjaa
