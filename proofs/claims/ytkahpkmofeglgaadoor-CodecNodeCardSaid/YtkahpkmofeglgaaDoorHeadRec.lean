/-
  PROVED HERE: plain laws on a record's head as bytes. Conditions: those that each theorem names; no program's text is used.
-/
import Derived.Test.YtkahpkmofeglgaaDoorImageRec
namespace Go.Proofs.YtkahpkmofeglgaaDoor
open Go.RowKit

/-- A record's head: epoch, number, sum, pages. -/
structure Hd where
  epoch : Int
  seq : Int
  sum : Nat
  pages : List Int
deriving DecidableEq
def okPages (l : List Int) : Bool := l.all (inB · 1023)
def okHead0 (h : Hd) : Bool := inB h.epoch 1099511627776 && (inB h.seq 1099511627776 && decide (1 ≤ h.pages.length ∧ h.pages.length ≤ 40))
def okHead (h : Hd) : Bool := okHead0 h && okPages h.pages
def pageNums (l : List Int) : List Nat := l.flatMap fun p => be p.toNat 4
def headHead (h : Hd) : List Nat := [80, 76, 79, 71] ++ be h.epoch.toNat 8 ++ be h.seq.toNat 8 ++ be h.sum 4 ++ be h.pages.length 2
def headBytes (h : Hd) : List Nat := headHead h ++ pageNums h.pages
def putHead (h : Hd) : Option (List Nat) := if okHead h then some (frame (headBytes h)) else none
theorem pageNums_len (l : List Int) : (pageNums l).length = 4 * l.length := by
  unfold pageNums
  rw [List.length_flatMap]
  simp only [be_len]
  induction l with
  | nil => rfl
  | cons a l ih => simp at ih ⊢; omega
theorem pageNums_take (l : List Int) (k : Nat) (hk : k < l.length) : pageNums (l.take (k + 1)) = pageNums (l.take k) ++ be l[k].toNat 4 := by
  unfold pageNums
  rw [List.take_succ_eq_append_getElem hk, List.flatMap_append]
  simp
theorem pageNums_ok (l : List Int) : BytesOk (pageNums l) := fun x hx => by
  obtain ⟨n, _, hn⟩ := List.mem_flatMap.1 hx
  exact be_lt _ _ x hn
theorem headHead_len (h : Hd) : (headHead h).length = 26 := by
  unfold headHead
  simp only [List.length_append, be_len, List.length_cons, List.length_nil]
theorem headBytes_len (h : Hd) : (headBytes h).length = 26 + 4 * h.pages.length := by
  unfold headBytes
  rw [List.length_append, headHead_len, pageNums_len]
theorem headBytes_ok (h : Hd) : BytesOk (headBytes h) := by
  unfold headBytes headHead
  refine BytesOk.append (BytesOk.append (BytesOk.append (BytesOk.append (BytesOk.append ?_ (BytesOk.be _ _)) (BytesOk.be _ _)) (BytesOk.be _ _)) (BytesOk.be _ _)) (pageNums_ok _)
  intro x hx; simp at hx; omega
theorem okPages_not {l : List Int} {k : Nat} (hk : k < l.length) (h : inB l[k] 1023 = false) : okPages l = false := by
  unfold okPages
  rw [List.all_eq_false]
  exact ⟨l[k], List.getElem_mem hk, by rw [h]; decide⟩
theorem okPages_of {l : List Int} (h : ∀ k (hk : k < l.length), inB l[k] 1023 = true) : okPages l = true := by
  unfold okPages
  rw [List.all_eq_true]
  intro x hx
  obtain ⟨k, hk, rfl⟩ := List.mem_iff_getElem.1 hx
  exact h k hk
theorem okHead0_parts {h : Hd} (ho : okHead0 h = true) : inB h.epoch 1099511627776 = true ∧ inB h.seq 1099511627776 = true ∧ 1 ≤ h.pages.length ∧ h.pages.length ≤ 40 := by
  unfold okHead0 at ho
  simp only [Bool.and_eq_true, decide_eq_true_eq] at ho
  exact ⟨ho.1, ho.2.1, ho.2.2.1, ho.2.2.2⟩
theorem putHead_not0 {h : Hd} (h0 : okHead0 h = false) : putHead h = none := by unfold putHead okHead; rw [h0, Bool.false_and]; simp
theorem putHead_notp {h : Hd} (h0 : okPages h.pages = false) : putHead h = none := by unfold putHead okHead; rw [h0, Bool.and_false]; simp
theorem putHead_some {h : Hd} (h0 : okHead0 h = true) (h1 : okPages h.pages = true) : putHead h = some (frame (headBytes h)) := by unfold putHead okHead; rw [h0, h1]; simp
/-- The pages that are read from place 26 on. -/
def pagesOf (l : List Nat) (n : Nat) : List Int := (List.range n).map fun k => numi (seg l (26 + 4 * k) 4)
theorem pagesOf_len (l : List Nat) (n : Nat) : (pagesOf l n).length = n := by unfold pagesOf; rw [List.length_map, List.length_range]
theorem pagesOf_get (l : List Nat) (n k : Nat) (hk : k < (pagesOf l n).length) : (pagesOf l n)[k] = numi (seg l (26 + 4 * k) 4) := by
  unfold pagesOf at hk ⊢
  rw [List.getElem_map, List.getElem_range]
theorem pagesOf_succ (l : List Nat) (n : Nat) : pagesOf l (n + 1) = pagesOf l n ++ [numi (seg l (26 + 4 * n) 4)] := by
  unfold pagesOf; rw [List.range_succ, List.map_append]; rfl
theorem pageNums_of {l : List Nat} (hb : BytesOk l) (n : Nat) (hl : 26 + 4 * n ≤ l.length) : pageNums (pagesOf l n) = (l.drop 26).take (4 * n) := by
  induction n with
  | zero => simp [pageNums, pagesOf]
  | succ n ih =>
    rw [pagesOf_succ, show pageNums (pagesOf l n ++ [numi (seg l (26 + 4 * n) 4)]) = pageNums (pagesOf l n) ++ be (numi (seg l (26 + 4 * n) 4)).toNat 4 by simp [pageNums], ih (by omega), seg_be hb _ 4 (by decide), seg_eq (by omega), show 4 * (n + 1) = 4 * n + 4 by omega, List.take_add, List.drop_drop]
/-- What is read of a sector as a head with n pages. -/
def headOf (l : List Nat) (n : Nat) : Hd := ⟨numi (seg l 4 8), numi (seg l 12 8), num (seg l 20 4), pagesOf l n⟩
end Go.Proofs.YtkahpkmofeglgaaDoor
