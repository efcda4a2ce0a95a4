/-
  PROVED HERE: plain laws on a record's head as bytes. Conditions: those that each theorem names; no program's text is used.
  PROVED HERE: plain laws on reading a record's head: what is read of any bytes is what would be written as these bytes; what was written is read again. Conditions: those that each theorem names; no program's text is used.
-/
import Derived.Test.YtkahpkmofeglgaaDoorImageRec
import Derived.Test.YtkahpkmofeglgaaDoorSuperRec
namespace Go.Proofs.YtkahpkmofeglgaaDoor
open Go.RowKit

/-- A record's head: epoch, number, sum, pages. -/
structure Hd where
  epoch : Int
  seq : Int
  sum : Nat
  pages : List Int
deriving DecidableEq
def okPages (l : List Int) : Bool := l.all (inB · 1023)
def okHead0 (h : Hd) : Bool := inB h.epoch 1099511627776 && (inB h.seq 1099511627776 && decide (1 ≤ h.pages.length ∧ h.pages.length ≤ 40))
def okHead (h : Hd) : Bool := okHead0 h && okPages h.pages
def pageNums (l : List Int) : List Nat := l.flatMap fun p => be p.toNat 4
def headHead (h : Hd) : List Nat := [80, 76, 79, 71] ++ be h.epoch.toNat 8 ++ be h.seq.toNat 8 ++ be h.sum 4 ++ be h.pages.length 2
def headBytes (h : Hd) : List Nat := headHead h ++ pageNums h.pages
def putHead (h : Hd) : Option (List Nat) := if okHead h then some (frame (headBytes h)) else none
theorem pageNums_len (l : List Int) : (pageNums l).length = 4 * l.length := by
  unfold pageNums
  rw [List.length_flatMap]
  simp only [be_len]
  induction l with
  | nil => rfl
  | cons a l ih => simp at ih ⊢; omega
theorem pageNums_take (l : List Int) (k : Nat) (hk : k < l.length) : pageNums (l.take (k + 1)) = pageNums (l.take k) ++ be l[k].toNat 4 := by
  unfold pageNums
  rw [List.take_succ_eq_append_getElem hk, List.flatMap_append]
  simp
theorem pageNums_ok (l : List Int) : BytesOk (pageNums l) := fun x hx => by
  obtain ⟨n, _, hn⟩ := List.mem_flatMap.1 hx
  exact be_lt _ _ x hn
theorem headHead_len (h : Hd) : (headHead h).length = 26 := by
  unfold headHead
  simp only [List.length_append, be_len, List.length_cons, List.length_nil]
theorem headBytes_len (h : Hd) : (headBytes h).length = 26 + 4 * h.pages.length := by
  unfold headBytes
  rw [List.length_append, headHead_len, pageNums_len]
theorem headBytes_ok (h : Hd) : BytesOk (headBytes h) := by
  unfold headBytes headHead
  refine BytesOk.append (BytesOk.append (BytesOk.append (BytesOk.append (BytesOk.append ?_ (BytesOk.be _ _)) (BytesOk.be _ _)) (BytesOk.be _ _)) (BytesOk.be _ _)) (pageNums_ok _)
  intro x hx; simp at hx; omega
theorem okPages_not {l : List Int} {k : Nat} (hk : k < l.length) (h : inB l[k] 1023 = false) : okPages l = false := by
  unfold okPages
  rw [List.all_eq_false]
  exact ⟨l[k], List.getElem_mem hk, by rw [h]; decide⟩
theorem okPages_of {l : List Int} (h : ∀ k (hk : k < l.length), inB l[k] 1023 = true) : okPages l = true := by
  unfold okPages
  rw [List.all_eq_true]
  intro x hx
  obtain ⟨k, hk, rfl⟩ := List.mem_iff_getElem.1 hx
  exact h k hk
theorem okHead0_parts {h : Hd} (ho : okHead0 h = true) : inB h.epoch 1099511627776 = true ∧ inB h.seq 1099511627776 = true ∧ 1 ≤ h.pages.length ∧ h.pages.length ≤ 40 := by
  unfold okHead0 at ho
  simp only [Bool.and_eq_true, decide_eq_true_eq] at ho
  exact ⟨ho.1, ho.2.1, ho.2.2.1, ho.2.2.2⟩
theorem putHead_not0 {h : Hd} (h0 : okHead0 h = false) : putHead h = none := by unfold putHead okHead; rw [h0, Bool.false_and]; simp
theorem putHead_notp {h : Hd} (h0 : okPages h.pages = false) : putHead h = none := by unfold putHead okHead; rw [h0, Bool.and_false]; simp
theorem putHead_some {h : Hd} (h0 : okHead0 h = true) (h1 : okPages h.pages = true) : putHead h = some (frame (headBytes h)) := by unfold putHead okHead; rw [h0, h1]; simp
/-- The pages that are read from place 26 on. -/
def pagesOf (l : List Nat) (n : Nat) : List Int := (List.range n).map fun k => numi (seg l (26 + 4 * k) 4)
theorem pagesOf_len (l : List Nat) (n : Nat) : (pagesOf l n).length = n := by unfold pagesOf; rw [List.length_map, List.length_range]
theorem pagesOf_get (l : List Nat) (n k : Nat) (hk : k < (pagesOf l n).length) : (pagesOf l n)[k] = numi (seg l (26 + 4 * k) 4) := by
  unfold pagesOf at hk ⊢
  rw [List.getElem_map, List.getElem_range]
theorem pagesOf_succ (l : List Nat) (n : Nat) : pagesOf l (n + 1) = pagesOf l n ++ [numi (seg l (26 + 4 * n) 4)] := by
  unfold pagesOf; rw [List.range_succ, List.map_append]; rfl
theorem pageNums_of {l : List Nat} (hb : BytesOk l) (n : Nat) (hl : 26 + 4 * n ≤ l.length) : pageNums (pagesOf l n) = (l.drop 26).take (4 * n) := by
  induction n with
  | zero => simp [pageNums, pagesOf]
  | succ n ih =>
    rw [pagesOf_succ, show pageNums (pagesOf l n ++ [numi (seg l (26 + 4 * n) 4)]) = pageNums (pagesOf l n) ++ be (numi (seg l (26 + 4 * n) 4)).toNat 4 by simp [pageNums], ih (by omega), seg_be hb _ 4 (by decide), seg_eq (by omega), show 4 * (n + 1) = 4 * n + 4 by omega, List.take_add, List.drop_drop]
/-- What is read of a sector as a head with n pages. -/
def headOf (l : List Nat) (n : Nat) : Hd := ⟨numi (seg l 4 8), numi (seg l 12 8), num (seg l 20 4), pagesOf l n⟩
end Go.Proofs.YtkahpkmofeglgaaDoor
namespace Go.Proofs.YtkahpkmofeglgaaDoor
open Go.RowKit

/-- The number of pages that a sector tells. -/
def headCount (l : List Nat) : Nat := num (seg l 24 2)
/-- As the program reads. -/
def getHead (l : List Nat) : Option Hd :=
  if soundL l [80, 76, 79, 71] && (okHead (headOf l (headCount l)) && bare ((l.take 252).drop (26 + 4 * headCount l))) then some (headOf l (headCount l)) else none
/-- As the document reads: no more than 40 pages are looked at. -/
def refHead (l : List Nat) : Option Hd :=
  if okHead (headOf l (min (headCount l) 40)) && decide (frame (headBytes (headOf l (min (headCount l) 40))) = l) then some (headOf l (min (headCount l) 40)) else none
theorem be_seg_in {l : List Nat} (hb : BytesOk l) {a : Nat} (ha : a + 8 ≤ l.length) {m : Int} (hm : inB (numi (seg l a 8)) m = true) (hmm : m ≤ 9223372036854775807) : be (numi (seg l a 8)).toNat 8 = (l.drop a).take 8 := by
  rw [(numi_in (seg_ok hb _ _) (by rw [seg_len]; decide) hm hmm).1]
  have h2 := be_num (seg_ok hb a 8)
  rw [seg_len] at h2
  rw [h2, seg_eq ha]
theorem be_seg_num {l : List Nat} (hb : BytesOk l) {a k : Nat} (ha : a + k ≤ l.length) : be (num (seg l a k)) k = (l.drop a).take k := by
  have h2 := be_num (seg_ok hb a k)
  rw [seg_len] at h2
  rw [h2, seg_eq ha]
theorem okHead_parts {h : Hd} (ho : okHead h = true) : okHead0 h = true ∧ okPages h.pages = true := by
  unfold okHead at ho
  simpa only [Bool.and_eq_true] using ho
theorem headBytes_of {l : List Nat} {n : Nat} (hb : BytesOk l) (hl : 26 + 4 * n ≤ l.length) (ho : okHead0 (headOf l n) = true) (hw : l.take 4 = [80, 76, 79, 71]) (hn : headCount l = n) : headBytes (headOf l n) = l.take (26 + 4 * n) := by
  obtain ⟨h1, h2, _, _⟩ := okHead0_parts ho
  unfold headBytes headHead
  have e1 : be (headOf l n).epoch.toNat 8 = (l.drop 4).take 8 := be_seg_in hb (by omega) h1 (by decide)
  have e2 : be (headOf l n).seq.toNat 8 = (l.drop 12).take 8 := be_seg_in hb (by omega) h2 (by decide)
  have e3 : be (headOf l n).sum 4 = (l.drop 20).take 4 := be_seg_num hb (by omega)
  have e4 : be (headOf l n).pages.length 2 = (l.drop 24).take 2 := by
    have : (headOf l n).pages.length = num (seg l 24 2) := by
      rw [show (headOf l n).pages = pagesOf l n from rfl, pagesOf_len]; exact hn.symm
    rw [this]
    exact be_seg_num hb (by omega)
  have e5 : pageNums (headOf l n).pages = (l.drop 26).take (4 * n) := pageNums_of hb n hl
  rw [e1, e2, e3, e4, e5, ← hw]
  rw [show 26 + 4 * n = 4 + (8 + (8 + (4 + (2 + 4 * n)))) by omega]
  simp only [List.take_add, List.drop_drop, List.append_assoc]
theorem headCount_bytes {h : Hd} (hp : h.pages.length ≤ 40) (q : List Nat) : headCount (headBytes h ++ q) = h.pages.length := by
  unfold headCount headBytes headHead
  rw [List.append_assoc, List.append_assoc, seg_app (by simp [be_len]) (be_len _ _), num_be_of_lt]
  have : (256 : Nat) ^ 2 = 65536 := by decide
  omega
theorem numi_be8 {n : Int} (h : inB n 1099511627776 = true) : numi (be n.toNat 8) = n := by
  have hm := inB_true.1 h
  have h3 : num (be n.toNat 8) = n.toNat := num_be_of_lt (by
    have : (256 : Nat) ^ 8 = 18446744073709551616 := by decide
    omega)
  unfold numi
  rw [h3]
  simp only [wrap64]
  omega
theorem pagesOf_bytes {l : List Int} (ho : okPages l = true) {p q : List Nat} (hp : p.length = 26) : pagesOf (p ++ (pageNums l ++ q)) l.length = l := by
  apply List.ext_getElem
  · rw [pagesOf_len]
  intro k h1 h2
  rw [pagesOf_get]
  have e1 : pageNums l = pageNums (l.take k) ++ be l[k].toNat 4 ++ pageNums (l.drop (k + 1)) := by
    rw [← pageNums_take l k h2]
    unfold pageNums
    rw [← List.flatMap_append, List.take_append_drop]
  have hl : (pageNums (l.take k)).length = 4 * k := by rw [pageNums_len, List.length_take, Nat.min_eq_left (by omega)]
  rw [e1, List.append_assoc, List.append_assoc, ← List.append_assoc p, seg_app (by rw [List.length_append, hp, hl]) (be_len _ _)]
  exact numi_be (List.all_eq_true.1 ho _ (List.getElem_mem h2)) (by decide) (by decide)
theorem headOf_bytes {h : Hd} (ho : okHead h = true) (hs : h.sum < 4294967296) (q : List Nat) : headOf (headBytes h ++ q) h.pages.length = h := by
  obtain ⟨h0, h4⟩ := okHead_parts ho
  obtain ⟨h1, h2, _, _⟩ := okHead0_parts h0
  have hp := pagesOf_bytes h4 (headHead_len h) (q := q)
  obtain ⟨e, s, m, ps⟩ := h
  unfold headOf headBytes at *
  rw [List.append_assoc, hp]
  unfold headHead
  simp only [List.append_assoc]
  congr 1
  · rw [seg_app (by rfl) (be_len _ _)]; exact numi_be8 h1
  · rw [← List.append_assoc [80, 76, 79, 71], seg_app (by simp [be_len]) (be_len _ _)]; exact numi_be8 h2
  · rw [← List.append_assoc (be _ 8), ← List.append_assoc [80, 76, 79, 71], seg_app (by simp [be_len]) (be_len _ _), num_be_of_lt]
    have : (256 : Nat) ^ 4 = 4294967296 := by decide
    rw [this]; exact hs
theorem getHead_ref {l : List Nat} (hb : BytesOk l) : getHead l = refHead l := by
  unfold getHead refHead
  by_cases hn : headCount l ≤ 40
  · rw [Nat.min_eq_left hn]
    by_cases ho : okHead (headOf l (headCount l)) = true
    · rw [ho]
      obtain ⟨h0, h4⟩ := okHead_parts ho
      have hpl : (headOf l (headCount l)).pages.length = headCount l := pagesOf_len _ _
      have hm : (headBytes (headOf l (headCount l))).length = 26 + 4 * headCount l := by rw [headBytes_len, hpl]
      have hiff := frame_iff (m := headBytes (headOf l (headCount l))) (l := l) (by omega)
      have key : (soundL l [80, 76, 79, 71] && (true && bare ((l.take 252).drop (26 + 4 * headCount l)))) = (true && decide (frame (headBytes (headOf l (headCount l))) = l)) := by
        rw [Bool.eq_iff_iff]
        simp only [Bool.true_and, Bool.and_eq_true, decide_eq_true_eq, hiff, hm, soundL]
        constructor
        · rintro ⟨⟨h1, h2, h3⟩, h4⟩
          exact ⟨h1, h2, (headBytes_of hb (by omega) h0 h3 rfl).symm, h4⟩
        · rintro ⟨h1, h2, h3, h4⟩
          refine ⟨⟨h1, h2, ?_⟩, h4⟩
          have := congrArg (List.take 4) h3
          rw [List.take_take, Nat.min_eq_left (by omega)] at this
          rw [this]; rfl
      rw [key]
    · rw [Bool.not_eq_true] at ho
      rw [ho]; simp
  · rw [Nat.min_eq_right (by omega)]
    rw [if_neg, if_neg]
    · intro h
      simp only [Bool.and_eq_true, decide_eq_true_eq] at h
      obtain ⟨q, hq⟩ := frame_split (headBytes (headOf l 40))
      have hpl : (headOf l 40).pages.length = 40 := pagesOf_len _ _
      have := headCount_bytes (h := headOf l 40) (by omega) q
      rw [← hq, h.2, hpl] at this
      omega
    · intro h
      simp only [Bool.and_eq_true] at h
      obtain ⟨_, _, _, h5⟩ := okHead0_parts (okHead_parts h.2.1).1
      have hpl : (headOf l (headCount l)).pages.length = headCount l := pagesOf_len _ _
      omega
theorem getHead_put {h : Hd} (ho : okHead h = true) (hs : h.sum < 4294967296) : getHead (frame (headBytes h)) = some h := by
  rw [getHead_ref (frame_ok (headBytes_ok h))]
  obtain ⟨_, _, _, h5⟩ := okHead0_parts (okHead_parts ho).1
  obtain ⟨q, hq⟩ := frame_split (headBytes h)
  have hc : headCount (frame (headBytes h)) = h.pages.length := by rw [hq]; exact headCount_bytes h5 q
  have e : headOf (frame (headBytes h)) h.pages.length = h := by rw [hq]; exact headOf_bytes ho hs q
  unfold refHead
  rw [hc, Nat.min_eq_left h5, e, ho]; simp
theorem getHead_nil : getHead [] = none := by
  unfold getHead soundL
  rw [if_neg]
  simp
theorem getHead_of_put {h : Hd} (hs : h.sum < 4294967296) : getHead ((putHead h).getD []) = if okHead h then some h else none := by
  unfold putHead
  cases ho : okHead h
  · exact getHead_nil
  · exact getHead_put ho hs
end Go.Proofs.YtkahpkmofeglgaaDoor
