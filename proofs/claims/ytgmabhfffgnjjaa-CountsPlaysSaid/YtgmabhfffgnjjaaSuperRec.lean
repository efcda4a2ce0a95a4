/-
  PROVED HERE: plain laws on superblocks: what is read of any bytes is what would be written as these bytes; what was written is read again. Conditions: those that each theorem names; no program's text is used.
-/
import Derived.Test.YtgmabhfffgnjjaaRecs
import Derived.Test.YtgmabhfffgnjjaaPutSuper
namespace Go.Proofs.Ytgmabhfffgnjjaa
open Go.RowKit

def superOf (l : List Nat) : List Int := (List.range 7).map fun k => numi (seg l (4 + 8 * k) 8)
/-- As the program reads. -/
def getSuper (l : List Nat) : Option (List Int) := if soundL l [80, 83, 85, 80] && okSuper (superOf l) && bare (((l.drop 4).take 248).drop 56) then some (superOf l) else none
/-- As the document reads. -/
def refSuper (l : List Nat) : Option (List Int) := if okSuper (superOf l) && decide (frame (superBytes (superOf l)) = l) then some (superOf l) else none
theorem superOf_len (l : List Nat) : (superOf l).length = 7 := by simp [superOf]
theorem okSuper_at {s : List Int} (h : okSuper s = true) {x : Int} (hx : x ∈ s) : inB x 1099511627776 = true := List.all_eq_true.1 h x hx
theorem superOf_at {l : List Nat} (h : okSuper (superOf l) = true) (k : Nat) (hk : k < 7) : inB (numi (seg l (4 + 8 * k) 8)) 1099511627776 = true :=
  okSuper_at h (by unfold superOf; exact List.mem_map.2 ⟨k, by simpa using hk, rfl⟩)
/-- What was read of a sector, written again, is its beginning. -/
theorem superBytes_of {l : List Nat} (hb : BytesOk l) (hl : 60 ≤ l.length) (ho : okSuper (superOf l) = true) (hw : l.take 4 = [80, 83, 85, 80]) : superBytes (superOf l) = l.take 60 := by
  have e : ∀ k, k < 7 → be (numi (seg l (4 + 8 * k) 8)).toNat 8 = (l.drop (4 + 8 * k)).take 8 := by
    intro k hk
    have h1 := (numi_in (seg_ok hb _ _) (by rw [seg_len]; decide) (superOf_at ho k hk) (by decide)).1
    rw [h1]
    have h2 := be_num (seg_ok hb (4 + 8 * k) 8)
    rw [seg_len] at h2
    rw [h2, seg_eq (by omega)]
  unfold superBytes superOf
  rw [← hw]
  simp only [show List.range 7 = [0, 1, 2, 3, 4, 5, 6] from rfl, List.map_cons, List.map_nil, List.flatMap_cons, List.flatMap_nil]
  rw [e 0 (by decide), e 1 (by decide), e 2 (by decide), e 3 (by decide), e 4 (by decide), e 5 (by decide), e 6 (by decide)]
  rw [show (60 : Nat) = 4 + (8 + (8 + (8 + (8 + (8 + (8 + 8)))))) from rfl]
  simp only [List.take_add, List.drop_drop, List.append_nil]
theorem getSuper_ref {l : List Nat} (hb : BytesOk l) : getSuper l = refSuper l := by
  unfold getSuper refSuper
  by_cases ho : okSuper (superOf l) = true
  · rw [ho]
    have hm : (superBytes (superOf l)).length = 60 := by rw [superBytes_len, superOf_len]
    have hiff := frame_iff (m := superBytes (superOf l)) (l := l) (by omega)
    have key : (soundL l [80, 83, 85, 80] && true && bare (((l.drop 4).take 248).drop 56)) = (true && decide (frame (superBytes (superOf l)) = l)) := by
      rw [Bool.eq_iff_iff]
      simp only [Bool.and_true, Bool.true_and, Bool.and_eq_true, decide_eq_true_eq, hiff, hm, soundL]
      have hr : ((l.drop 4).take 248).drop 56 = (l.take 252).drop 60 := by
        rw [List.drop_take, List.drop_take, List.drop_drop]
      rw [hr]
      constructor
      · rintro ⟨⟨h1, h2, h3⟩, h4⟩
        exact ⟨h1, h2, (superBytes_of hb (by omega) ho h3).symm, h4⟩
      · rintro ⟨h1, h2, h3, h4⟩
        refine ⟨⟨h1, h2, ?_⟩, h4⟩
        have := congrArg (List.take 4) h3
        rw [List.take_take] at this
        rw [show min 4 60 = 4 from rfl] at this
        rw [this]; rfl
    rw [key]
  · rw [Bool.not_eq_true] at ho
    rw [ho]; simp
theorem superOf_bytes {s : List Int} (h7 : s.length = 7) (ho : okSuper s = true) (q : List Nat) : superOf (superBytes s ++ q) = s := by
  apply List.ext_getElem?
  intro k
  unfold superOf
  rw [List.getElem?_map]
  by_cases hk : k < 7
  · have hks : k < s.length := by omega
    rw [List.getElem?_range hk, List.getElem?_eq_getElem hks]
    have hx := okSuper_at ho (List.getElem_mem hks)
    have hm := inB_true.1 hx
    have e1 : superBytes s = superBytes (s.take k) ++ be s[k].toNat 8 ++ (s.drop (k + 1)).flatMap fun n => be n.toNat 8 := by
      rw [← superBytes_take s k hks]
      unfold superBytes
      rw [List.append_assoc, ← List.flatMap_append, List.take_append_drop]
    have hl : (superBytes (s.take k)).length = 4 + 8 * k := by rw [superBytes_len, List.length_take, Nat.min_eq_left (by omega)]
    have e2 : seg (superBytes s ++ q) (4 + 8 * k) 8 = be s[k].toNat 8 := by
      rw [seg_eq (by rw [List.length_append, superBytes_len]; omega), e1, List.append_assoc, List.append_assoc, ← hl, List.drop_append_of_le_length (Nat.le_refl _), List.drop_of_length_le (Nat.le_refl _), List.nil_append, List.take_append_of_le_length (by rw [be_len]; decide), List.take_of_length_le (by rw [be_len]; decide)]
    simp only [Option.map_some]
    rw [e2]
    have h3 : num (be s[k].toNat 8) = s[k].toNat := num_be_of_lt (by
      have : (256 : Nat) ^ 8 = 18446744073709551616 := by decide
      omega)
    unfold numi
    rw [h3]
    congr 1
    simp only [wrap64]
    omega
  · rw [List.getElem?_eq_none (by simp; omega), List.getElem?_eq_none (by omega)]; rfl
theorem superBytes_ok (s : List Int) : BytesOk (superBytes s) := by
  unfold superBytes
  refine BytesOk.append ?_ ?_
  · intro x hx; simp at hx; omega
  · intro x hx
    obtain ⟨n, _, hn⟩ := List.mem_flatMap.1 hx
    exact be_lt _ _ x hn
theorem frame_split (m : List Nat) : ∃ q, frame m = m ++ q := ⟨List.replicate (252 - m.length) 0 ++ le4 (crc (pad m 252)), by unfold frame pad; rw [List.append_assoc]⟩
theorem getSuper_put {s : List Int} (h7 : s.length = 7) (ho : okSuper s = true) : getSuper (frame (superBytes s)) = some s := by
  rw [getSuper_ref (frame_ok (superBytes_ok s))]
  obtain ⟨q, hq⟩ := frame_split (superBytes s)
  have e : superOf (frame (superBytes s)) = s := by rw [hq]; exact superOf_bytes h7 ho q
  unfold refSuper
  rw [e, ho]; simp
theorem getSuper_nil : getSuper [] = none := by
  unfold getSuper soundL
  rw [if_neg]
  simp
theorem getSuper_of_put {s : List Int} (h7 : s.length = 7) : getSuper ((putSuper s).getD []) = if okSuper s then some s else none := by
  unfold putSuper
  cases h : okSuper s
  · exact getSuper_nil
  · exact getSuper_put h7 h
end Go.Proofs.Ytgmabhfffgnjjaa
