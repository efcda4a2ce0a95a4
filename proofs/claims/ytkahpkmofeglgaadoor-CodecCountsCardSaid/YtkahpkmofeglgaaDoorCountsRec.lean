/-
  PROVED HERE: plain laws on counts as bytes. Conditions: those that each theorem names; no program's text is used.
-/
import Derived.Test.YtkahpkmofeglgaaDoorRecs
import Derived.Test.YtkahpkmofeglgaaDoorPutSuper
namespace Go.Proofs.YtkahpkmofeglgaaDoor
open Go.RowKit

def okCounts (l : List Int) : Bool := l.all (inB · 1000)
def countBytes (l : List Int) : List Nat := l.flatMap fun n => be n.toNat 2
def putCounts (l : List Int) : Option (List Nat) := if okCounts l && decide (l.length = 120) then some (countBytes l) else none
def countsOf (b : List Nat) : List Int := (List.range 120).map fun k => numi (seg b (2 * k) 2)
def getCounts (b : List Nat) : Option (List Int) := if decide (b.length = 240) && okCounts (countsOf b) then some (countsOf b) else none
theorem countBytes_len (l : List Int) : (countBytes l).length = 2 * l.length := by
  unfold countBytes
  rw [List.length_flatMap]
  simp only [be_len]
  induction l with
  | nil => rfl
  | cons a l ih => simp at ih ⊢; omega
theorem countBytes_take (l : List Int) (k : Nat) (hk : k < l.length) : countBytes (l.take (k + 1)) = countBytes (l.take k) ++ be l[k].toNat 2 := by
  unfold countBytes
  rw [List.take_succ_eq_append_getElem hk, List.flatMap_append]
  simp
theorem countBytes_ok (l : List Int) : BytesOk (countBytes l) := fun x hx => by
  obtain ⟨n, _, hn⟩ := List.mem_flatMap.1 hx
  exact be_lt _ _ x hn
theorem okCounts_not {l : List Int} {k : Nat} (hk : k < l.length) (h : inB l[k] 1000 = false) : okCounts l = false := by
  unfold okCounts
  rw [List.all_eq_false]
  exact ⟨l[k], List.getElem_mem hk, by rw [h]; decide⟩
theorem putCounts_no {l : List Int} {k : Nat} (hk : k < l.length) (h : inB l[k] 1000 = false) : putCounts l = none := by
  unfold putCounts; rw [okCounts_not hk h]; rfl
theorem okCounts_of {l : List Int} (h : ∀ k (hk : k < l.length), inB l[k] 1000 = true) : okCounts l = true := by
  unfold okCounts
  rw [List.all_eq_true]
  intro x hx
  obtain ⟨k, hk, rfl⟩ := List.mem_iff_getElem.1 hx
  exact h k hk
theorem countsOf_len (b : List Nat) : (countsOf b).length = 120 := by unfold countsOf; rw [List.length_map, List.length_range]
theorem countsOf_get (b : List Nat) (k : Nat) (hk : k < (countsOf b).length) : (countsOf b)[k] = numi (seg b (2 * k) 2) := by
  unfold countsOf at hk ⊢
  rw [List.getElem_map, List.getElem_range]
theorem countsOf_take (b : List Nat) (k : Nat) (hk : k < 120) : (countsOf b).take (k + 1) = (countsOf b).take k ++ [numi (seg b (2 * k) 2)] := by
  rw [List.take_succ_eq_append_getElem (by rw [countsOf_len]; exact hk), countsOf_get]
theorem seg_ok2 {b : List Nat} (hb : BytesOk b) (k : Nat) : numi (seg b (2 * k) 2) = (num (seg b (2 * k) 2) : Int) := numi_eq (seg_ok hb _ _) (by rw [seg_len]; decide)
/-- What was read of a body is written as that body. -/
theorem countBytes_of {b : List Nat} (hb : BytesOk b) (hl : b.length = 240) : countBytes (countsOf b) = b := by
  have h : ∀ n, n ≤ 120 → countBytes ((countsOf b).take n) = b.take (2 * n) := by
    intro n
    induction n with
    | zero => intro _; simp [countBytes]
    | succ n ih =>
      intro hn
      rw [countsOf_take b n (by omega), show countBytes ((countsOf b).take n ++ [numi (seg b (2 * n) 2)]) = countBytes ((countsOf b).take n) ++ be (numi (seg b (2 * n) 2)).toNat 2 by simp [countBytes], ih (by omega), seg_ok2 hb, Int.toNat_natCast]
      have e := be_num (seg_ok hb (2 * n) 2)
      rw [seg_len] at e
      rw [e, seg_eq (by omega), show 2 * (n + 1) = 2 * n + 2 by omega, List.take_add]
  have := h 120 (Nat.le_refl _)
  rw [List.take_of_length_le (by rw [countsOf_len]; exact Nat.le_refl _), List.take_of_length_le (by omega)] at this
  exact this
theorem countsOf_bytes {l : List Int} (hl : l.length = 120) (ho : okCounts l = true) : countsOf (countBytes l) = l := by
  apply List.ext_getElem
  · rw [countsOf_len, hl]
  intro k h1 h2
  rw [countsOf_get]
  have hin := inB_true.1 (List.all_eq_true.1 ho l[k] (List.getElem_mem h2))
  have e1 : countBytes l = countBytes (l.take k) ++ (be l[k].toNat 2 ++ countBytes (l.drop (k + 1))) := by
    rw [← List.append_assoc, ← countBytes_take l k h2]
    unfold countBytes
    rw [← List.flatMap_append, List.take_append_drop]
  have hlk : (countBytes (l.take k)).length = 2 * k := by rw [countBytes_len, List.length_take, Nat.min_eq_left (by omega)]
  have e2 : seg (countBytes l) (2 * k) 2 = be l[k].toNat 2 := by
    rw [seg_eq (by rw [countBytes_len]; omega), e1, ← hlk, List.drop_append_of_le_length (Nat.le_refl _), List.drop_of_length_le (Nat.le_refl _), List.nil_append, List.take_append_of_le_length (by rw [be_len]; decide), List.take_of_length_le (by rw [be_len]; decide)]
  rw [e2, numi_eq (be_lt _ _) (by rw [be_len]; decide), num_be_of_lt (by
    have : (256 : Nat) ^ 2 = 65536 := by decide
    omega)]
  omega
/-- As the document reads. -/
def refCounts (b : List Nat) : Option (List Int) := if okCounts (countsOf b) && decide (countBytes (countsOf b) = b) then some (countsOf b) else none
theorem getCounts_ref {b : List Nat} (hb : BytesOk b) : getCounts b = refCounts b := by
  unfold getCounts refCounts
  have e : decide (b.length = 240) = decide (countBytes (countsOf b) = b) := by
    by_cases h : b.length = 240
    · rw [decide_eq_true h, decide_eq_true (countBytes_of hb h)]
    · rw [decide_eq_false h, decide_eq_false]
      intro hc
      have := congrArg List.length hc
      rw [countBytes_len, countsOf_len] at this
      omega
  rw [e, Bool.and_comm]
theorem getCounts_of_put {l : List Int} : getCounts ((putCounts l).getD []) = (putCounts l).map fun _ => l := by
  unfold putCounts
  by_cases h : okCounts l = true ∧ l.length = 120
  · have e : (okCounts l && decide (l.length = 120)) = true := by simp [h.1, h.2]
    rw [if_pos e, Option.getD_some, Option.map_some]
    unfold getCounts
    rw [countsOf_bytes h.2 h.1, h.1, countBytes_len, h.2]
    rfl
  · have e : ¬ (okCounts l && decide (l.length = 120)) = true := by simpa using h
    rw [if_neg e]
    rfl
end Go.Proofs.YtkahpkmofeglgaaDoor
