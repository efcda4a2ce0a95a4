/-
  PROVED HERE: plain laws on the pieces of a text, as bytes.SplitAfterSeq and strings.SplitSeq hand them over: reading pairs and choosing words piece by piece. Conditions: those that each theorem names; no program's text is used.
-/
import Derived.Test.YtlhdjgibkiffaaaGreatDoorKeyP
namespace Go.Proofs.YtlhdjgibkiffaaaGreatDoor

/-- The pieces of a text, parted at each byte c; with 'save' each bears its c. -/
def splitP (save : Bool) (c : UInt8) (cur : Txt) : Txt → List Txt
  | [] => [cur]
  | x :: r => if x = c then (if save then cur ++ [c] else cur) :: splitP save c [] r else splitP save c (cur ++ [x]) r
theorem splitP_last (save : Bool) (c : UInt8) (x : Txt) (hx : c ∉ x) (cur : Txt) : splitP save c cur x = [cur ++ x] := by
  induction x generalizing cur with
  | nil => simp [splitP]
  | cons b x ih =>
    simp only [List.mem_cons, not_or] at hx
    rw [splitP, if_neg (show ¬ b = c from Ne.symm hx.1), ih hx.2]
    simp
theorem splitP_piece (save : Bool) (c : UInt8) (x : Txt) (hx : c ∉ x) (cur r : Txt) : splitP save c cur (x ++ c :: r) = (if save then cur ++ x ++ [c] else cur ++ x) :: splitP save c [] r := by
  induction x generalizing cur with
  | nil => simp [splitP]
  | cons b x ih =>
    simp only [List.mem_cons, not_or] at hx
    rw [List.cons_append, splitP, if_neg (show ¬ b = c from Ne.symm hx.1), ih hx.2]
    simp

/-- The pair of a piece. -/
def pieceP (t : Txt) : Option Pr := if t.getLast? = some 0 then cutEq t.dropLast else none
/-- The pairs of pieces: an empty one ends it. -/
def foldP (acc : List Pr) : List Txt → Option (List Pr)
  | [] => some acc
  | t :: r => if t = [] then some acc else match pieceP t with | none => none | some p => foldP (acc ++ [p]) r
theorem parseFrom_pieces (d : Txt) : ∀ (acc : List Pr) (cur : Txt), (0 : UInt8) ∉ cur → parseFrom acc cur d = foldP acc (splitP true 0 cur d) := by
  induction d with
  | nil =>
    intro acc cur hc
    simp only [parseFrom, splitP, foldP]
    have : cur.getLast? ≠ some 0 := fun h => hc (List.mem_of_getLast? h)
    simp [pieceP, this]
  | cons c r ih =>
    intro acc cur hc
    by_cases h : c = 0
    · subst h
      simp only [parseFrom, splitP, if_true, foldP]
      rw [if_neg (by simp)]
      have : pieceP (cur ++ [0]) = cutEq cur := by simp [pieceP]
      rw [this]
      cases cutEq cur with
      | none => rfl
      | some p => exact ih _ [] (by simp)
    · simp only [parseFrom, splitP, if_neg h]
      exact ih acc _ (by simp [hc, Ne.symm h])
/-- .. where no piece has ended it. -/
def foldS (acc : List Pr) : List Txt → Option (List Pr)
  | [] => some acc
  | t :: r => if t = [] then none else match pieceP t with | none => none | some p => foldS (acc ++ [p]) r
theorem foldS_append : ∀ (xs ys : List Txt) (acc l : List Pr), foldS acc xs = some l → foldP acc (xs ++ ys) = foldP l ys
  | [], ys, acc, l, h => by cases h; rfl
  | t :: r, ys, acc, l, h => by
    unfold foldS at h
    rw [List.cons_append, foldP]
    split at h
    · cases h
    · rename_i ht
      rw [if_neg ht]
      cases hp : pieceP t with
      | none => simp [hp] at h
      | some p => simp only [hp] at h; exact foldS_append r ys _ l h
theorem foldS_snoc : ∀ (xs : List Txt) (acc l : List Pr) (t : Txt) (p : Pr), foldS acc xs = some l → t ≠ [] → pieceP t = some p → foldS acc (xs ++ [t]) = some (l ++ [p])
  | [], acc, l, t, p, h, ht, hp => by cases h; simp [foldS, ht, hp]
  | s :: r, acc, l, t, p, h, ht, hp => by
    unfold foldS at h
    rw [List.cons_append, foldS]
    split at h
    · cases h
    · rename_i hs
      rw [if_neg hs]
      cases hq : pieceP s with
      | none => simp [hq] at h
      | some q => simp only [hq] at h; exact foldS_snoc r _ l t p h ht hp
theorem foldS_length : ∀ (xs : List Txt) (acc l : List Pr), foldS acc xs = some l → l.length = acc.length + xs.length
  | [], acc, l, h => by cases h; rfl
  | s :: r, acc, l, h => by
    unfold foldS at h
    split at h
    · cases h
    · cases hq : pieceP s with
      | none => simp [hq] at h
      | some q => simp only [hq] at h; rw [foldS_length r _ l h]; simp; omega
/-- The three ways in which the pieces end. -/
theorem parse_done {d : Txt} {xs : List Txt} {l : List Pr} (h : foldS [] xs = some l) (hx : xs = splitP true 0 [] d) : parseFrom [] [] d = some l := by
  rw [parseFrom_pieces d [] [] (by simp), ← hx]
  have := foldS_append xs [] [] l h
  rw [List.append_nil] at this
  rw [this]; rfl
theorem parse_stop {d : Txt} {xs : List Txt} {l : List Pr} (h : foldS [] xs = some l) (hx : xs ++ [[]] <+: splitP true 0 [] d) : parseFrom [] [] d = some l := by
  obtain ⟨ys, hy⟩ := hx
  rw [parseFrom_pieces d [] [] (by simp), ← hy, List.append_assoc, foldS_append xs _ [] l h]
  simp [foldP]
theorem parse_bad {d : Txt} {xs : List Txt} {l : List Pr} {t : Txt} (h : foldS [] xs = some l) (ht : t ≠ []) (hp : pieceP t = none) (hx : xs ++ [t] <+: splitP true 0 [] d) : parseFrom [] [] d = none := by
  obtain ⟨ys, hy⟩ := hx
  rw [parseFrom_pieces d [] [] (by simp), ← hy, List.append_assoc, foldS_append xs _ [] l h]
  simp [foldP, ht, hp]
/-- What CutSuffix and Cut say of a piece. -/
theorem pieceP_words (t : Txt) (ht : t ≠ []) : (Lib.hasSuffix t [0] = false ∧ pieceP t = none) ∨ (Lib.hasSuffix t [0] = true ∧ Lib.trimSuffix t [0] = t.dropLast ∧ pieceP t = cutEq t.dropLast) := by
  obtain ⟨s, c, rfl⟩ : ∃ s c, t = s ++ [c] := ⟨t.dropLast, t.getLast ht, (List.dropLast_concat_getLast ht).symm⟩
  have hs : Lib.hasSuffix (s ++ [c]) [0] = decide (c = 0) := by
    unfold Lib.hasSuffix List.isSuffixOf
    simp only [List.reverse_append, List.reverse_cons, List.reverse_nil, List.nil_append, List.singleton_append, List.isPrefixOf, Bool.and_true]
    by_cases h : c = 0
    · subst h; rfl
    · simp [h, Ne.symm h]
  by_cases h : c = 0
  · subst h
    refine .inr ⟨by simpa using hs, ?_, by simp [pieceP]⟩
    unfold Lib.trimSuffix
    rw [hs]
    simp
  · exact .inl ⟨by simpa [h] using hs, by simp [pieceP, h]⟩

theorem chooseFrom_pieces (own : List Txt) (d : Txt) : ∀ cur : Txt, chooseFrom own cur d = (splitP false 44 cur d).find? fun t => decide (t ∈ own) := by
  induction d with
  | nil => intro cur; by_cases h : cur ∈ own <;> simp [chooseFrom, splitP, h]
  | cons c r ih =>
    intro cur
    by_cases h : c = 44
    · subst h
      by_cases hm : cur ∈ own
      · simp [chooseFrom, splitP, hm]
      · simp [chooseFrom, splitP, hm, ih]
    · simp only [chooseFrom, splitP, if_neg h]
      exact ih _
theorem choose_done {own : List Txt} {d : Txt} {xs : List Txt} (h : ∀ t ∈ xs, t ∉ own) (hx : xs = splitP false 44 [] d) : chooseFrom own [] d = none := by
  rw [chooseFrom_pieces, ← hx, List.find?_eq_none]
  simpa using h
theorem choose_stop {own : List Txt} {d : Txt} {xs : List Txt} {t : Txt} (h : ∀ t ∈ xs, t ∉ own) (ht : t ∈ own) (hx : xs ++ [t] <+: splitP false 44 [] d) : chooseFrom own [] d = some t := by
  obtain ⟨ys, hy⟩ := hx
  rw [chooseFrom_pieces, ← hy, List.append_assoc, List.find?_append, List.find?_eq_none.2 (by simpa using h)]
  simp [ht]
theorem choose_mem {own : List Txt} {d t : Txt} (h : chooseFrom own [] d = some t) : t ∈ own := by
  rw [chooseFrom_pieces] at h
  simpa using List.find?_some h

/-- How a text goes on behind the piece that ends at its next c. -/
structure Rest (save : Bool) (c : UInt8) (d : Txt) (pre : List Txt) (rest : Txt) : Prop where
  eq : splitP save c [] d = pre ++ splitP save c [] rest
theorem Rest.start (save : Bool) (c : UInt8) (d : Txt) : Rest save c d [] d := ⟨rfl⟩
theorem Rest.step {save : Bool} {c : UInt8} {d : Txt} {pre : List Txt} {x r : Txt} (h : Rest save c d pre (x ++ c :: r)) (hx : c ∉ x) : Rest save c d (pre ++ [if save then x ++ [c] else x]) r ∧ (pre ++ [if save then x ++ [c] else x]) <+: splitP save c [] d := by
  have e := h.eq
  rw [splitP_piece save c x hx] at e
  simp only [List.nil_append] at e
  refine ⟨⟨by rw [e]; simp⟩, ⟨splitP save c [] r, by rw [e]; simp⟩⟩
theorem Rest.last {save : Bool} {c : UInt8} {d : Txt} {pre : List Txt} {x : Txt} (h : Rest save c d pre x) (hx : c ∉ x) : pre ++ [x] = splitP save c [] d := by
  rw [h.eq, splitP_last save c x hx]
  simp
end Go.Proofs.YtlhdjgibkiffaaaGreatDoor
