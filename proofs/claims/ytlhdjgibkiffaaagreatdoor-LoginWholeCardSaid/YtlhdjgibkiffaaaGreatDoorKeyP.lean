/-
  PROVED HERE: plain laws on pairs of texts (P19): which may be, how they are written and read, found, chosen, and which texts are numbers. Conditions: those that each theorem names; no program's text is used.
-/
import Derived.Lib.Bytealg
import Derived.Lib.Strings
import Derived.Lib.IndexMore
import Derived.Lib.AtoiAllCases
import Derived.Lib.ItoaNum
import Derived.Lib.SlTrimSet
namespace Go.Proofs.YtlhdjgibkiffaaaGreatDoor

/-- A text, as the list of its bytes. -/
abbrev Txt := List UInt8
/-- A key with its value. -/
abbrev Pr := List UInt8 × List UInt8
/-- What a key is made of. -/
def letters : Txt := [65, 66, 67, 68, 69, 70, 71, 72, 73, 74, 75, 76, 77, 78, 79, 80, 81, 82, 83, 84, 85, 86, 87, 88, 89, 90, 97, 98, 99, 100, 101, 102, 103, 104, 105, 106, 107, 108, 109, 110, 111, 112, 113, 114, 115, 116, 117, 118, 119, 120, 121, 122, 48, 49, 50, 51, 52, 53, 54, 55, 56, 57, 46, 45, 43, 64, 95]
def okKey (k : Txt) : Bool := !k.isEmpty && decide (k.length ≤ 63) && k.all (letters.contains ·)
def okVal (v : Txt) : Bool := decide (v.length ≤ 255) && !v.contains 0
def mayFrom (seen : List Txt) : List Pr → Bool
  | [] => true
  | p :: r => okKey p.1 && okVal p.2 && !seen.contains p.1 && mayFrom (p.1 :: seen) r
def total (l : List Pr) : Nat := (l.map fun p => p.1.length + p.2.length + 2).sum
def mayP (l : List Pr) : Bool := mayFrom [] l && decide (l.length ≤ 16) && decide (total l ≤ 1024)
def printP (l : List Pr) : Txt := (l.map fun p => p.1 ++ 61 :: p.2 ++ [0]).flatten

theorem total_nil : total [] = 0 := rfl
theorem total_cons (p : Pr) (l : List Pr) : total (p :: l) = p.1.length + p.2.length + 2 + total l := by simp [total]
theorem total_append (l m : List Pr) : total (l ++ m) = total l + total m := by simp [total]
theorem total_one (p : Pr) : total [p] = p.1.length + p.2.length + 2 := by simp [total]
theorem printP_append (l m : List Pr) : printP (l ++ m) = printP l ++ printP m := by simp [printP]
theorem printP_cons (p : Pr) (l : List Pr) : printP (p :: l) = (p.1 ++ 61 :: p.2 ++ [0]) ++ printP l := by simp [printP]
theorem printP_length (l : List Pr) : (printP l).length = total l := by
  induction l with
  | nil => rfl
  | cons p l ih => rw [printP_cons, total_cons, List.length_append, ih]; simp; omega

theorem mayFrom_iff : ∀ (l : List Pr) (seen : List Txt), mayFrom seen l = true ↔ (∀ p ∈ l, okKey p.1 = true ∧ okVal p.2 = true ∧ p.1 ∉ seen) ∧ (l.map (·.1)).Nodup
  | [], seen => by simp [mayFrom]
  | p :: r, seen => by
    simp only [mayFrom, Bool.and_eq_true, Bool.not_eq_true', List.contains_eq_mem, decide_eq_false_iff_not, mayFrom_iff r (p.1 :: seen), List.map_cons, List.nodup_cons, List.mem_cons, List.mem_map, not_or, not_exists, not_and, forall_eq_or_imp]
    constructor
    · rintro ⟨⟨⟨h1, h2⟩, h3⟩, h4, h5⟩
      exact ⟨⟨⟨h1, h2, h3⟩, fun q hq => ⟨(h4 q hq).1, (h4 q hq).2.1, (h4 q hq).2.2.2⟩⟩, fun q hq => (h4 q hq).2.2.1, h5⟩
    · rintro ⟨⟨⟨h1, h2, h3⟩, h4⟩, h5, h6⟩
      exact ⟨⟨⟨h1, h2⟩, h3⟩, fun q hq => ⟨(h4 q hq).1, (h4 q hq).2.1, h5 q hq, (h4 q hq).2.2⟩, h6⟩
theorem mayP_iff (l : List Pr) : mayP l = true ↔ (∀ p ∈ l, okKey p.1 = true ∧ okVal p.2 = true) ∧ (l.map (·.1)).Nodup ∧ l.length ≤ 16 ∧ total l ≤ 1024 := by
  simp only [mayP, Bool.and_eq_true, decide_eq_true_eq, mayFrom_iff, List.not_mem_nil, not_false_eq_true, and_true]
  constructor
  · rintro ⟨⟨⟨h1, h2⟩, h3⟩, h4⟩; exact ⟨h1, h2, h3, h4⟩
  · rintro ⟨h1, h2, h3, h4⟩; exact ⟨⟨⟨h1, h2⟩, h3⟩, h4⟩
theorem total_reverse (l : List Pr) : total l.reverse = total l := by
  induction l with
  | nil => rfl
  | cons p l ih => rw [List.reverse_cons, total_append, total_one, total_cons, ih]; omega
theorem mayP_reverse (l : List Pr) : mayP l.reverse = mayP l := by
  rw [Bool.eq_iff_iff, mayP_iff, mayP_iff, total_reverse, List.length_reverse, List.map_reverse, (List.reverse_perm _).nodup_iff]
  simp

/-- What lies ahead of the first '=', and what lies behind it. -/
def cutEq : Txt → Option Pr
  | [] => none
  | c :: r => if c = 61 then some ([], r) else (cutEq r).map fun p => (c :: p.1, p.2)
theorem cutEq_some : ∀ {x : Txt} {p : Pr}, cutEq x = some p → x = p.1 ++ 61 :: p.2
  | [], p, h => by cases h
  | c :: r, p, h => by
    unfold cutEq at h
    split at h
    · rename_i hc; cases h; simp [hc]
    · cases hr : cutEq r with
      | none => simp [hr] at h
      | some q => simp only [hr, Option.map_some, Option.some.injEq] at h; subst h; simp [cutEq_some hr]
theorem cutEq_of {k v : Txt} (h : (61 : UInt8) ∉ k) : cutEq (k ++ 61 :: v) = some (k, v) := by
  induction k with
  | nil => simp [cutEq]
  | cons c k ih =>
    simp only [List.mem_cons, not_or] at h
    simp only [List.cons_append, cutEq, if_neg (show ¬ c = 61 from Ne.symm h.1), ih h.2, Option.map_some]
theorem cutEq_none {x : Txt} (h : (61 : UInt8) ∉ x) : cutEq x = none := by
  induction x with
  | nil => rfl
  | cons c k ih =>
    simp only [List.mem_cons, not_or] at h
    simp only [cutEq, if_neg (show ¬ c = 61 from Ne.symm h.1), ih h.2, Option.map_none]

/-- The pairs of a text, 'acc' ahead of them, 'cur' having come of the next one. -/
def parseFrom (acc : List Pr) (cur : Txt) : Txt → Option (List Pr)
  | [] => if cur = [] then some acc else none
  | c :: r => if c = 0 then (match cutEq cur with | none => none | some p => parseFrom (acc ++ [p]) [] r) else parseFrom acc (cur ++ [c]) r
def parseP (d : Txt) : Option (List Pr) := match parseFrom [] [] d with | none => none | some l => if mayP l then some l else none

theorem parseFrom_print : ∀ (d : Txt) (acc : List Pr) (cur : Txt) (l : List Pr), parseFrom acc cur d = some l → printP l = printP acc ++ cur ++ d
  | [], acc, cur, l, h => by
    unfold parseFrom at h
    split at h
    · rename_i hc; cases h; simp [hc]
    · cases h
  | c :: r, acc, cur, l, h => by
    unfold parseFrom at h
    split at h
    · rename_i hc
      cases hq : cutEq cur with
      | none => simp [hq] at h
      | some p =>
        simp only [hq] at h
        rw [parseFrom_print r _ _ l h, printP_append, printP_cons, cutEq_some hq, hc]
        simp [printP]
    · rw [parseFrom_print r _ _ l h]; simp
theorem parseFrom_total {d : Txt} {acc : List Pr} {cur : Txt} {l : List Pr} (h : parseFrom acc cur d = some l) : total l = total acc + cur.length + d.length := by
  rw [← printP_length, parseFrom_print d acc cur l h]; simp [printP_length]; omega
theorem total_ge (l : List Pr) : l.length ≤ total l := by
  induction l with
  | nil => exact Nat.le_refl _
  | cons p l ih => rw [total_cons, List.length_cons]; omega
theorem parseFrom_len {d : Txt} {l : List Pr} (h : parseFrom [] [] d = some l) : l.length ≤ d.length := by
  have h1 := parseFrom_total h
  have h2 := total_ge l
  simp [total] at h1
  simp [total] at h2
  omega
theorem parseFrom_piece (x : Txt) (hx : (0 : UInt8) ∉ x) (acc : List Pr) (cur r : Txt) : parseFrom acc cur (x ++ 0 :: r) = match cutEq (cur ++ x) with | none => none | some p => parseFrom (acc ++ [p]) [] r := by
  induction x generalizing cur with
  | nil => simp [parseFrom]
  | cons c x ih =>
    simp only [List.mem_cons, not_or] at hx
    rw [List.cons_append, parseFrom, if_neg (show ¬ c = 0 from Ne.symm hx.1), ih hx.2]
    simp
theorem parseFrom_last (x : Txt) (hx : (0 : UInt8) ∉ x) (acc : List Pr) (cur : Txt) : parseFrom acc cur x = if cur ++ x = [] then some acc else none := by
  induction x generalizing cur with
  | nil => simp [parseFrom]
  | cons c x ih =>
    simp only [List.mem_cons, not_or] at hx
    rw [parseFrom, if_neg (show ¬ c = 0 from Ne.symm hx.1), ih hx.2]
    simp
theorem parseFrom_acc : ∀ (d : Txt) (acc : List Pr) (cur : Txt), parseFrom acc cur d = (parseFrom [] cur d).map (acc ++ ·)
  | [], acc, cur => by unfold parseFrom; split <;> simp
  | c :: r, acc, cur => by
    unfold parseFrom
    split
    · cases hq : cutEq cur with
      | none => simp
      | some p =>
        simp only
        rw [parseFrom_acc r (acc ++ [p]), parseFrom_acc r ([] ++ [p])]
        cases parseFrom [] [] r <;> simp
    · exact parseFrom_acc r acc _
theorem parseFrom_two : ∀ (d : Txt) (acc : List Pr) (cur e : Txt) (l : List Pr), parseFrom acc cur d = some l → parseFrom acc cur (d ++ e) = parseFrom l [] e
  | [], acc, cur, e, l, h => by
    unfold parseFrom at h
    split at h
    · rename_i hc; cases h; rw [hc]; rfl
    · cases h
  | c :: r, acc, cur, e, l, h => by
    unfold parseFrom at h
    rw [List.cons_append, parseFrom]
    split at h
    · rename_i hc
      rw [if_pos hc]
      cases hq : cutEq cur with
      | none => simp [hq] at h
      | some p => simp only [hq] at h; exact parseFrom_two r _ _ e l h
    · rename_i hc
      rw [if_neg hc]
      exact parseFrom_two r _ _ e l h

theorem okKey_no {k : Txt} (h : okKey k = true) : (61 : UInt8) ∉ k ∧ (0 : UInt8) ∉ k ∧ k ≠ [] ∧ k.length ≤ 63 := by
  simp only [okKey, Bool.and_eq_true, Bool.not_eq_true', decide_eq_true_eq, List.all_eq_true, List.isEmpty_eq_false_iff] at h
  exact ⟨fun hm => absurd (h.2 _ hm) (by decide), fun hm => absurd (h.2 _ hm) (by decide), h.1.1, h.1.2⟩
theorem okVal_no {v : Txt} (h : okVal v = true) : (0 : UInt8) ∉ v ∧ v.length ≤ 255 := by
  simp only [okVal, Bool.and_eq_true, Bool.not_eq_true', decide_eq_true_eq, List.contains_eq_mem, decide_eq_false_iff_not] at h
  exact ⟨h.2, h.1⟩
theorem parseFrom_printed : ∀ (l acc : List Pr), (∀ p ∈ l, okKey p.1 = true ∧ okVal p.2 = true) → parseFrom acc [] (printP l) = some (acc ++ l)
  | [], acc, _ => by simp [printP, parseFrom]
  | p :: l, acc, h => by
    have hp := h p (by simp)
    obtain ⟨h1, h2, _, _⟩ := okKey_no hp.1
    obtain ⟨h3, _⟩ := okVal_no hp.2
    have hn : (0 : UInt8) ∉ p.1 ++ 61 :: p.2 := by simp [h2, h3]
    have e : printP (p :: l) = (p.1 ++ 61 :: p.2) ++ 0 :: printP l := by rw [printP_cons]; simp
    rw [e, parseFrom_piece _ hn, List.nil_append, cutEq_of h1]
    simp only
    rw [parseFrom_printed l _ fun q hq => h q (by simp [hq])]
    simp
theorem parseP_printed {l : List Pr} (h : mayP l = true) : parseP (printP l) = some l := by
  unfold parseP
  rw [parseFrom_printed l [] ((mayP_iff l).1 h).1]
  simp [h]
theorem parseP_some {d : Txt} {l : List Pr} (h : parseP d = some l) : parseFrom [] [] d = some l ∧ mayP l = true ∧ printP l = d := by
  unfold parseP at h
  cases hq : parseFrom [] [] d with
  | none => simp [hq] at h
  | some m =>
    simp only [hq] at h
    split at h
    · rename_i hm; cases h; exact ⟨rfl, hm, by simpa [printP] using parseFrom_print d [] [] _ hq⟩
    · cases h
/-- Two texts, one behind the other. -/
theorem parseP_two {a b : Txt} {l m : List Pr} (ha : parseP a = some l) (hb : parseP b = some m) : parseP (a ++ b) = if mayP (l ++ m) then some (l ++ m) else none := by
  obtain ⟨h1, _, _⟩ := parseP_some ha
  obtain ⟨h2, _, _⟩ := parseP_some hb
  unfold parseP
  rw [parseFrom_two a [] [] b l h1, parseFrom_acc, h2]
  simp
theorem mayP_two {l m : List Pr} (hl : mayP l = true) (hm : mayP m = true) : mayP (l ++ m) = (decide (l.length + m.length ≤ 16) && decide (total l + total m ≤ 1024) && m.all fun p => !(l.any fun q => decide (q.1 = p.1))) := by
  rw [mayP_iff] at hl hm
  rw [Bool.eq_iff_iff, mayP_iff]
  simp only [List.length_append, total_append, Bool.and_eq_true, decide_eq_true_eq, List.all_eq_true, Bool.not_eq_true', List.any_eq_false, List.map_append, List.nodup_append]
  constructor
  · rintro ⟨_, ⟨_, _, h1⟩, h2, h3⟩
    refine ⟨⟨h2, h3⟩, fun p hp q hq => ?_⟩
    exact h1 q.1 (List.mem_map.2 ⟨q, hq, rfl⟩) p.1 (List.mem_map.2 ⟨p, hp, rfl⟩)
  · rintro ⟨⟨h2, h3⟩, h1⟩
    refine ⟨fun p hp => ?_, ⟨hl.2.1, hm.2.1, fun a ha b hb => ?_⟩, h2, h3⟩
    · rcases List.mem_append.1 hp with h | h
      · exact hl.1 p h
      · exact hm.1 p h
    · obtain ⟨q, hq, rfl⟩ := List.mem_map.1 ha
      obtain ⟨p, hp, rfl⟩ := List.mem_map.1 hb
      exact h1 p hp q hq

/-- The value of a key. -/
def findP (l : List Pr) (k : Txt) : Option Txt := (l.find? fun p => decide (p.1 = k)).map (·.2)
theorem findP_any (l : List Pr) (k : Txt) : (findP l k).isSome = l.any fun p => decide (p.1 = k) := by
  induction l with
  | nil => rfl
  | cons p l ih =>
    unfold findP at ih ⊢
    rw [List.find?_cons, List.any_cons]
    cases h : decide (p.1 = k) <;> simp [ih]
theorem findP_mem {l : List Pr} (h : (l.map (·.1)).Nodup) {k v : Txt} : findP l k = some v ↔ (k, v) ∈ l := by
  induction l with
  | nil => simp [findP]
  | cons p l ih =>
    simp only [List.map_cons, List.nodup_cons, List.mem_map, not_exists, not_and] at h
    unfold findP at ih ⊢
    rw [List.find?_cons]
    by_cases hp : p.1 = k
    · simp only [hp, decide_true, Option.map_some, Option.some.injEq, List.mem_cons]
      constructor
      · rintro rfl; left; rw [← hp]
      · rintro (h1 | h1)
        · rw [← h1]
        · exact absurd hp.symm (h.1 _ h1)
    · simp only [hp, decide_false, List.mem_cons]
      rw [ih h.2]
      constructor
      · exact .inr
      · rintro (h1 | h1)
        · exact absurd (by rw [← h1]) hp
        · exact h1
theorem findP_reverse {l : List Pr} (h : (l.map (·.1)).Nodup) (k : Txt) : findP l.reverse k = findP l k := by
  have hr : (l.reverse.map (·.1)).Nodup := by rw [List.map_reverse, (List.reverse_perm _).nodup_iff]; exact h
  apply Option.ext
  intro v
  rw [findP_mem h, findP_mem hr]
  simp

/-- The first word of an offer that is known; 'cur' has come of the next one. -/
def chooseFrom (own : List Txt) (cur : Txt) : Txt → Option Txt
  | [] => if cur ∈ own then some cur else none
  | c :: r => if c = 44 then (if cur ∈ own then some cur else chooseFrom own [] r) else chooseFrom own (cur ++ [c]) r
theorem chooseFrom_piece (own : List Txt) (x : Txt) (hx : (44 : UInt8) ∉ x) (cur r : Txt) : chooseFrom own cur (x ++ 44 :: r) = if cur ++ x ∈ own then some (cur ++ x) else chooseFrom own [] r := by
  induction x generalizing cur with
  | nil => simp [chooseFrom]
  | cons c x ih =>
    simp only [List.mem_cons, not_or] at hx
    rw [List.cons_append, chooseFrom, if_neg (show ¬ c = 44 from Ne.symm hx.1), ih hx.2]
    simp
theorem chooseFrom_last (own : List Txt) (x : Txt) (hx : (44 : UInt8) ∉ x) (cur : Txt) : chooseFrom own cur x = if cur ++ x ∈ own then some (cur ++ x) else none := by
  induction x generalizing cur with
  | nil => simp [chooseFrom]
  | cons c x ih =>
    simp only [List.mem_cons, not_or] at hx
    rw [chooseFrom, if_neg (show ¬ c = 44 from Ne.symm hx.1), ih hx.2]
    simp

/-! ### Numbers -/
/-- Digits, as the document reads them. -/
def digs (acc : Nat) : Txt → Option Nat
  | [] => some acc
  | c :: r => if 48 ≤ c.toNat ∧ c.toNat ≤ 57 ∧ acc ≤ (9223372036854775807 - (c.toNat - 48)) / 10 then digs (10 * acc + (c.toNat - 48)) r else none
/-- A number, as the document reads it. -/
def numV (s : Txt) : Option Nat := if s = [] ∨ (s[0]? = some 48 ∧ 1 < s.length) then none else digs 0 s
def numR (s : Txt) (least most : Int) : Int × Bool := match numV s with | none => (0, false) | some n => if (n : Int) < least ∨ most < (n : Int) then (0, false) else ((n : Int), true)
/-- .. as the program does. -/
def numP (s : Txt) (least most : Int) : Int × Bool := match Lib.atoiAll s with
  | .ok v => if v < 0 ∨ Lib.itoa v ≠ s ∨ v < least ∨ most < v then (0, false) else (v, true)
  | _ => (0, false)

theorem digs_append (a b : Txt) : ∀ acc, digs acc (a ++ b) = (digs acc a).bind fun n => digs n b := by
  induction a with
  | nil => intro acc; rfl
  | cons c a ih =>
    intro acc
    simp only [List.cons_append, digs]
    split
    · exact ih _
    · rfl
theorem digs_le : ∀ (l : Txt) (acc n : Nat), digs acc l = some n → acc ≤ n
  | [], acc, n, h => by simp only [digs, Option.some.injEq] at h; omega
  | c :: r, acc, n, h => by
    unfold digs at h
    split at h
    · have := digs_le r _ n h; omega
    · cases h
theorem digs_max : ∀ (l : Txt) (acc n : Nat), digs acc l = some n → acc ≤ 9223372036854775807 → n ≤ 9223372036854775807
  | [], acc, n, h, ha => by simp only [digs, Option.some.injEq] at h; omega
  | c :: r, acc, n, h, ha => by
    unfold digs at h
    split at h
    · exact digs_max r _ n h (by omega)
    · cases h
theorem digs_parse : ∀ (l : Txt) (acc n : Nat), digs acc l = some n → acc ≤ 9223372036854775807 → Lib.parseUint10 acc l = .ok n
  | [], acc, n, h, _ => by simp only [digs, Option.some.injEq] at h; subst h; rfl
  | c :: r, acc, n, h, ha => by
    unfold digs at h
    split at h
    · rename_i hc
      unfold Lib.parseUint10
      rw [if_pos ⟨hc.1, hc.2.1⟩, if_neg (by omega), if_neg (by omega), show acc * 10 + (c.toNat - 48) = 10 * acc + (c.toNat - 48) by omega]
      exact digs_parse r _ n h (by omega)
    · cases h
theorem digit_toNat {d : Nat} (h : d < 10) : (UInt8.ofNat (48 + d)).toNat = 48 + d := by
  simp only [UInt8.toNat_ofNat']
  omega
theorem digit_of {c : UInt8} (h1 : 48 ≤ c.toNat) : UInt8.ofNat (48 + (c.toNat - 48)) = c := by
  rw [show 48 + (c.toNat - 48) = c.toNat by omega]
  exact UInt8.ofNat_toNat
theorem digs_one {d acc : Nat} (h : d < 10) (ha : acc ≤ (9223372036854775807 - d) / 10) : digs acc [UInt8.ofNat (48 + d)] = some (10 * acc + d) := by
  unfold digs
  rw [digit_toNat h, if_pos ⟨by omega, by omega, by simpa using ha⟩]
  simp [digs]
theorem digs_dec (u : Nat) (hu : u ≤ 9223372036854775807) : digs 0 (Lib.decDigits u) = some u := by
  induction u using Nat.strongRecOn with
  | _ u ih =>
    rw [Lib.decDigits]
    split
    · rename_i h
      rw [digs_one h (by omega)]; simp
    · rename_i h
      rw [digs_append, ih (u / 10) (by omega) (by omega)]
      simp only [Option.bind_some]
      rw [digs_one (by omega) (by omega)]
      congr 1
      omega
theorem dec_ne (u : Nat) : Lib.decDigits u ≠ [] := by
  rw [Lib.decDigits]; split <;> simp
theorem dec_head (u : Nat) (h : 1 ≤ u) : (Lib.decDigits u)[0]? ≠ some 48 := by
  induction u using Nat.strongRecOn with
  | _ u ih =>
    rw [Lib.decDigits]
    split
    · rename_i h1
      intro e
      simp only [List.getElem?_cons_zero, Option.some.injEq] at e
      have := congrArg UInt8.toNat e
      rw [digit_toNat h1] at this
      have : (48 : UInt8).toNat = 48 := rfl
      omega
    · rename_i h1
      have h2 := ih (u / 10) (by omega) (by omega)
      rw [List.getElem?_append_left (List.length_pos_iff.2 (dec_ne _))]
      exact h2
theorem numV_dec (u : Nat) (hu : u ≤ 9223372036854775807) : numV (Lib.decDigits u) = some u := by
  unfold numV
  rw [if_neg, digs_dec u hu]
  rintro (h | ⟨h1, h2⟩)
  · exact dec_ne u h
  · by_cases hz : 1 ≤ u
    · exact dec_head u hz h1
    · obtain rfl : u = 0 := by omega
      rw [Lib.decDigits] at h2
      simp at h2
theorem dec_of_digs (s : Txt) (n : Nat) (h0 : s ≠ []) (hl : s[0]? = some 48 → s.length = 1) (h : digs 0 s = some n) : Lib.decDigits n = s := by
  obtain ⟨t, c, rfl⟩ : ∃ t c, s = t ++ [c] := ⟨s.dropLast, s.getLast h0, (List.dropLast_concat_getLast h0).symm⟩
  induction hlen : t.length using Nat.strongRecOn generalizing t c n with
  | _ k ih =>
    rw [digs_append] at h
    cases hd : digs 0 t with
    | none => simp [hd] at h
    | some m =>
      simp only [hd, Option.bind_some] at h
      unfold digs at h
      split at h
      · rename_i hc
        simp only [digs, Option.some.injEq] at h
        by_cases ht : t = []
        · subst ht
          simp only [digs, Option.some.injEq] at hd
          subst hd
          rw [Lib.decDigits, dif_pos (by omega), ← h]
          simp only [Nat.mul_zero, Nat.zero_add, List.nil_append]
          rw [digit_of hc.1]
        · have hh : t[0]? ≠ some 48 := fun e => by
            have h5 := hl (by rw [List.getElem?_append_left (List.length_pos_iff.2 ht)]; exact e)
            have h6 := List.length_pos_iff.2 ht
            rw [List.length_append, List.length_singleton] at h5
            omega
          have hm1 : 1 ≤ m := by
            cases t with
            | nil => exact absurd rfl ht
            | cons b r =>
              unfold digs at hd
              split at hd
              · rename_i hb
                have := digs_le r _ m hd
                have hb48 : b.toNat ≠ 48 := fun e => hh (by rw [List.getElem?_cons_zero]; congr 1; exact UInt8.toNat_inj.1 e)
                omega
              · cases hd
          obtain ⟨t', c', ht'⟩ : ∃ t' c', t = t' ++ [c'] := ⟨t.dropLast, t.getLast ht, (List.dropLast_concat_getLast ht).symm⟩
          have := ih t'.length (by rw [← hlen, ht']; simp) m t' c' (by simp) (fun e => absurd (by rw [ht']; exact e) hh) (by rw [← ht']; exact hd) rfl
          rw [Lib.decDigits, dif_neg (by omega), ← h, show (10 * m + (c.toNat - 48)) / 10 = m by omega, show (10 * m + (c.toNat - 48)) % 10 = c.toNat - 48 by omega, this, ht', digit_of hc.1]
      · cases h
theorem atoi_of_digs {s : Txt} {n : Nat} (h0 : s ≠ []) (h : digs 0 s = some n) : Lib.atoiAll s = .ok (n : Int) := by
  cases s with
  | nil => exact absurd rfl h0
  | cons c r =>
    have hc : 48 ≤ c.toNat ∧ c.toNat ≤ 57 := by
      unfold digs at h
      split at h
      · rename_i hc; exact ⟨hc.1, hc.2.1⟩
      · cases h
    have hm := digs_max _ 0 n h (by omega)
    rw [Lib.atoiAll_plain c r (by omega) (by omega)]
    unfold Lib.parseMag
    rw [if_neg (by simp), digs_parse _ 0 n h (by omega)]
    simp only [Lib.signless]
    rw [if_neg (by omega)]
theorem numP_eq (s : Txt) (least most : Int) : numP s least most = numR s least most := by
  unfold numR
  cases hv : numV s with
  | some n =>
    unfold numV at hv
    split at hv
    · cases hv
    · rename_i hs
      simp only [not_or, not_and] at hs
      have h1 : s[0]? = some 48 → s.length = 1 := fun e => by
        have := hs.2 e
        have := List.length_pos_iff.2 hs.1
        omega
      unfold numP
      rw [atoi_of_digs hs.1 hv]
      have hi : Lib.itoa (n : Int) = s := by
        unfold Lib.itoa
        rw [if_neg (by omega), Int.toNat_natCast]
        exact dec_of_digs s n hs.1 h1 hv
      simp only [hi, ne_eq, not_true_eq_false, false_or]
      by_cases hb : (n : Int) < least ∨ most < (n : Int)
      · rw [if_pos (.inr hb), if_pos hb]
      · rw [if_neg hb, if_neg (by rintro (h | h); omega; exact hb h)]
  | none =>
    unfold numP
    split
    · rename_i v hok
      by_cases hb : v < 0 ∨ Lib.itoa v ≠ s ∨ v < least ∨ most < v
      · rw [if_pos hb]
      · exfalso
        simp only [not_or, Decidable.not_not] at hb
        have hbd := Lib.atoiAll_bounds hok
        have hi := hb.2.1
        unfold Lib.itoa at hi
        rw [if_neg hb.1] at hi
        rw [← hi, numV_dec _ (by omega)] at hv
        cases hv
    · rfl

/-! ### The words of the shelf -/
theorem trimS_nil (k : Txt) : (Lib.trimS k letters).isEmpty = k.all (letters.contains ·) := by
  rw [Bool.eq_iff_iff, List.isEmpty_iff, List.all_eq_true]
  unfold Lib.trimS Lib.trimLeftS Lib.trimRightS
  have aux : ∀ (l : Txt) (f : UInt8 → Bool), l.dropWhile f = [] ↔ ∀ x ∈ l, f x = true := fun l f => by
    induction l with
    | nil => simp
    | cons a l ih =>
      rw [List.dropWhile_cons]
      by_cases ha : f a = true
      · simp [ha, ih]
      · simp only [ha]
        simp [ha]
  constructor
  · intro h x hx
    rw [aux] at h
    by_cases hx' : letters.contains x = true
    · exact hx'
    · have : ∀ y ∈ k.reverse.dropWhile (letters.contains ·), letters.contains y = true := fun y hy => h y (by simpa using hy)
      cases hd : k.reverse.dropWhile (letters.contains ·) with
      | nil => exact (aux _ _).1 hd x (by simpa using hx)
      | cons a r =>
        have h1 := this a (by rw [hd]; simp)
        have h2 := List.head?_dropWhile_not (fun z => letters.contains z) k.reverse
        rw [hd] at h2
        simp only [List.head?_cons] at h2
        simp_all
  · intro h
    have : k.reverse.dropWhile (letters.contains ·) = [] := (aux _ _).2 fun x hx => h x (by simpa using hx)
    rw [this]
    rfl
theorem indexByte_split (l : Txt) (c : UInt8) : (c ∉ l ∧ Lib.indexByte l c = -1) ∨ ∃ x r, l = x ++ c :: r ∧ c ∉ x ∧ Lib.indexByte l c = (x.length : Int) := by
  induction l with
  | nil => exact .inl ⟨by simp, rfl⟩
  | cons b l ih =>
    by_cases hb : b = c
    · subst hb
      exact .inr ⟨[], l, rfl, by simp, by simp [Lib.indexByte]⟩
    · have hbf : (b == c) = false := by simpa using hb
      rcases ih with ⟨h1, h2⟩ | ⟨x, r, rfl, h1, h2⟩
      · exact .inl ⟨by simp [h1, Ne.symm hb], by simp [Lib.indexByte, hbf, h2]⟩
      · refine .inr ⟨b :: x, r, rfl, by simp [h1, Ne.symm hb], ?_⟩
        simp only [Lib.indexByte, hbf, h2]
        have : ((x.length : Int) == -1) = false := by simp
        simp [this]
theorem contains_index (l : Txt) (c : UInt8) : decide (0 ≤ Lib.indexByte l c) = l.contains c := by
  rcases indexByte_split l c with ⟨h1, h2⟩ | ⟨x, r, h0, h1, h2⟩
  · rw [h2]; simp [h1]
  · rw [h2, h0]; simp
theorem cutEq_index (l : Txt) : (Lib.indexByte l 61 = -1 ∧ cutEq l = none) ∨ ∃ i : Nat, Lib.indexByte l 61 = (i : Int) ∧ i < l.length ∧ cutEq l = some (l.take i, l.drop (i + 1)) := by
  rcases indexByte_split l 61 with ⟨h1, h2⟩ | ⟨x, r, h0, h1, h2⟩
  · exact .inl ⟨h2, cutEq_none h1⟩
  · refine .inr ⟨x.length, h2, by rw [h0]; simp, ?_⟩
    rw [h0, cutEq_of h1]
    simp
end Go.Proofs.YtlhdjgibkiffaaaGreatDoor
