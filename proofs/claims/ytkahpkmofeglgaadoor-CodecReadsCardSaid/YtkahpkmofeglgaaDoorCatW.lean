/-
  PROVED HERE: plain laws on catalogues as bytes. Conditions: those that each theorem names; no program's text is used.
  PROVED HERE: volumes as the program holds them: one in a slice is read whole; which may be written (volume, of package codec and of the document). Conditions: those that each theorem names.
  PROVED HERE: PutCatalogue of package codec. Conditions: the pages of the stack and the volumes can be read.
-/
import Derived.Test.YtkahpkmofeglgaaDoorNodeW
import Derived.Test.YtkahpkmofeglgaaDoorCountsG
namespace Go.Proofs.YtkahpkmofeglgaaDoor
open Go.RowKit

structure Vol where
  id : Int
  state : Int
  size : Int
  quota : Int
  root : Int
  mapped : Int
deriving DecidableEq
structure Cat where
  next : Int
  stack : List Int
  vols : List Vol
deriving DecidableEq
def okVol (v : Vol) : Bool := inB v.id 1073741824 && (inB v.state 2 && (inB v.size 1048576 && (inB v.quota 1048576 && (inB v.root 1023 && inB v.mapped 1048576))))
def okVols (l : List Vol) : Bool := l.all okVol
def okCat0 (c : Cat) : Bool := inB c.next 1073741824 && decide (c.stack.length ≤ 8 ∧ c.vols.length = 8)
def okCat (c : Cat) : Bool := okCat0 c && (okPages c.stack && okVols c.vols)
def volBytes (v : Vol) : List Nat := be v.id.toNat 4 ++ be v.state.toNat 1 ++ be v.size.toNat 4 ++ be v.quota.toNat 4 ++ be v.root.toNat 2 ++ be v.mapped.toNat 4
def volsBytes (l : List Vol) : List Nat := l.flatMap volBytes
def catHead0 (c : Cat) : List Nat := be c.next.toNat 4 ++ be c.stack.length 1
def catHead (c : Cat) : List Nat := catHead0 c ++ countBytes c.stack
def catBytes (c : Cat) : List Nat := pad (catHead c) 21 ++ volsBytes c.vols
def putCat (c : Cat) : Option (List Nat) := if okCat c then some (pad (catBytes c) 240) else none
theorem volBytes_len (v : Vol) : (volBytes v).length = 19 := by unfold volBytes; simp only [List.length_append, be_len]
theorem volBytes_ok (v : Vol) : BytesOk (volBytes v) := by
  unfold volBytes
  exact BytesOk.append (BytesOk.append (BytesOk.append (BytesOk.append (BytesOk.append (BytesOk.be _ _) (BytesOk.be _ _)) (BytesOk.be _ _)) (BytesOk.be _ _)) (BytesOk.be _ _)) (BytesOk.be _ _)
theorem volsBytes_len (l : List Vol) : (volsBytes l).length = 19 * l.length := by
  unfold volsBytes
  rw [List.length_flatMap]
  simp only [volBytes_len]
  induction l with
  | nil => rfl
  | cons a l ih => simp at ih ⊢; omega
theorem volsBytes_take (l : List Vol) (k : Nat) (hk : k < l.length) : volsBytes (l.take (k + 1)) = volsBytes (l.take k) ++ volBytes l[k] := by
  unfold volsBytes
  rw [List.take_succ_eq_append_getElem hk, List.flatMap_append]
  simp
theorem volsBytes_snoc (l : List Vol) (v : Vol) : volsBytes (l ++ [v]) = volsBytes l ++ volBytes v := by simp [volsBytes]
theorem volsBytes_ok (l : List Vol) : BytesOk (volsBytes l) := fun x hx => by
  obtain ⟨n, _, hn⟩ := List.mem_flatMap.1 hx
  exact volBytes_ok _ x hn
theorem catHead0_len (c : Cat) : (catHead0 c).length = 5 := by unfold catHead0; rw [List.length_append, be_len, be_len]
theorem catHead_len (c : Cat) : (catHead c).length = 5 + 2 * c.stack.length := by unfold catHead; rw [List.length_append, catHead0_len, countBytes_len]
theorem catHead_ok (c : Cat) : BytesOk (catHead c) := BytesOk.append (BytesOk.append (BytesOk.be _ _) (BytesOk.be _ _)) (countBytes_ok _)
theorem catBytes_ok (c : Cat) : BytesOk (catBytes c) := BytesOk.append (pad_ok (catHead_ok c)) (volsBytes_ok _)
theorem okCat0_parts {c : Cat} (h : okCat0 c = true) : inB c.next 1073741824 = true ∧ c.stack.length ≤ 8 ∧ c.vols.length = 8 := by
  unfold okCat0 at h
  simp only [Bool.and_eq_true, decide_eq_true_eq] at h
  exact ⟨h.1, h.2.1, h.2.2⟩
theorem okCat_parts {c : Cat} (h : okCat c = true) : okCat0 c = true ∧ okPages c.stack = true ∧ okVols c.vols = true := by
  unfold okCat at h
  simpa only [Bool.and_eq_true] using h
theorem catBytes_len {c : Cat} (h : c.stack.length ≤ 8) (h' : c.vols.length = 8) : (catBytes c).length = 173 := by
  unfold catBytes
  rw [List.length_append, pad_len (by rw [catHead_len]; omega), volsBytes_len, h']
theorem okVols_not {l : List Vol} {k : Nat} (hk : k < l.length) (h : okVol l[k] = false) : okVols l = false := by
  unfold okVols
  rw [List.all_eq_false]
  exact ⟨l[k], List.getElem_mem hk, by rw [h]; decide⟩
theorem okVols_of {l : List Vol} (h : ∀ k (hk : k < l.length), okVol l[k] = true) : okVols l = true := by
  unfold okVols
  rw [List.all_eq_true]
  intro x hx
  obtain ⟨k, hk, rfl⟩ := List.mem_iff_getElem.1 hx
  exact h k hk
theorem putCat_not0 {c : Cat} (h : okCat0 c = false) : putCat c = none := by unfold putCat okCat; rw [h, Bool.false_and]; simp
theorem putCat_notp {c : Cat} (h : okPages c.stack = false) : putCat c = none := by unfold putCat okCat; rw [h, Bool.false_and, Bool.and_false]; simp
theorem putCat_notv {c : Cat} (h : okVols c.vols = false) : putCat c = none := by unfold putCat okCat; rw [h, Bool.and_false, Bool.and_false]; simp
theorem putCat_some {c : Cat} (h : okCat0 c = true) (h' : okPages c.stack = true) (h2 : okVols c.vols = true) : putCat c = some (pad (catBytes c) 240) := by unfold putCat okCat; rw [h, h', h2]; simp

/-- What is read of a body as a catalogue with n pages on its stack. -/
def stackOf (l : List Nat) (n : Nat) : List Int := (List.range n).map fun k => numi (seg l (5 + 2 * k) 2)
def volAt (l : List Nat) (a : Nat) : Vol := ⟨numi (seg l a 4), numi (seg l (a + 4) 1), numi (seg l (a + 5) 4), numi (seg l (a + 9) 4), numi (seg l (a + 13) 2), numi (seg l (a + 15) 4)⟩
def volsOf (l : List Nat) (n : Nat) : List Vol := (List.range n).map fun k => volAt l (21 + 19 * k)
def catOf (l : List Nat) (n : Nat) : Cat := ⟨numi (seg l 0 4), stackOf l n, volsOf l 8⟩
def catCount (l : List Nat) : Nat := num (seg l 4 1)
def gap (l : List Nat) (n : Nat) : Bool := (List.range (8 - n)).all fun k => decide (numi (seg l (5 + 2 * (n + k)) 2) = 0)
def getCat (l : List Nat) : Option Cat :=
  if decide (l.length = 240) && (decide (catCount l ≤ 8) && (gap l (catCount l) && (okCat (catOf l (catCount l)) && bare (l.drop 173)))) then some (catOf l (catCount l)) else none
def refCat (l : List Nat) : Option Cat :=
  if okCat (catOf l (min (catCount l) 8)) && decide (pad (catBytes (catOf l (min (catCount l) 8))) 240 = l) then some (catOf l (min (catCount l) 8)) else none
theorem stackOf_len (l : List Nat) (n : Nat) : (stackOf l n).length = n := by unfold stackOf; rw [List.length_map, List.length_range]
theorem stackOf_succ (l : List Nat) (n : Nat) : stackOf l (n + 1) = stackOf l n ++ [numi (seg l (5 + 2 * n) 2)] := by unfold stackOf; rw [List.range_succ, List.map_append]; rfl
theorem stackOf_get (l : List Nat) (n k : Nat) (hk : k < (stackOf l n).length) : (stackOf l n)[k] = numi (seg l (5 + 2 * k) 2) := by
  unfold stackOf at hk ⊢; rw [List.getElem_map, List.getElem_range]
theorem volsOf_len (l : List Nat) (n : Nat) : (volsOf l n).length = n := by unfold volsOf; rw [List.length_map, List.length_range]
theorem volsOf_succ (l : List Nat) (n : Nat) : volsOf l (n + 1) = volsOf l n ++ [volAt l (21 + 19 * n)] := by unfold volsOf; rw [List.range_succ, List.map_append]; rfl
theorem volsOf_get (l : List Nat) (n k : Nat) (hk : k < (volsOf l n).length) : (volsOf l n)[k] = volAt l (21 + 19 * k) := by
  unfold volsOf at hk ⊢; rw [List.getElem_map, List.getElem_range]
theorem volBytes_at {l : List Nat} (hb : BytesOk l) (a : Nat) (ha : a + 19 ≤ l.length) : volBytes (volAt l a) = (l.drop a).take 19 := by
  unfold volBytes volAt
  simp only
  rw [seg_be hb _ 4 (by decide), seg_be hb _ 1 (by decide), seg_be hb _ 4 (by decide), seg_be hb _ 4 (by decide), seg_be hb _ 2 (by decide), seg_be hb _ 4 (by decide)]
  rw [seg_eq (by omega), seg_eq (by omega), seg_eq (by omega), seg_eq (by omega), seg_eq (by omega), seg_eq (by omega)]
  rw [show (19 : Nat) = 4 + (1 + (4 + (4 + (2 + 4)))) from rfl]
  simp only [List.take_add, List.drop_drop, List.append_assoc]
theorem volsBytes_of {l : List Nat} (hb : BytesOk l) (n : Nat) (hl : 21 + 19 * n ≤ l.length) : volsBytes (volsOf l n) = (l.drop 21).take (19 * n) := by
  induction n with
  | zero => simp [volsBytes, volsOf]
  | succ n ih =>
    rw [volsOf_succ, volsBytes_snoc, ih (by omega), volBytes_at hb _ (by omega), show 19 * (n + 1) = 19 * n + 19 by omega, List.take_add, List.drop_drop]
theorem stackBytes_of {l : List Nat} (hb : BytesOk l) (n : Nat) (hl : 5 + 2 * n ≤ l.length) : countBytes (stackOf l n) = (l.drop 5).take (2 * n) := by
  induction n with
  | zero => simp [countBytes, stackOf]
  | succ n ih =>
    rw [stackOf_succ, show countBytes (stackOf l n ++ [numi (seg l (5 + 2 * n) 2)]) = countBytes (stackOf l n) ++ be (numi (seg l (5 + 2 * n) 2)).toNat 2 by simp [countBytes], ih (by omega), seg_be hb _ 2 (by decide), seg_eq (by omega), show 2 * (n + 1) = 2 * n + 2 by omega, List.take_add, List.drop_drop]
theorem catHead_of {l : List Nat} (hb : BytesOk l) (hl : 5 + 2 * catCount l ≤ l.length) : catHead (catOf l (catCount l)) = l.take (5 + 2 * catCount l) := by
  unfold catHead catHead0
  have e1 : (catOf l (catCount l)).stack.length = num (seg l 4 1) := stackOf_len _ _
  have e2 : countBytes (catOf l (catCount l)).stack = (l.drop 5).take (2 * catCount l) := stackBytes_of hb _ hl
  have e3 : be (catOf l (catCount l)).next.toNat 4 = (l.drop 0).take 4 := by
    rw [show (catOf l (catCount l)).next = numi (seg l 0 4) from rfl, seg_be hb _ 4 (by decide), seg_eq (by omega)]
  rw [e1, e2, e3, be_seg_num hb (by omega), show 5 + 2 * catCount l = 4 + (1 + 2 * catCount l) by omega]
  simp only [List.take_add, List.drop_drop, List.append_assoc, List.drop_zero]
theorem gap_bare {l : List Nat} (hb : BytesOk l) (hl : 21 ≤ l.length) {n : Nat} (hn : n ≤ 8) : gap l n = bare ((l.take 21).drop (5 + 2 * n)) := by
  have hz : ∀ k, numi (seg l (5 + 2 * (n + k)) 2) = 0 ↔ l.getD (5 + 2 * (n + k)) 0 = 0 ∧ l.getD (5 + 2 * (n + k) + 1) 0 = 0 := by
    intro k
    rw [seg_nat hb _ 2 (by decide)]
    have : num (seg l (5 + 2 * (n + k)) 2) = 256 * l.getD (5 + 2 * (n + k)) 0 + l.getD (5 + 2 * (n + k) + 1) 0 := by
      simp [seg, List.range_succ, num]
    omega
  rw [Bool.eq_iff_iff]
  unfold gap
  rw [List.all_eq_true, bare_iff]
  constructor
  · intro h i
    by_cases hi : i < 16 - 2 * n
    · have := (hz (i / 2)).1 (by simpa using h (i / 2) (List.mem_range.2 (by omega)))
      rw [List.getD_eq_getElem?_getD, List.getElem?_drop, List.getElem?_take_of_lt (by omega), ← List.getD_eq_getElem?_getD]
      rcases Nat.mod_two_eq_zero_or_one i with h2 | h2
      · rw [show 5 + 2 * n + i = 5 + 2 * (n + i / 2) by omega]; exact this.1
      · rw [show 5 + 2 * n + i = 5 + 2 * (n + i / 2) + 1 by omega]; exact this.2
    · rw [List.getD_eq_getElem?_getD, List.getElem?_eq_none (by rw [List.length_drop, List.length_take]; omega)]; rfl
  · intro h k hk
    rw [List.mem_range] at hk
    have h1 := h (2 * k)
    have h2 := h (2 * k + 1)
    rw [List.getD_eq_getElem?_getD, List.getElem?_drop, List.getElem?_take_of_lt (by omega), ← List.getD_eq_getElem?_getD] at h1 h2
    rw [decide_eq_true_eq, hz]
    exact ⟨by rw [show 5 + 2 * (n + k) = 5 + 2 * n + 2 * k by omega]; exact h1, by rw [show 5 + 2 * (n + k) + 1 = 5 + 2 * n + (2 * k + 1) by omega]; exact h2⟩
theorem catBytes_seg {c : Cat} (h : c.stack.length ≤ 8) (q : List Nat) : catCount (catBytes c ++ q) = c.stack.length := by
  unfold catCount catBytes
  obtain ⟨r, hr⟩ := pad_split (catHead c) 21
  rw [hr]
  unfold catHead catHead0
  have h256 : (256 : Nat) ^ 1 = 256 := by decide
  simp only [List.append_assoc]
  rw [seg_app (be_len _ _) (be_len _ _), num_be_of_lt]
  omega
theorem getCat_ref {l : List Nat} (hb : BytesOk l) : getCat l = refCat l := by
  unfold getCat refCat
  by_cases hn : catCount l ≤ 8
  · rw [Nat.min_eq_left hn, decide_eq_true hn]
    by_cases ho : okCat (catOf l (catCount l)) = true
    · rw [ho]
      have hkl : (catOf l (catCount l)).stack.length = catCount l := stackOf_len _ _
      have hvl : (catOf l (catCount l)).vols.length = 8 := volsOf_len _ _
      have hm : (catBytes (catOf l (catCount l))).length = 173 := catBytes_len (by omega) hvl
      have hiff := pad_iff (m := catBytes (catOf l (catCount l))) (l := l) (n := 240) (by omega)
      have hhl := catHead_len (catOf l (catCount l))
      rw [hkl] at hhl
      have key : (decide (l.length = 240) && (true && (gap l (catCount l) && (true && bare (l.drop 173))))) = (true && decide (pad (catBytes (catOf l (catCount l))) 240 = l)) := by
        rw [Bool.eq_iff_iff]
        simp only [Bool.true_and, Bool.and_eq_true, decide_eq_true_eq, hiff, hm]
        constructor
        · rintro ⟨h1, h2, h3⟩
          rw [gap_bare hb (by omega) hn] at h2
          refine ⟨h1, ?_, h3⟩
          have e1 : pad (catHead (catOf l (catCount l))) 21 = l.take 21 := by
            refine pad_of (by rw [List.length_take]; omega) ?_ (by rw [hhl]; exact h2)
            rw [hhl, List.take_take, Nat.min_eq_left (by omega)]
            exact (catHead_of hb (by omega)).symm
          unfold catBytes
          rw [e1, show (catOf l (catCount l)).vols = volsOf l 8 from rfl, volsBytes_of hb 8 (by omega), show (173 : Nat) = 21 + 19 * 8 from rfl, List.take_add]
        · rintro ⟨h1, h2, h3⟩
          refine ⟨h1, ?_, h3⟩
          rw [gap_bare hb (by omega) hn]
          have e1 : l.take 21 = pad (catHead (catOf l (catCount l))) 21 := by
            have := congrArg (List.take 21) h2
            rw [List.take_take, Nat.min_eq_left (by decide)] at this
            rw [this]
            unfold catBytes
            rw [List.take_append_of_le_length (by rw [pad_len (by omega)]; exact Nat.le_refl _), List.take_of_length_le (by rw [pad_len (by omega)]; exact Nat.le_refl _)]
          have := ((pad_iff (m := catHead (catOf l (catCount l))) (l := l.take 21) (n := 21) (by omega)).1 e1.symm).2.2
          rwa [hhl] at this
      rw [key]
    · rw [Bool.not_eq_true] at ho
      rw [ho]; simp
  · rw [Nat.min_eq_right (by omega), decide_eq_false hn]
    rw [if_neg, if_neg]
    · intro h
      simp only [Bool.and_eq_true, decide_eq_true_eq] at h
      obtain ⟨q, hq⟩ := pad_split (catBytes (catOf l 8)) 240
      have hkl : (catOf l 8).stack.length = 8 := stackOf_len _ _
      have := catBytes_seg (c := catOf l 8) (by omega) q
      rw [← hq, h.2, hkl] at this
      omega
    · intro h
      simp at h
theorem volAt_app {p q : List Nat} {v : Vol} {a : Nat} (hp : p.length = a) (ho : okVol v = true) : volAt (p ++ (volBytes v ++ q)) a = v := by
  unfold okVol at ho
  simp only [Bool.and_eq_true] at ho
  obtain ⟨h1, h2, h3, h4, h5, h6⟩ := ho
  obtain ⟨i, s, z, u, r, m⟩ := v
  unfold volBytes volAt
  simp only [List.append_assoc]
  congr 1
  · rw [seg_app hp (be_len _ _)]; exact numi_be h1 (by decide) (by decide)
  · rw [← List.append_assoc p, seg_app (by simp [be_len, hp]) (be_len _ _)]; exact numi_be h2 (by decide) (by decide)
  · rw [← List.append_assoc p, ← List.append_assoc (p ++ _), seg_app (by simp [be_len, hp]) (be_len _ _)]; exact numi_be h3 (by decide) (by decide)
  · rw [← List.append_assoc p, ← List.append_assoc (p ++ _), ← List.append_assoc (p ++ _ ++ _), seg_app (by simp [be_len, hp]) (be_len _ _)]; exact numi_be h4 (by decide) (by decide)
  · rw [← List.append_assoc p, ← List.append_assoc (p ++ _), ← List.append_assoc (p ++ _ ++ _), ← List.append_assoc (p ++ _ ++ _ ++ _), seg_app (by simp [be_len, hp]) (be_len _ _)]; exact numi_be h5 (by decide) (by decide)
  · rw [← List.append_assoc p, ← List.append_assoc (p ++ _), ← List.append_assoc (p ++ _ ++ _), ← List.append_assoc (p ++ _ ++ _ ++ _), ← List.append_assoc (p ++ _ ++ _ ++ _ ++ _), seg_app (by simp [be_len, hp]) (be_len _ _)]; exact numi_be h6 (by decide) (by decide)
theorem volsOf_bytes {l : List Vol} (ho : okVols l = true) {p q : List Nat} (hp : p.length = 21) : volsOf (p ++ (volsBytes l ++ q)) l.length = l := by
  apply List.ext_getElem
  · rw [volsOf_len]
  intro k h1 h2
  rw [volsOf_get]
  have e1 : volsBytes l = volsBytes (l.take k) ++ volBytes l[k] ++ volsBytes (l.drop (k + 1)) := by
    rw [← volsBytes_take l k h2]
    unfold volsBytes
    rw [← List.flatMap_append, List.take_append_drop]
  have hl : (volsBytes (l.take k)).length = 19 * k := by rw [volsBytes_len, List.length_take, Nat.min_eq_left (by omega)]
  rw [e1, List.append_assoc, List.append_assoc, ← List.append_assoc p]
  exact volAt_app (by rw [List.length_append, hp, hl]) (List.all_eq_true.1 ho _ (List.getElem_mem h2))
theorem stackOf_bytes {l : List Int} (ho : okPages l = true) {p q : List Nat} (hp : p.length = 5) : stackOf (p ++ (countBytes l ++ q)) l.length = l := by
  apply List.ext_getElem
  · rw [stackOf_len]
  intro k h1 h2
  rw [stackOf_get]
  have e1 : countBytes l = countBytes (l.take k) ++ be l[k].toNat 2 ++ countBytes (l.drop (k + 1)) := by
    rw [← countBytes_take l k h2]
    unfold countBytes
    rw [← List.flatMap_append, List.take_append_drop]
  have hl : (countBytes (l.take k)).length = 2 * k := by rw [countBytes_len, List.length_take, Nat.min_eq_left (by omega)]
  rw [e1, List.append_assoc, List.append_assoc, ← List.append_assoc p, seg_app (by rw [List.length_append, hp, hl]) (be_len _ _)]
  exact numi_be (List.all_eq_true.1 ho _ (List.getElem_mem h2)) (by decide) (by decide)
theorem catOf_bytes {c : Cat} (ho : okCat c = true) (q : List Nat) : catOf (catBytes c ++ q) c.stack.length = c := by
  obtain ⟨h0, h1, h2⟩ := okCat_parts ho
  obtain ⟨h3, h4, h5⟩ := okCat0_parts h0
  have hv := volsOf_bytes h2 (p := pad (catHead c) 21) (q := q) (pad_len (by rw [catHead_len]; omega))
  rw [h5] at hv
  obtain ⟨r, hr⟩ := pad_split (catHead c) 21
  have hs := stackOf_bytes h1 (p := catHead0 c) (q := r ++ (volsBytes c.vols ++ q)) (catHead0_len c)
  unfold catOf
  have e1 : catBytes c ++ q = pad (catHead c) 21 ++ (volsBytes c.vols ++ q) := by unfold catBytes; rw [List.append_assoc]
  have e2 : catBytes c ++ q = catHead0 c ++ (countBytes c.stack ++ (r ++ (volsBytes c.vols ++ q))) := by rw [e1, hr]; unfold catHead; simp only [List.append_assoc]
  have e3 : numi (seg (catBytes c ++ q) 0 4) = c.next := by
    rw [e2]
    unfold catHead0
    rw [List.append_assoc, ← List.nil_append (be c.next.toNat 4 ++ _), seg_app (by rfl) (be_len _ _)]
    exact numi_be h3 (by decide) (by decide)
  rw [← e1] at hv
  rw [← e2] at hs
  rw [hv, hs, e3]
theorem getCat_put {c : Cat} (ho : okCat c = true) : getCat (pad (catBytes c) 240) = some c := by
  have hok := pad_ok (n := 240) (catBytes_ok c)
  rw [getCat_ref hok]
  have h5 := (okCat0_parts (okCat_parts ho).1).2.1
  obtain ⟨q, hq⟩ := pad_split (catBytes c) 240
  have hc : catCount (pad (catBytes c) 240) = c.stack.length := by rw [hq]; exact catBytes_seg h5 q
  have e : catOf (pad (catBytes c) 240) c.stack.length = c := by rw [hq]; exact catOf_bytes ho q
  unfold refCat
  rw [hc, Nat.min_eq_left h5, e, ho]; simp
theorem getCat_nil : getCat [] = none := by
  unfold getCat
  rw [if_neg]
  simp
theorem getCat_of_put {c : Cat} : getCat ((putCat c).getD []) = if okCat c then some c else none := by
  unfold putCat
  cases ho : okCat c
  · exact getCat_nil
  · exact getCat_put ho
end Go.Proofs.YtkahpkmofeglgaaDoor
namespace Go.Proofs.YtkahpkmofeglgaaDoor
open Go.RowKit

def Vol.vals (v : Vol) : List Value := [.int .i64 v.id, .int .i64 v.state, .int .i64 v.size, .int .i64 v.quota, .int .i64 v.root, .int .i64 v.mapped]
def volV (v : Vol) : Value := .agg #[.int .i64 v.id, .int .i64 v.state, .int .i64 v.size, .int .i64 v.quota, .int .i64 v.root, .int .i64 v.mapped]
/-- The volumes that a slice reads as. -/
def IsVols (w : World) (a : Option Addr) (l : List Vol) : Prop := ∀ i (h : i < l.length), ∃ b o, a = some ⟨b, o, none⟩ ∧ ∀ j u, (l[i].vals)[j]? = some u → w.cell? ⟨b, o + i * 6 + j, none⟩ = some u
theorem IsVols.upd {w w' : World} {a : Option Addr} {l : List Vol} {S : List Nat} (h : IsVols w a l) (u : Upd S w w') (hs : ∀ b o, a = some ⟨b, o, none⟩ → b ∉ S) : IsVols w' a l := fun i hi => by
  obtain ⟨b, o, ha, hc⟩ := h i hi
  exact ⟨b, o, ha, fun j x hj => u.cell (hc j x hj) (hs b o ha)⟩
theorem IsVols.lt {w : World} {a : Option Addr} {l : List Vol} (h : IsVols w a l) (h0 : 0 < l.length) : ∀ b o, a = some ⟨b, o, none⟩ → b < w.heap.size := fun b o e => by
  obtain ⟨b', o', e', hc⟩ := h 0 h0
  rw [e'] at e
  cases e
  exact World.block_lt_of_cell? _ _ (hc 0 _ rfl)
/-- A struct that lies in cells that are known is read whole. -/
theorem run_loadVar_cells {P : Program} (w : World) (g off n : Nat) (ty : TypeId) (vs : List Value) (d : TypeDesc) (hc : ∀ j u, vs[j]? = some u → w.cell? ⟨g, off + j, none⟩ = some u)
    (hu : P.underlying ty = some d) (hd : (match d with | .struct _ | .array _ _ => true | _ => false) = true) (hi : (P.info? ty).map (·.size) = some n) (hn : vs.length = n) :
    (loadVar ty ⟨g, off, none⟩).run P w = .ok (.agg vs.toArray) w := by
  have hl := run_loadCells_list (P := P) w ⟨g, off, none⟩ vs (fun j v hv => by rw [add_off]; exact hc j v hv)
  rw [hn] at hl
  cases hq : P.info? ty with
  | none => simp [hq] at hi
  | some i =>
    have hs : i.size = n := by simpa [hq] using hi
    have hagg : (isAgg ty).run P w = .ok true w := by
      unfold isAgg
      rw [Sem.run_bind, run_underlying hu w]
      cases d <;> simp_all
    simp [loadVar, Sem.run_bind, hagg, sizeOf, typeInfo, hq, hs, hl]
theorem wpList_load_cells {P : Program} {ops : Array Oper} {rest : List Oper} {o : Oper} {a : Act} {w : World} {Q : Exit → Act → World → Prop} (hgd : o.guard = none) (ty : TypeId) (x : Operand) (ho : o.op = .load ty x)
    (g off n : Nat) (hx : a.eval x = .pointer (some ⟨g, off, none⟩)) (vs : List Value) (d : TypeDesc) (hc : ∀ j u, vs[j]? = some u → w.cell? ⟨g, off + j, none⟩ = some u)
    (hu : P.underlying ty = some d) (hd : (match d with | .struct _ | .array _ _ => true | _ => false) = true) (hi : (P.info? ty).map (·.size) = some n) (hn : vs.length = n)
    (h : wpList P ops Q rest (a.put o.dst (.agg vs.toArray)) w) : wpList P ops Q (o :: rest) a w :=
  wpList_plain hgd fun K hK => by
    unfold Oper.wp execOp
    simp only [ho, hx, Instr.loadAt, Instr.sureAddr, Sem.run_bind, Sem.run_pure, Result.andThen_ok, run_loadVar_cells w g off n ty vs d hc hu hd hi hn]
    exact hK _ _ h
theorem infoVol : (Tryd.prog.info? 129).map (·.size) = some 6 := by kernel_rfl

set_option maxRecDepth 100000 in
set_option maxHeartbeats 3200000 in
theorem volume_any {w : World} (v : Vol) : Calls Tryd.prog 67 #[volV v] w fun e w' => e = .returned (.bool (okVol v)) ∧ Upd [] w w' := by
  obtain ⟨i, s, z, q, r, m⟩ := v
  unfold volV
  simp only
  have hu := (Upd.refl [] w).alloc (.cells #[.int .i64 i, .int .i64 s, .int .i64 z, .int .i64 q, .int .i64 r, .int .i64 m] 129)
  have HU := Lib.hid hu
  clear hu
  cases h0 : inB i 1073741824
  · have HO := Lib.hid (show okVol ⟨i, s, z, q, r, m⟩ = false by unfold okVol; simp [h0])
    go_enter Tryd.func67, Tryd.ntmps67
    go_wp2_with (go_at_call 52; refine (in_b _ _ _).mono ?_; rintro e w' ⟨rfl, rfl⟩)
    go_ret
    rw [HO.out]
    exact ⟨rfl, HU.out⟩
  cases h1 : inB s 2
  · have HO := Lib.hid (show okVol ⟨i, s, z, q, r, m⟩ = false by unfold okVol; simp [h0, h1])
    go_enter Tryd.func67, Tryd.ntmps67
    go_wp2_with (go_at_call 52; refine (in_b _ _ _).mono ?_; rintro e w' ⟨rfl, rfl⟩)
    go_ret
    rw [HO.out]
    exact ⟨rfl, HU.out⟩
  cases h2 : inB z 1048576
  · have HO := Lib.hid (show okVol ⟨i, s, z, q, r, m⟩ = false by unfold okVol; simp [h0, h1, h2])
    go_enter Tryd.func67, Tryd.ntmps67
    go_wp2_with (go_at_call 52; refine (in_b _ _ _).mono ?_; rintro e w' ⟨rfl, rfl⟩)
    go_ret
    rw [HO.out]
    exact ⟨rfl, HU.out⟩
  cases h3 : inB q 1048576
  · have HO := Lib.hid (show okVol ⟨i, s, z, q, r, m⟩ = false by unfold okVol; simp [h0, h1, h2, h3])
    go_enter Tryd.func67, Tryd.ntmps67
    go_wp2_with (go_at_call 52; refine (in_b _ _ _).mono ?_; rintro e w' ⟨rfl, rfl⟩)
    go_ret
    rw [HO.out]
    exact ⟨rfl, HU.out⟩
  cases h4 : inB r 1023
  · have HO := Lib.hid (show okVol ⟨i, s, z, q, r, m⟩ = false by unfold okVol; simp [h0, h1, h2, h3, h4])
    go_enter Tryd.func67, Tryd.ntmps67
    go_wp2_with (go_at_call 52; refine (in_b _ _ _).mono ?_; rintro e w' ⟨rfl, rfl⟩)
    go_ret
    rw [HO.out]
    exact ⟨rfl, HU.out⟩
  cases h5 : inB m 1048576
  · have HO := Lib.hid (show okVol ⟨i, s, z, q, r, m⟩ = false by unfold okVol; simp [h0, h1, h2, h3, h4, h5])
    go_enter Tryd.func67, Tryd.ntmps67
    go_wp2_with (go_at_call 52; refine (in_b _ _ _).mono ?_; rintro e w' ⟨rfl, rfl⟩)
    go_ret
    rw [HO.out]
    exact ⟨rfl, HU.out⟩
  have HO := Lib.hid (show okVol ⟨i, s, z, q, r, m⟩ = true by unfold okVol; simp only [h0, h1, h2, h3, h4, h5, Bool.true_and])
  go_enter Tryd.func67, Tryd.ntmps67
  go_wp2_with (go_at_call 52; refine (in_b _ _ _).mono ?_; rintro e w' ⟨rfl, rfl⟩)
  go_ret
  rw [HO.out]
  exact ⟨rfl, HU.out⟩
set_option maxRecDepth 100000 in
set_option maxHeartbeats 3200000 in
theorem rvolume_any {w : World} (v : Vol) : Calls Tryd.prog 68 #[volV v] w fun e w' => e = .returned (.bool (okVol v)) ∧ Upd [] w w' := by
  obtain ⟨i, s, z, q, r, m⟩ := v
  unfold volV
  simp only
  have hu := (Upd.refl [] w).alloc (.cells #[.int .i64 i, .int .i64 s, .int .i64 z, .int .i64 q, .int .i64 r, .int .i64 m] 129)
  have HU := Lib.hid hu
  clear hu
  cases h0 : inB i 1073741824
  · have HO := Lib.hid (show okVol ⟨i, s, z, q, r, m⟩ = false by unfold okVol; simp [h0])
    go_enter Tryd.func68, Tryd.ntmps68
    go_wp2_with (go_at_call 56; refine (rin_b _ _ _).mono ?_; rintro e w' ⟨rfl, rfl⟩)
    go_ret
    rw [HO.out]
    exact ⟨rfl, HU.out⟩
  cases h1 : inB s 2
  · have HO := Lib.hid (show okVol ⟨i, s, z, q, r, m⟩ = false by unfold okVol; simp [h0, h1])
    go_enter Tryd.func68, Tryd.ntmps68
    go_wp2_with (go_at_call 56; refine (rin_b _ _ _).mono ?_; rintro e w' ⟨rfl, rfl⟩)
    go_ret
    rw [HO.out]
    exact ⟨rfl, HU.out⟩
  cases h2 : inB z 1048576
  · have HO := Lib.hid (show okVol ⟨i, s, z, q, r, m⟩ = false by unfold okVol; simp [h0, h1, h2])
    go_enter Tryd.func68, Tryd.ntmps68
    go_wp2_with (go_at_call 56; refine (rin_b _ _ _).mono ?_; rintro e w' ⟨rfl, rfl⟩)
    go_ret
    rw [HO.out]
    exact ⟨rfl, HU.out⟩
  cases h3 : inB q 1048576
  · have HO := Lib.hid (show okVol ⟨i, s, z, q, r, m⟩ = false by unfold okVol; simp [h0, h1, h2, h3])
    go_enter Tryd.func68, Tryd.ntmps68
    go_wp2_with (go_at_call 56; refine (rin_b _ _ _).mono ?_; rintro e w' ⟨rfl, rfl⟩)
    go_ret
    rw [HO.out]
    exact ⟨rfl, HU.out⟩
  cases h4 : inB m 1048576
  · have HO := Lib.hid (show okVol ⟨i, s, z, q, r, m⟩ = false by unfold okVol; simp [h0, h1, h2, h3, h4])
    go_enter Tryd.func68, Tryd.ntmps68
    go_wp2_with (go_at_call 56; refine (rin_b _ _ _).mono ?_; rintro e w' ⟨rfl, rfl⟩)
    go_ret
    rw [HO.out]
    exact ⟨rfl, HU.out⟩
  cases h5 : inB r 1023
  · have HO := Lib.hid (show okVol ⟨i, s, z, q, r, m⟩ = false by unfold okVol; simp [h0, h1, h2, h3, h4, h5])
    go_enter Tryd.func68, Tryd.ntmps68
    go_wp2_with (go_at_call 56; refine (rin_b _ _ _).mono ?_; rintro e w' ⟨rfl, rfl⟩)
    go_ret
    rw [HO.out]
    exact ⟨rfl, HU.out⟩
  have HO := Lib.hid (show okVol ⟨i, s, z, q, r, m⟩ = true by unfold okVol; simp only [h0, h1, h2, h3, h4, h5, Bool.true_and])
  go_enter Tryd.func68, Tryd.ntmps68
  go_wp2_with (go_at_call 56; refine (rin_b _ _ _).mono ?_; rintro e w' ⟨rfl, rfl⟩)
  go_ret
  rw [HO.out]
  exact ⟨rfl, HU.out⟩
end Go.Proofs.YtkahpkmofeglgaaDoor
namespace Go.Proofs.YtkahpkmofeglgaaDoor
open Go.RowKit

/-- A catalogue as the program holds it: its volumes, its stack. -/
def catV (c : Cat) (v s : Value) : Value := .agg #[.int .i64 c.next, v, s]
theorem okCat0_cases (c : Cat) : (okCat0 c = true ∧ inB c.next 1073741824 = true ∧ decide (8 < (c.stack.length : Int)) = false ∧ ((c.vols.length : Int) != 8) = false) ∨
    (okCat0 c = false ∧ (inB c.next 1073741824 = false ∨ (inB c.next 1073741824 = true ∧ decide (8 < (c.stack.length : Int)) = true) ∨ (inB c.next 1073741824 = true ∧ decide (8 < (c.stack.length : Int)) = false ∧ ((c.vols.length : Int) != 8) = true))) := by
  unfold okCat0
  cases h1 : inB c.next 1073741824
  · exact .inr ⟨Bool.false_and _, .inl rfl⟩
  rw [Bool.true_and]
  by_cases h2 : 8 < c.stack.length
  · exact .inr ⟨decide_eq_false (by omega), .inr (.inl ⟨rfl, decide_eq_true (by omega)⟩)⟩
  by_cases h3 : c.vols.length = 8
  · exact .inl ⟨decide_eq_true (by omega), rfl, decide_eq_false (by omega), by rw [h3]; rfl⟩
  · exact .inr ⟨decide_eq_false (by omega), .inr (.inr ⟨rfl, decide_eq_false (by omega), by rw [bne_iff_ne]; omega⟩)⟩
set_option maxRecDepth 100000 in
set_option maxHeartbeats 1600000 in
theorem putCat_no {w : World} {a a' : Option Addr} {cap cap' : Nat} (c : Cat) (ho : okCat0 c = false) (hl : c.vols.length ≤ 9223372036854775807) (hl' : c.stack.length ≤ 9223372036854775807) :
    Calls Tryd.prog 39 #[catV c (.slice a c.vols.length cap) (.slice a' c.stack.length cap')] w fun e w' => PutOut w.heap.size (putCat c) e w' ∧ Upd [] w w' := by
  rw [putCat_not0 ho]
  obtain ⟨nx, st, vs⟩ := c
  unfold catV
  simp only at hl hl' ⊢
  rcases okCat0_cases ⟨nx, st, vs⟩ with ⟨h1, _⟩ | ⟨_, h1⟩
  · rw [ho] at h1; cases h1
  simp only at h1
  clear ho
  rcases h1 with h1 | ⟨h1, h2⟩ | ⟨h1, h2, h3⟩
  all_goals
    go_enter Tryd.func39, Tryd.ntmps39
    go_wp2_with (go_at_call 52; refine (in_b _ _ _).mono ?_; rintro e w' ⟨rfl, rfl⟩)
    go_ret2
    exact ⟨PutOut.no _ _, (Upd.refl [] w).alloc _⟩
set_option maxRecDepth 100000 in
set_option maxHeartbeats 6400000 in
theorem putCat_yes {w : World} {a a' : Option Addr} {cap cap' : Nat} {c : Cat} (hb : IsVols w a c.vols) (hb' : IsInts w a' c.stack) (ho : okCat0 c = true) :
    Calls Tryd.prog 39 #[catV c (.slice a c.vols.length cap) (.slice a' c.stack.length cap')] w fun e w' => PutOut w.heap.size (putCat c) e w' ∧ Upd [] w w' := by
  rcases okCat0_cases c with ⟨_, d1, d2, d3⟩ | ⟨h1, _⟩
  rotate_left
  · rw [ho] at h1; cases h1
  obtain ⟨hnx, hl8, hv8⟩ := okCat0_parts ho
  have hps := fun h1 h2 => putCat_some (c := c) ho h1 h2
  have hpn := fun k hk hp => putCat_notp (c := c) (okPages_not (k := k) hk hp)
  have hpv := fun k hk hp => putCat_notv (c := c) (okVols_not (k := k) hk hp)
  unfold catBytes catHead at hps
  have hhl := catHead0_len c
  have hnb : catHead0 c = be c.next.toNat 4 ++ be c.stack.length 1 := rfl
  generalize putCat c = R at hps hpn hpv ⊢
  generalize catHead0 c = N at hps hhl hnb
  clear ho
  obtain ⟨nx, st, vs⟩ := c
  simp only at d1 d2 d3 hnx hl8 hv8 hps hpn hpv hnb hb hb'
  unfold catV
  simp only
  obtain ⟨nx, rfl⟩ := Int.eq_ofNat_of_zero_le (inB_true.1 hnx).1
  have hnlt := (inB_true.1 hnx).2
  rw [hv8] at d3 ⊢
  have HV8 := Lib.hid hv8
  have HPS := Lib.hid hps
  have HPN := Lib.hid hpn
  have HPV := Lib.hid hpv
  have HHL := Lib.hid hhl
  have HNB := Lib.hid (show N = be nx 4 ++ be st.length 1 from hnb)
  have HB := Lib.hid hb
  have HB' := Lib.hid hb'
  have HLT := Lib.hid (show nx < 9223372036854775808 by omega)
  have HLS := Lib.hid (show st.length < 9223372036854775808 by omega)
  have HL8 := Lib.hid hl8
  clear hv8 hps hpn hpv hhl hnb hb hb' hnlt hnx
  have hC0 := ((Upd.refl [] _).alloc (.cells Tryd.zeroCells107 107)).get (heap_alloc_new w (.cells #[.int .i64 nx, .slice a 8 cap, .slice a' st.length cap'] 75)) (by simp)
  have hW0 := isW_made (w.alloc (.cells #[.int .i64 nx, .slice a 8 cap, .slice a' st.length cap'] 75))
  rw [show (w.alloc (.cells #[.int .i64 nx, .slice a 8 cap, .slice a' st.length cap'] 75)).heap.size = w.heap.size + 1 by simp] at hW0
  have HC0 := Lib.hid hC0
  have HW0 := Lib.hid hW0
  have hcells : ∀ w' : World, w'.heap[w.heap.size]? = some (.cells #[.int .i64 (nx : Int), .slice a 8 cap, .slice a' st.length cap'] 75 (0, 0)) → w'.cell? ⟨w.heap.size, 0, none⟩ = some (.int .i64 (nx : Int)) ∧ w'.cell? ⟨w.heap.size, 1, none⟩ = some (.slice a 8 cap) ∧ w'.cell? ⟨w.heap.size, 2, none⟩ = some (.slice a' st.length cap') := fun w' hx => by
    obtain ⟨k, _⟩ := cells_of hx
    exact ⟨k 0, k 1, k 2⟩
  have HCE := Lib.hid hcells
  have HUA := Lib.hid (show Upd [] w _ from ((Upd.refl [] w).alloc (.cells #[.int .i64 nx, .slice a 8 cap, .slice a' st.length cap'] 75)).alloc (.cells Tryd.zeroCells107 107))
  clear hC0 hW0 hcells
  go_enter Tryd.func39, Tryd.ntmps39
  go_wp2_with (go_at_call 52; refine (in_b _ _ _).mono ?_; rintro e w' ⟨rfl, rfl⟩)
  refine (put_any (k := 4) HW0.out (by decide) HLT.out (by decide)).mono ?_
  rintro e w1 ⟨rfl, g1, u1⟩
  have HC1 := Lib.hid (u1.get HC0.out (by simp))
  have G1 := Lib.hid g1
  have U1 := Lib.hid (HUA.out.step u1 (fun x hx => .inr (by simp at hx; omega)))
  clear g1 u1
  obtain ⟨q0, q1, q2⟩ := HCE.out _ HC1.out
  go_wp2_with fail
  refine (put_any (n := st.length) (k := 1) G1.out (by decide) HLS.out (by simp [be_len])).mono ?_
  rintro e w2 ⟨rfl, g2, u2⟩
  have HC2 := Lib.hid (u2.get HC1.out (by simp))
  have hg2 : IsW w2 (w.heap.size + 1) (N ++ countBytes (st.take 0)) := by
    rw [HNB.out, List.take_zero, show countBytes [] = [] from rfl, List.append_nil]; exact g2
  have G2 := Lib.hid hg2
  have U2 := Lib.hid (U1.out.step u2 (fun x hx => .inr (by simp at hx; omega)))
  clear g2 hg2 u2 HC1 G1 q0 q1 q2
  obtain ⟨q0, q1, q2⟩ := HCE.out _ HC2.out
  go_wp2
  go_loopw [35] (fun i wr => ∃ k : Nat, k ≤ st.length ∧ i = .int .i64 k ∧ (∀ j (_ : j < k) (h7 : j < st.length), inB st[j] 1023 = true) ∧ IsW wr (w.heap.size + 1) (N ++ countBytes (st.take k)) ∧ wr.heap[w.heap.size]? = w2.heap[w.heap.size]? ∧ Upd [] w wr) (fun i _ => st.length - (intOf i).toNat)
  case atStart => exact ⟨0, by omega, rfl, fun j hj => absurd hj (by omega), G2.out, rfl, U2.out⟩
  case round =>
    obtain ⟨k, hk, rfl, hin, hW, hX, hU⟩ := hrel
    rw [HC2.out] at hX
    clear q0 q1 q2
    have HX := Lib.hid hX
    have HIN := Lib.hid hin
    have HWR := Lib.hid hW
    have HU := Lib.hid hU
    clear hin hW hU hX
    by_cases hlt7 : k < st.length
    · obtain ⟨b, o, rfl, hc⟩ := (HB'.out.upd HU.out (by simp)) k hlt7
      have HSS := Lib.hid (countBytes_take st k hlt7)
      have HL := Lib.hid (show (N ++ countBytes (st.take k)).length = 5 + 2 * k by rw [List.length_append, HHL.out, countBytes_len, List.length_take]; omega)
      have HN := Lib.hid (HPN.out k hlt7)
      generalize hx : st[k] = x at hc HSS HN
      have HXE := Lib.hid hx
      clear hx
      cases hI : inB x 1023
      · go_wp2_with (go_at_call 52; refine (in_b _ _ _).mono ?_; rintro e w' ⟨rfl, rfl⟩)
        go_ret2
        rw [HN.out hI]
        exact ⟨PutOut.no _ _, HU.out⟩
      · obtain ⟨m, rfl⟩ := Int.eq_ofNat_of_zero_le (inB_true.1 hI).1
        have hm := (inB_true.1 hI).2
        go_wp2_with (first | (go_at_call 52; refine (in_b _ _ _).mono ?_; rintro e w' ⟨rfl, rfl⟩) | (go_at_call 53; refine (put_any (k := 2) HWR.out (by decide) (by omega) (by rw [HL.out]; omega)).mono ?_; rintro e w6 ⟨rfl, h6, u6⟩; have H6 := Lib.hid h6; have U6 := Lib.hid u6; clear h6 u6))
        go_roundw
        case rel =>
          refine ⟨k + 1, by omega, by go_num, fun j hj h7 => ?_, by rw [HSS.out, ← List.append_assoc]; exact H6.out, by rw [HC2.out]; exact U6.out.get HX.out (by simp), HU.out.step U6.out (fun x hx => .inr (by simp at hx; omega))⟩
          by_cases e : j = k
          · subst e; rw [HXE.out]; exact hI
          · exact HIN.out j (by omega) h7
        case measure => simp [intOf]; omega
    · obtain rfl : k = st.length := by omega
      have HOP := Lib.hid (okPages_of (l := st) fun k hk => HIN.out k (by omega) hk)
      have hWf := HWR.out
      rw [List.take_length] at hWf
      have hhd : (N ++ countBytes st).length ≤ 21 := by rw [List.length_append, HHL.out, countBytes_len]; have := HL8.out; omega
      have hz3 := hWf.fz 256
      have ha3 := hWf.at
      obtain ⟨g4, u4⟩ := hWf.skip (n := 21) (m := 21) hhd rfl
      have HPL := Lib.hid (show (pad (N ++ countBytes st) 21).length = 21 from pad_len hhd)
      generalize pad (N ++ countBytes st) 21 = M at g4 HPL HPS
      have HC4 := Lib.hid (u4.get HX.out (by simp))
      have hX4 := HC4.out
      have G4 := Lib.hid (show IsW _ _ (M ++ volsBytes (vs.take 0)) by rw [List.take_zero, show volsBytes [] = [] from rfl, List.append_nil]; exact g4)
      have U4 := Lib.hid (HU.out.step u4 (fun x hx => .inr (by simp at hx; omega)))
      clear g4 u4 hWf hX4 HIN HPN
      obtain ⟨q0, q1, q2⟩ := HCE.out _ HC4.out
      go_wp2_with fail
      clear hz3 ha3 q0 q1 q2
      generalize wr.setCell ⟨w.heap.size + 1, 256, none⟩ (.int .i64 21) = w4 at HC4 G4 U4 ⊢
      clear HWR HX HU
      go_loopw [49] (fun i wr => ∃ k : Nat, k ≤ 8 ∧ i = .int .i64 k ∧ (∀ j (_ : j < k) (h7 : j < vs.length), okVol vs[j] = true) ∧ IsW wr (w.heap.size + 1) (M ++ volsBytes (vs.take k)) ∧ Upd [] w wr) (fun i _ => 8 - (intOf i).toNat)
      case atStart => exact ⟨0, by omega, rfl, fun j hj => absurd hj (by omega), G4.out, U4.out⟩
      case round =>
        obtain ⟨k, hk, rfl, hin, hW, hU⟩ := hrel
        have HIN := Lib.hid hin
        have HWR := Lib.hid hW
        have HU := Lib.hid hU
        clear hin hW hU
        have hsw := HWR.out.lt
        by_cases hlt7 : k < 8
        · have hkv : k < vs.length := by have := HV8.out; omega
          obtain ⟨b, o, rfl, hc⟩ := (HB.out.upd HU.out (by simp)) k hkv
          have HSS := Lib.hid (volsBytes_take vs k hkv)
          have HL := Lib.hid (show M.length + (volsBytes (vs.take k)).length = 21 + 19 * k by rw [HPL.out, volsBytes_len, List.length_take]; have := HV8.out; omega)
          have HN := Lib.hid (HPV.out k hkv)
          generalize hx : vs[k] = x at hc HSS HN
          have HXE := Lib.hid hx
          clear hx
          have hov : okVol x = true → ∃ i s z q r m : Nat, x = ⟨i, s, z, q, r, m⟩ ∧ i < 9223372036854775808 ∧ s < 9223372036854775808 ∧ z < 9223372036854775808 ∧ q < 9223372036854775808 ∧ r < 9223372036854775808 ∧ m < 9223372036854775808 := by
            intro h
            obtain ⟨i, s, z, q, r, m⟩ := x
            unfold okVol at h
            simp only [Bool.and_eq_true, inB_true] at h
            obtain ⟨h1, h2, h3, h4, h5, h6⟩ := h
            exact ⟨i.toNat, s.toNat, z.toNat, q.toNat, r.toNat, m.toNat, by congr 1 <;> omega, by omega, by omega, by omega, by omega, by omega, by omega⟩
          have HOV := Lib.hid hov
          clear hov
          cases hI : okVol x
          · obtain ⟨i, s, z, q, r, m⟩ := x
            have HA := Lib.hid (heap_alloc_new wr (.cells #[.int .i64 i, .int .i64 s, .int .i64 z, .int .i64 q, .int .i64 r, .int .i64 m] 129))
            have HVO := Lib.hid (volume_any (w := wr.alloc (.cells #[.int .i64 i, .int .i64 s, .int .i64 z, .int .i64 q, .int .i64 r, .int .i64 m] 129)) ⟨i, s, z, q, r, m⟩)
            rw [hI] at HVO
            unfold Vol.vals at hc
            simp only at hc
            have HCC := Lib.hid hc
            clear hc
            go_wp2_with (first
              | (refine wpList_load_cells rfl 129 (.tmp 51) rfl b (o + k * 6) 6 rfl [.int .i64 i, .int .i64 s, .int .i64 z, .int .i64 q, .int .i64 r, .int .i64 m] _ HCC.out Tryd.underlying129 rfl infoVol rfl ?_)
              | (refine wpList_load_all rfl 129 (.tmp 8) rfl wr.heap.size 6 rfl _ _ _ _ HA.out Tryd.underlying129 rfl infoVol rfl ?_)
              | (go_at_call 67; refine HVO.out.mono ?_; rintro e w6 ⟨rfl, u6⟩; have U6 := Lib.hid u6; clear u6))
            go_ret2
            rw [HN.out hI]
            exact ⟨PutOut.no _ _, (HU.out.alloc _).trans U6.out⟩
          · obtain ⟨i, s, z, q, r, m, rfl, b1, b2, b3, b4, b5, b6⟩ := HOV.out hI
            have HA := Lib.hid (heap_alloc_new wr (.cells #[.int .i64 i, .int .i64 s, .int .i64 z, .int .i64 q, .int .i64 r, .int .i64 m] 129))
            have HVO := Lib.hid (volume_any (w := wr.alloc (.cells #[.int .i64 i, .int .i64 s, .int .i64 z, .int .i64 q, .int .i64 r, .int .i64 m] 129)) ⟨i, s, z, q, r, m⟩)
            rw [hI] at HVO
            unfold Vol.vals at hc
            simp only at hc
            have HCC := Lib.hid hc
            have hce : ∀ w' : World, w'.heap[wr.heap.size]? = some (.cells #[.int .i64 (i : Int), .int .i64 (s : Int), .int .i64 (z : Int), .int .i64 (q : Int), .int .i64 (r : Int), .int .i64 (m : Int)] 129 (0, 0)) → w'.cell? ⟨wr.heap.size, 0, none⟩ = some (.int .i64 (i : Int)) ∧ w'.cell? ⟨wr.heap.size, 1, none⟩ = some (.int .i64 (s : Int)) ∧ w'.cell? ⟨wr.heap.size, 2, none⟩ = some (.int .i64 (z : Int)) ∧ w'.cell? ⟨wr.heap.size, 3, none⟩ = some (.int .i64 (q : Int)) ∧ w'.cell? ⟨wr.heap.size, 4, none⟩ = some (.int .i64 (r : Int)) ∧ w'.cell? ⟨wr.heap.size, 5, none⟩ = some (.int .i64 (m : Int)) := fun w' hx => by
              obtain ⟨k, _⟩ := cells_of hx
              exact ⟨k 0, k 1, k 2, k 3, k 4, k 5⟩
            have HCV := Lib.hid hce
            clear hc hce
            go_wp2_with (first
              | (refine wpList_load_cells rfl 129 (.tmp 51) rfl b (o + k * 6) 6 rfl [.int .i64 i, .int .i64 s, .int .i64 z, .int .i64 q, .int .i64 r, .int .i64 m] _ HCC.out Tryd.underlying129 rfl infoVol rfl ?_)
              | (refine wpList_load_all rfl 129 (.tmp 8) rfl wr.heap.size 6 rfl _ _ _ _ HA.out Tryd.underlying129 rfl infoVol rfl ?_)
              | fail)
            refine HVO.out.mono ?_
            rintro e y0 ⟨rfl, u6⟩
            have HY0 := Lib.hid (u6.get HA.out (by simp))
            have hu6 := ((Upd.refl [] wr).alloc (.cells #[.int .i64 i, .int .i64 s, .int .i64 z, .int .i64 q, .int .i64 r, .int .i64 m] 129)).trans u6
            have V0 := Lib.hid (HU.out.trans hu6)
            have K0 := Lib.hid (HWR.out.upd hu6 (by simp))
            clear u6 hu6

            obtain ⟨q0, q1, q2, q3, q4, q5⟩ := HCV.out _ HY0.out
            go_wp2_with fail
            refine (put_any (n := i) (k := 4) K0.out (by decide) (by omega) (by simp only [List.length_append]; have := HL.out; omega)).mono ?_
            rintro e y1 ⟨rfl, h6, u6⟩
            have HY1 := Lib.hid (u6.get HY0.out (by simp; omega))
            have V1 := Lib.hid (V0.out.step u6 (fun x hx => .inr (by simp at hx; omega)))
            have K1 := Lib.hid h6
            clear h6 u6 q0 q1 q2 q3 q4 q5
            obtain ⟨q0, q1, q2, q3, q4, q5⟩ := HCV.out _ HY1.out
            go_wp2_with fail
            refine (put_any (n := s) (k := 1) K1.out (by decide) (by omega) (by simp only [List.length_append, be_len]; have := HL.out; omega)).mono ?_
            rintro e y2 ⟨rfl, h6, u6⟩
            have HY2 := Lib.hid (u6.get HY1.out (by simp; omega))
            have V2 := Lib.hid (V1.out.step u6 (fun x hx => .inr (by simp at hx; omega)))
            have K2 := Lib.hid h6
            clear h6 u6 q0 q1 q2 q3 q4 q5
            obtain ⟨q0, q1, q2, q3, q4, q5⟩ := HCV.out _ HY2.out
            go_wp2_with fail
            refine (put_any (n := z) (k := 4) K2.out (by decide) (by omega) (by simp only [List.length_append, be_len]; have := HL.out; omega)).mono ?_
            rintro e y3 ⟨rfl, h6, u6⟩
            have HY3 := Lib.hid (u6.get HY2.out (by simp; omega))
            have V3 := Lib.hid (V2.out.step u6 (fun x hx => .inr (by simp at hx; omega)))
            have K3 := Lib.hid h6
            clear h6 u6 q0 q1 q2 q3 q4 q5
            obtain ⟨q0, q1, q2, q3, q4, q5⟩ := HCV.out _ HY3.out
            go_wp2_with fail
            refine (put_any (n := q) (k := 4) K3.out (by decide) (by omega) (by simp only [List.length_append, be_len]; have := HL.out; omega)).mono ?_
            rintro e y4 ⟨rfl, h6, u6⟩
            have HY4 := Lib.hid (u6.get HY3.out (by simp; omega))
            have V4 := Lib.hid (V3.out.step u6 (fun x hx => .inr (by simp at hx; omega)))
            have K4 := Lib.hid h6
            clear h6 u6 q0 q1 q2 q3 q4 q5
            obtain ⟨q0, q1, q2, q3, q4, q5⟩ := HCV.out _ HY4.out
            go_wp2_with fail
            refine (put_any (n := r) (k := 2) K4.out (by decide) (by omega) (by simp only [List.length_append, be_len]; have := HL.out; omega)).mono ?_
            rintro e y5 ⟨rfl, h6, u6⟩
            have HY5 := Lib.hid (u6.get HY4.out (by simp; omega))
            have V5 := Lib.hid (V4.out.step u6 (fun x hx => .inr (by simp at hx; omega)))
            have K5 := Lib.hid h6
            clear h6 u6 q0 q1 q2 q3 q4 q5
            obtain ⟨q0, q1, q2, q3, q4, q5⟩ := HCV.out _ HY5.out
            go_wp2_with fail
            refine (put_any (n := m) (k := 4) K5.out (by decide) (by omega) (by simp only [List.length_append, be_len]; have := HL.out; omega)).mono ?_
            rintro e y6 ⟨rfl, h6, u6⟩
            have HY6 := Lib.hid (u6.get HY5.out (by simp; omega))
            have V6 := Lib.hid (V5.out.step u6 (fun x hx => .inr (by simp at hx; omega)))
            have K6 := Lib.hid h6
            clear h6 u6 q0 q1 q2 q3 q4 q5
            go_wp2
            go_roundw
            case rel =>
              refine ⟨k + 1, by omega, by go_num, fun j hj h7 => ?_, ?_, V6.out⟩
              · by_cases e : j = k
                · subst e; rw [HXE.out]; exact hI
                · exact HIN.out j (by omega) h7
              · have h := K6.out
                rw [HSS.out]
                unfold volBytes
                simp only [List.append_assoc] at h ⊢
                exact h
            case measure => simp [intOf]; omega
        · obtain rfl : k = 8 := by omega
          have HO := Lib.hid (HPS.out HOP.out (okVols_of fun k hk => HIN.out k (by have := HV8.out; omega) hk))
          have hWf := HWR.out
          rw [List.take_of_length_le (by rw [HV8.out]; exact Nat.le_refl _)] at hWf
          have HWF := Lib.hid hWf
          have HLE := Lib.hid (show (M ++ volsBytes vs).length ≤ 240 by rw [List.length_append, HPL.out, volsBytes_len, HV8.out]; decide)
          clear hWf
          go_wp2_with (go_at_call 64; refine (body_any HWF.out HLE.out).mono ?_; rintro e w2 ⟨rfl, rfl, h2⟩; have H2 := Lib.hid h2; clear h2)
          go_ret2
          rw [HO.out]
          exact ⟨PutOut.yes (H2.out.ret (by omega) (pad_len HLE.out) (by decide)), HU.out⟩
end Go.Proofs.YtkahpkmofeglgaaDoor
