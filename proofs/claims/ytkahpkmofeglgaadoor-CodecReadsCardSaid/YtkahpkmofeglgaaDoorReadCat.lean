/-
  PROVED HERE: the document's GetCatalogue, of any bytes. Conditions: the bytes can be read.
-/
import Derived.Test.YtkahpkmofeglgaaDoorLawCat
import Derived.Test.YtkahpkmofeglgaaDoorReadNode
import Derived.Deep.DeepCutAuto
import Derived.Deep.CutBlock
import Derived.StillTail
import Derived.StillTactics
import Derived.Deep.RegionHeld3
namespace Go.Proofs.YtkahpkmofeglgaaDoor
open Go.RowKit

section float
variable {P : Program} {ops : Array Oper} {md : Region.Mode} {w : World}

theorem not_ready_of {done : Array Bool} {t i : Nat} (h : Region.waitsFor md ops t i = true) (hu : done.getD i false = false) : t ∉ Region.ready md ops done := fun hr => by
  obtain ⟨_, o, ho, hall⟩ := mem_ready.1 hr
  obtain ⟨o', ho', e, he, hb, rfl⟩ := Region.waitsFor_spec h
  obtain rfl : o' = o := Option.some.inj (ho'.symm.trans ho)
  rw [hall e he hb] at hu; cases hu
theorem undone {done : Array Bool} {i : Nat} (h : done.getD i true = false) : done.getD i false = false := by
  rw [Array.getD_eq_getD_getElem?] at h ⊢
  cases hi : done[i]? with
  | none => rfl
  | some b => rw [hi] at h; exact h
theorem undone_in {done : Array Bool} {i : Nat} (hi : i < done.size) (h : done.getD i false = false) : done.getD i true = false := by
  rw [Array.getD_eq_getD_getElem?] at h ⊢
  rw [Array.getElem?_eq_getElem hi] at h ⊢
  exact h
/-- What is held while the head is taken: each of fs is taken already; of the others from n on none is; r: is g taken? -/
structure FloatInv (md : Region.Mode) (ops : Array Oper) (n g : Nat) (fs : List Nat) (r : Bool) (done : Array Bool) : Prop where
  size : done.size = ops.size
  down : ∀ j o, ops[j]? = some o → done.getD j false = true → ∀ e ∈ o.after, Region.binds md e = true → done.getD e.on false = true
  flt : ∀ f ∈ fs, done.getD f true = true
  g : done.getD g true = r
  rest : ∀ t, n ≤ t → t < ops.size → t ∉ fs → done.getD t true = false
/-- Each operation of the head has one behind it, up to n, that waits for it. -/
def floatSink (md : Region.Mode) (ops : Array Oper) (n g : Nat) (fs : List Nat) : Bool :=
  (List.range n).all fun i => fs.contains i || i == g || (List.range (n + 1)).any fun j => decide (i < j) && (!fs.contains j && (j != g && Region.waitsFor md ops j i))
/-- Each operation behind n, but for those of fs, waits for one from n on. -/
def floatChain (md : Region.Mode) (ops : Array Oper) (n : Nat) (fs : List Nat) : Bool :=
  (List.range ops.size).all fun t => decide (t ≤ n) || fs.contains t || (List.range ops.size).any fun p => decide (n ≤ p) && (!fs.contains p && Region.waitsFor md ops t p)
theorem float_waits {n g : Nat} {fs : List Nat} {r : Bool} {done : Array Bool} (hs : floatSink md ops n g fs = true) (hc : floatChain md ops n fs = true) (hn : n < ops.size) (hg : g < n) (inv : FloatInv md ops n g fs r done) :
    ∀ (d i : Nat), n - i ≤ d → i < n → i ≠ g → done.getD i true = false → ∀ t, n ≤ t → t ∉ Region.ready md ops done := by
  intro d
  induction d with
  | zero => intro i h1 h2; omega
  | succ d ih =>
    intro i hd hin hig hu t ht hr
    have htl : t < ops.size := by
      obtain ⟨_, o, ho, _⟩ := mem_ready.1 hr
      exact (Array.getElem?_eq_some_iff.1 ho).1
    have hun : ∀ f ∈ fs, done.getD f true ≠ false := fun f hf e => by rw [inv.flt f hf] at e; cases e
    rcases Nat.lt_or_ge n t with h | h
    · have h1 := List.all_eq_true.1 hc t (List.mem_range.2 htl)
      simp only [Bool.or_eq_true, decide_eq_true_eq, List.contains_iff_mem] at h1
      rcases h1 with (h1 | h1) | h1
      · omega
      · exact hun t h1 (mem_ready.1 hr).1
      · obtain ⟨p, hp, hq⟩ := List.any_eq_true.1 h1
        simp only [Bool.and_eq_true, decide_eq_true_eq, Bool.not_eq_true', List.contains_eq_mem, decide_eq_false_iff_not] at hq
        exact not_ready_of hq.2.2 (undone (inv.rest p hq.1 (List.mem_range.1 hp) hq.2.1)) hr
    · obtain rfl : t = n := by omega
      have h1 := List.all_eq_true.1 hs i (List.mem_range.2 hin)
      simp only [Bool.or_eq_true, List.contains_iff_mem, beq_iff_eq] at h1
      rcases h1 with (h1 | h1) | h1
      · exact hun i h1 hu
      · exact hig h1
      obtain ⟨j, hj, hq⟩ := List.any_eq_true.1 h1
      have hj := List.mem_range.1 hj
      simp only [Bool.and_eq_true, decide_eq_true_eq, Bool.not_eq_true', List.contains_eq_mem, decide_eq_false_iff_not, bne_iff_ne, ne_eq] at hq
      obtain ⟨hij, hjf, hjg, hq⟩ := hq
      rcases Nat.lt_or_ge j t with hjt | hjt
      · obtain ⟨o, ho, e, he, hb, hon⟩ := Region.waitsFor_spec hq
        have hju : done.getD j false = false := by
          cases hl : done.getD j false with
          | false => rfl
          | true =>
            have := inv.down j o ho hl e he hb
            rw [hon, undone hu] at this; cases this
        exact ih j (by omega) hjt hjg (undone_in (by rw [inv.size]; omega) hju) t ht hr
      · obtain rfl : j = t := by omega
        exact not_ready_of hq (undone hu) hr
theorem FloatInv.take {n g i : Nat} {fs : List Nat} {r : Bool} {done : Array Bool} (inv : FloatInv md ops n g fs r done) (hi : i ∈ Region.ready md ops done) (hin : i < n) (hig : i ≠ g) : FloatInv md ops n g fs r (done.setIfInBounds i true) := by
  obtain ⟨hu, oi, hoi, hall⟩ := mem_ready.1 hi
  refine ⟨by rw [Array.size_setIfInBounds]; exact inv.size, fun j o ho hl e he hb => ?_, fun f hf => ?_, by rw [getD_set_ne true hig]; exact inv.g, fun t ht htl hf => by rw [getD_set_ne true (by omega)]; exact inv.rest t ht htl hf⟩
  · by_cases e1 : i = j
    · subst e1
      obtain rfl : oi = o := Option.some.inj (hoi.symm.trans ho)
      exact getD_set_true (hall e he hb)
    · rw [getD_set_ne false e1] at hl
      exact getD_set_true (inv.down j o ho hl e he hb)
  · rw [getD_set_ne true (fun e => by subst e; rw [inv.flt _ hf] at hu; cases hu)]; exact inv.flt f hf
theorem FloatInv.takeG {n g : Nat} {fs : List Nat} {done : Array Bool} (inv : FloatInv md ops n g fs false done) (hi : g ∈ Region.ready md ops done) (hg : g < n) (hn : n < ops.size) : FloatInv md ops n g fs true (done.setIfInBounds g true) := by
  obtain ⟨hu, oi, hoi, hall⟩ := mem_ready.1 hi
  refine ⟨by rw [Array.size_setIfInBounds]; exact inv.size, fun j o ho hl e he hb => ?_, fun f hf => ?_, ?_, fun t ht htl hf => by rw [getD_set_ne true (by omega)]; exact inv.rest t ht htl hf⟩
  · by_cases e1 : g = j
    · subst e1
      obtain rfl : oi = o := Option.some.inj (hoi.symm.trans ho)
      exact getD_set_true (hall e he hb)
    · rw [getD_set_ne false e1] at hl
      exact getD_set_true (inv.down j o ho hl e he hb)
  · rw [getD_set_ne true (fun e => by subst e; rw [inv.flt _ hf] at hu; cases hu)]; exact inv.flt f hf
  · rw [Array.getD_eq_getD_getElem?, Array.getElem?_setIfInBounds_self_of_lt (by rw [inv.size]; omega)]; rfl
/-- The head's operations leave the world, in whatever order they come; g is not taken. -/
def wpHead (P : Program) (md : Region.Mode) (ops : Array Oper) (w : World) (n g : Nat) (L : Array Bool → Act → Prop) : Nat → Array Bool → Act → Prop
  | 0, done, a => L done a
  | m + 1, done, a => (∃ i ∈ Region.ready md ops done, i ≠ g) ∧ ∀ i ∈ Region.ready md ops done, i ≠ g → i < n ∧ stOp P ops w i (wpHead P md ops w n g L m (done.setIfInBounds i true)) a
theorem float_first {n g i : Nat} {fs : List Nat} {oi : Oper} {v : Value} {L : Array Bool → Act → Prop} (hi : ops[i]? = some oi) (hsel : Region.noSelect ops = true)
    (hs : floatSink md ops n g fs = true) (hc : floatChain md ops n fs = true) (hn : n < ops.size) (hg : g < n) (hin : i < n) (hig : i ≠ g) (hL : ∀ done a, L done a → ∀ j ∈ Region.ready md ops done, j ≠ g → n ≤ j) :
    ∀ (m : Nat) (done : Array Bool) (a : Act), FloatInv md ops n g fs false done →
      (∀ j oj, ops[j]? = some oj → j ≠ i → done.getD j true = false → (∀ e ∈ oj.after, Region.binds md e = true → e.on ≠ i) → oi.apart ops oj = true) →
      i ∈ Region.ready md ops done → YieldsAt P ops w oi v a →
      wpHead P md ops w n g L m (done.setIfInBounds i true) (a.put oi.dst v) → wpHead P md ops w n g L (m + 1) done a
  | m, done, a, inv, hfree, hr, hy, H => by
    refine ⟨⟨i, hr, hig⟩, fun j hj hjg => ?_⟩
    have hjn : j < n := Nat.lt_of_not_le fun h => float_waits hs hc hn hg inv n i (by omega) hin hig (mem_ready.1 hr).1 j h hj
    refine ⟨hjn, ?_⟩
    by_cases hji : j = i
    · subst hji; exact hy.stOp hi H
    · cases m with
      | zero => exact absurd (hL _ _ H j (ready_mono hj hji) hjg) (by omega)
      | succ m =>
        obtain ⟨hju, oj, hoj, hall⟩ := mem_ready.1 hj
        have hno : ∀ e ∈ oj.after, Region.binds md e = true → e.on ≠ i := fun e he hb h => by
          have h1 := hall e he hb
          rw [h, undone (mem_ready.1 hr).1] at h1; cases h1
        have h2 := stOp_put hoj (hfree j oj hoj hji hju hno) (fun cs b => Region.noSelect_spec hsel i oi cs b hi) (fun cs b => Region.noSelect_spec hsel j oj cs b hoj) hy (H.2 j (ready_mono hj hji) hjg).2
        refine stOp_mono (fun a' h3 => float_first hi hsel hs hc hn hg hin hig hL m (done.setIfInBounds j true) a' (inv.take hj hjn hjg) (fun k ok hk hki hku hk2 => ?_) (ready_mono hr (Ne.symm hji)) h3.1 ?_) h2
        · refine hfree k ok hk hki ?_ hk2
          by_cases e : j = k
          · subst e; exact hju
          · rw [getD_set_ne true e] at hku; exact hku
        · rw [Array.setIfInBounds_comm _ _ hji]; exact h3.2
/-- One that is apart runs as well behind the other's value. -/
theorem stOp_behind {j : Nat} {oi oj : Oper} {v : Value} (hj : ops[j]? = some oj) (hap : oi.apart ops oj = true) (hsi : ∀ cs b, oi.op ≠ .select cs b) (hsj : ∀ cs b, oj.op ≠ .select cs b) {K : Act → Prop} {a : Act}
    (hy : YieldsAt P ops w oi v a) (h : stOp P ops w j K a) :
    stOp P ops w j (fun b => ∃ a', b = a'.put oi.dst v ∧ YieldsAt P ops w oi v a' ∧ K a') (a.put oi.dst v) ∧ stOp P ops w j (fun a' => YieldsAt P ops w oi v a' ∧ K a') a := by
  obtain ⟨h1, h2, h3⟩ := Oper.apart_spec hap
  obtain ⟨u, hu, hk⟩ := yieldsAt_of_stOp hj h
  have keep : YieldsAt P ops w oi v (a.put oj.dst u) := hy.of_same (execOp_put oi hsi a oj.dst u h3) (wanted_put oi a oj.dst u h3)
  refine ⟨YieldsAt.stOp hj (hu.of_same (execOp_put oj hsj a oi.dst v h1) (wanted_put oj a oi.dst v h1)) ⟨a.put oj.dst u, Act.put_comm a v u h2, keep, hk⟩, hu.stOp hj ⟨keep, hk⟩⟩
section loose
variable {n g q : Nat} {fs : List Nat} {og : Oper} {v : Value} {L : Array Bool → Act → Prop} {Q : Exit → Act → World → Prop}
/-- Who waits for g stands from n on. -/
def looseB (md : Region.Mode) (ops : Array Oper) (n g : Nat) : Bool := (List.range n).all fun i => !Region.waitsFor md ops i g
theorem head_ready {done : Array Bool} (hlo : looseB md ops n g = true) {j : Nat} (hj : j ∈ Region.ready md ops (done.setIfInBounds g true)) (hjn : j < n) (hjg : j ≠ g) : j ∈ Region.ready md ops done := by
  obtain ⟨hu, o, ho, hall⟩ := mem_ready.1 hj
  refine mem_ready.2 ⟨by rwa [getD_set_ne true (Ne.symm hjg)] at hu, o, ho, fun e he hb => ?_⟩
  have h1 := hall e he hb
  by_cases hg : g = e.on
  · have h2 := List.all_eq_true.1 hlo j (List.mem_range.2 hjn)
    have h3 : Region.waitsFor md ops j g = true := by
      unfold Region.waitsFor
      rw [ho]
      exact Array.any_eq_true'.2 ⟨e, he, by simp [hb, hg]⟩
    rw [h3] at h2; cases h2
  · rwa [getD_set_ne false hg] at h1
theorem float_late (hog : ops[g]? = some og) (hsel : Region.noSelect ops = true) (hs : floatSink md ops n g fs = true) (hc : floatChain md ops n fs = true) (hn : n < ops.size) (hg : g < n) (hlo : looseB md ops n g = true)
    (hap : ∀ j oj, ops[j]? = some oj → j ≠ g → j < n → j ∉ fs → og.apart ops oj = true) (hL : ∀ done a, L done a → wpAny P md ops Q q (done.setIfInBounds g true) (a.put og.dst v) w) :
    ∀ (m : Nat) (done : Array Bool) (a : Act), FloatInv md ops n g fs false done → g ∈ Region.ready md ops done → YieldsAt P ops w og v a → wpHead P md ops w n g L m done a → wpAny P md ops Q (m + q) (done.setIfInBounds g true) (a.put og.dst v) w
  | 0, done, a, _, _, _, H => by rw [Nat.zero_add]; exact hL _ _ H
  | m + 1, done, a, inv, hgr, hy, H => by
    obtain ⟨⟨i, hi, hig⟩, H2⟩ := H
    have hin := (H2 i hi hig).1
    have inv' := inv.takeG hgr hg hn
    rw [show m + 1 + q = (m + q) + 1 by omega]
    refine ⟨fun h0 => ?_, fun j hj => ?_⟩
    · have := ready_mono hi hig
      rw [h0] at this; cases this
    have hjg : j ≠ g := fun e => by
      have := (mem_ready.1 hj).1
      rw [e, inv'.g] at this; cases this
    have hjn : j < n := Nat.lt_of_not_le fun h => float_waits hs hc hn hg inv' n i (by omega) hin hig (by rw [getD_set_ne true (Ne.symm hig)]; exact (mem_ready.1 hi).1) j h hj
    have hj0 := head_ready hlo hj hjn hjg
    obtain ⟨hju, oj, hoj, _⟩ := mem_ready.1 hj0
    have h2 := (stOp_behind hoj (hap j oj hoj hjg hjn fun hf => by have := inv.flt j hf; rw [hju] at this; cases this) (fun cs b => Region.noSelect_spec hsel g og cs b hog) (fun cs b => Region.noSelect_spec hsel j oj cs b hoj) hy (H2 j hj0 hjg).2).1
    refine wpOp_of_stOp (fun b hb => ?_) h2
    obtain ⟨a', rfl, hy', hk⟩ := hb
    rw [Array.setIfInBounds_comm _ _ (Ne.symm hjg)]
    exact float_late hog hsel hs hc hn hg hlo hap hL m _ a' (inv.take hj0 hjn hjg) (ready_mono hgr (Ne.symm hjg)) hy' hk
theorem float_loose (hog : ops[g]? = some og) (hsel : Region.noSelect ops = true) (hs : floatSink md ops n g fs = true) (hc : floatChain md ops n fs = true) (hn : n < ops.size) (hg : g < n) (hlo : looseB md ops n g = true)
    (hap : ∀ j oj, ops[j]? = some oj → j ≠ g → j < n → j ∉ fs → og.apart ops oj = true) (hL : ∀ done a, L done a → wpAny P md ops Q q (done.setIfInBounds g true) (a.put og.dst v) w) (hL0 : ∀ done a, L done a → YieldsAt P ops w og v a → wpAny P md ops Q (q + 1) done a w) :
    ∀ (m : Nat) (done : Array Bool) (a : Act), FloatInv md ops n g fs false done → g ∈ Region.ready md ops done → YieldsAt P ops w og v a → wpHead P md ops w n g L m done a → wpAny P md ops Q (m + (q + 1)) done a w
  | 0, done, a, _, _, hy, H => by rw [Nat.zero_add]; exact hL0 _ _ H hy
  | m + 1, done, a, inv, hgr, hy, H => by
    have H0 := H
    obtain ⟨⟨i, hi, hig⟩, H2⟩ := H
    rw [show m + 1 + (q + 1) = (m + (q + 1)) + 1 by omega]
    refine ⟨fun h0 => (by rw [h0] at hi; cases hi), fun j hj => ?_⟩
    by_cases hjg : j = g
    · subst hjg
      refine wpOp_of_stOp (fun a' h => h) (hy.stOp hog ?_)
      have := float_late hog hsel hs hc hn hg hlo hap hL (m + 1) done a inv hgr hy H0
      rwa [show m + 1 + q = m + (q + 1) by omega] at this
    · have hjn := (H2 j hj hjg).1
      obtain ⟨hju, oj, hoj, _⟩ := mem_ready.1 hj
      have h2 := (stOp_behind hoj (hap j oj hoj hjg hjn fun hf => by have := inv.flt j hf; rw [hju] at this; cases this) (fun cs b => Region.noSelect_spec hsel g og cs b hog) (fun cs b => Region.noSelect_spec hsel j oj cs b hoj) hy (H2 j hj hjg).2).2
      exact wpOp_of_stOp (fun a' h => float_loose hog hsel hs hc hn hg hlo hap hL hL0 m _ a' (inv.take hj hjn hjg) (ready_mono hgr (Ne.symm hjg)) h.1 h.2) h2
end loose
/-- The operations ts, each alone ready in its turn. -/
def seqL (md : Region.Mode) (ops : Array Oper) : List Nat → Array Bool → Bool
  | [], done => (Region.ready md ops done).isEmpty
  | t :: ts, done => decide (Region.ready md ops done = [t]) && seqL md ops ts (done.setIfInBounds t true)
theorem wpAny_of_seqL {Q : Exit → Act → World → Prop} : ∀ (ts : List Nat) (tl : List Oper) (done : Array Bool) (a : Act) (w : World), ts.map (ops[·]?) = tl.map some → seqL md ops ts done = true → wpList P ops Q tl a w → wpAny P md ops Q ts.length done a w
  | [], tl, done, a, w, ht, hB, h => by
    cases tl with
    | nil => exact ⟨by simpa [seqL] using hB, h⟩
    | cons => simp at ht
  | t :: ts, [], _, _, _, ht, _, _ => by simp at ht
  | t :: ts, o :: tl, done, a, w, ht, hB, h => by
    simp only [List.map_cons, List.cons.injEq] at ht
    simp only [seqL, Bool.and_eq_true, decide_eq_true_eq] at hB
    refine ⟨fun h1 => (by rw [hB.1] at h1; cases h1), fun i hi => ?_⟩
    rw [hB.1, List.mem_singleton] at hi
    subst hi
    refine wpOp_mono (fun a' w' h' => wpAny_of_seqL ts tl _ a' w' ht.2 hB.2 h') (K := wpList P ops Q tl) ?_
    unfold wpOp
    rw [ht.1]
    exact h
/-- The head in the text's order but for fs and g, then the two ways of the tail: g ahead of it, or behind its first. -/
def headL (md : Region.Mode) (ops : Array Oper) (g t : Nat) (ts : List Nat) : List Nat → Array Bool → Bool
  | [], done => decide (Region.ready md ops done = [g, t]) && (seqL md ops (t :: ts) (done.setIfInBounds g true) && seqL md ops (g :: ts) (done.setIfInBounds t true))
  | k :: ks, done => (Region.ready md ops done).contains k && (Region.free md ops done k && headL md ops g t ts ks (done.setIfInBounds k true))
theorem float_lex {n g t : Nat} {fs ts : List Nat} {Lq : Act → Prop} (hsel : Region.noSelect ops = true) (hs : floatSink md ops n g fs = true) (hc : floatChain md ops n fs = true) (hn : n < ops.size) (hg : g < n) (ht : n ≤ t) :
    ∀ (ks : List Nat) (l : List Oper) (done : Array Bool) (a : Act), ks.map (ops[·]?) = l.map some → (∀ k ∈ ks, k < n ∧ k ≠ g) → FloatInv md ops n g fs false done → headL md ops g t ts ks done = true → wpStill P ops w Lq l a →
      wpHead P md ops w n g (fun done' a' => headL md ops g t ts [] done' = true ∧ Lq a') ks.length done a
  | [], l, done, a, hl, _, _, hB, h => by
    cases l with
    | nil => exact ⟨hB, h⟩
    | cons => simp at hl
  | k :: ks, [], _, _, hl, _, _, _, _ => by simp at hl
  | k :: ks, o :: l, done, a, hl, hk, inv, hB, h => by
    simp only [List.map_cons, List.cons.injEq] at hl
    simp only [headL, Bool.and_eq_true] at hB
    have hr : k ∈ Region.ready md ops done := by simpa using hB.1
    have hst : stOp P ops w k (wpStill P ops w Lq l) a := by unfold stOp; rw [hl.1]; exact h
    obtain ⟨v, hy, hK⟩ := yieldsAt_of_stOp hl.1 hst
    have hkk := hk k (by simp)
    exact float_first hl.1 hsel hs hc hn hg hkk.1 hkk.2 (fun done' a' hh j hj hjg => by
        have h1 := hh.1
        simp only [headL, Bool.and_eq_true, decide_eq_true_eq] at h1
        rw [h1.1] at hj
        simp at hj
        omega) ks.length done a inv (Region.free_spec hl.1 hB.2.1) hr hy
      (float_lex hsel hs hc hn hg ht ks l _ _ hl.2 (fun k' h' => hk k' (by simp [h'])) (inv.take hr hkk.1 hkk.2) hB.2.2 hK)
/-- What the kernel reckons of such a region. -/
def floatB (ops : Array Oper) (n g f : Nat) (ks ts : List Nat) : Bool :=
  Region.noSelect ops && (decide (n < ops.size) && (decide (ks.length + ts.length + 3 = ops.size) && (decide (g < n) && (ks.all (fun k => decide (k < n) && k != g) && (floatSink .any ops n g [f] && (floatChain .any ops n [f] && (looseB .any ops n g &&
    ((List.range n).all (fun j => j == g || j == f || (match ops[g]?, ops[j]? with | some x, some y => x.apart ops y | _, _ => true)) &&
    (((Region.ready .any ops (Array.replicate ops.size false)).contains f && Region.free .any ops (Array.replicate ops.size false) f) &&
    ((Region.ready .any ops ((Array.replicate ops.size false).setIfInBounds f true)).contains g && headL .any ops g n ts ks ((Array.replicate ops.size false).setIfInBounds f true)))))))))))
/-- lk: the operations at the places ks. -/
def picks (l : List Oper) : List Nat → List Oper → Prop
  | [], lk => lk = []
  | k :: ks, lk => ∃ o r, lk = o :: r ∧ l[k]? = some o ∧ picks l ks r
theorem picks.nil {l : List Oper} : picks l [] [] := rfl
theorem picks.cons {l : List Oper} {k : Nat} {ks : List Nat} {o : Oper} {r : List Oper} (h : l[k]? = some o) (hr : picks l ks r) : picks l (k :: ks) (o :: r) := ⟨o, r, rfl, h, hr⟩
theorem picks.map {l : List Oper} : ∀ {ks : List Nat} {lk : List Oper}, picks l ks lk → ks.map (l[·]?) = lk.map some
  | [], _, h => by rw [show _ = [] from h]; rfl
  | k :: ks, _, ⟨o, r, h1, h2, h3⟩ => by rw [h1, List.map_cons, List.map_cons, h2, picks.map h3]
theorem replicate_undone {m j : Nat} : (Array.replicate m false).getD j false = false := by
  rw [Array.getD_eq_getD_getElem?, Array.getElem?_replicate]
  split <;> rfl
/-- A region that draws its order: f looks at no memory; g reads; those of ks leave the world; behind them n, then those of ts, each waiting for the last; g may come behind n. -/
theorem wp_region_float {id : Nat} {Q : Exit → Act → World → Prop} {a : Act} {l : List Oper} (n g f : Nat) (ks ts : List Nat) (lk lt : List Oper) {o0 og on : Oper} {v0 v : Value} (hm : P.follows .mixedOrders = true)
    (hB : floatB l.toArray n g f ks ts = true) (hks : picks l ks lk) (hts : picks l ts lt) (h0 : l[f]? = some o0) (hg : l[g]? = some og) (hn : l[n]? = some on)
    (hy0 : Yields P l.toArray o0 v0 a) (hy : YieldsAt P l.toArray w.drew og v (a.put o0.dst v0))
    (h : wpStill P l.toArray w.drew (fun a' => wpList P l.toArray (NoPanic Q) (on :: lt) (a'.put og.dst v) w.drew ∧ wpList P l.toArray (NoPanic Q) (on :: og :: lt) a' w.drew) lk (a.put o0.dst v0)) : (Code.region id l.toArray true).wp P Q a w := by
  simp only [floatB, Bool.and_eq_true, decide_eq_true_eq, List.all_eq_true, bne_iff_ne, ne_eq] at hB
  obtain ⟨hsel, hnl, hlen, hgn, hkk, hs, hc, hlo, hap, ⟨hr0, hf0⟩, hrg, hh⟩ := hB
  have hks := hks.map
  have hts := hts.map
  have a0 : l.toArray[f]? = some o0 := by simpa using h0
  have ag : l.toArray[g]? = some og := by simpa using hg
  have an : l.toArray[n]? = some on := by simpa using hn
  have hr0' := (mem_ready.1 (List.contains_iff_mem.1 hr0)).2
  have b0 : f < l.toArray.size := (Array.getElem?_eq_some_iff.1 a0).1
  refine wp_region_noPanic (wp_region_any hm ?_)
  rw [show wpAny P .any l.toArray (NoPanic Q) l.toArray.size = wpAny P .any l.toArray (NoPanic Q) ((ks.length + (ts.length + 1 + 1)) + 1) from congrArg _ (by omega)]
  refine wpAny_take a0 hsel hf0 hr0 (fun c a w h => h) hy0 ?_
  have inv0 : FloatInv .any l.toArray n g [f] false ((Array.replicate l.toArray.size false).setIfInBounds f true) := by
    refine ⟨by simp, fun j oj hj hl e he hb => ?_, fun f' hf => ?_, (mem_ready.1 (List.contains_iff_mem.1 hrg)).1, fun t h1 h2 h3 => ?_⟩
    · by_cases e0 : f = j
      · subst e0
        obtain ⟨o', ho', hall⟩ := hr0'
        obtain rfl : o' = oj := Option.some.inj (ho'.symm.trans hj)
        have := hall e he hb
        rw [replicate_undone] at this; cases this
      · rw [getD_set_ne false e0, replicate_undone] at hl; cases hl
    · obtain rfl : f' = f := by simpa using hf
      rw [Array.getD_eq_getD_getElem?, Array.getElem?_setIfInBounds_self_of_lt (by simpa using b0)]; rfl
    · have h3 : t ≠ f := by simpa using h3
      rw [getD_set_ne true (Ne.symm h3), Array.getD_eq_getD_getElem?, Array.getElem?_replicate, if_pos h2]; rfl
  have H := float_lex (P := P) (w := w.drew) (md := .any) hsel hs hc hnl hgn (Nat.le_refl n) ks lk _ _ (by simpa using hks) (fun k hk => hkk k hk) inv0 hh h
  have hap' : ∀ j oj, l.toArray[j]? = some oj → j ≠ g → j < n → j ∉ [f] → og.apart l.toArray oj = true := fun j oj hj hjg hjn hjf => by
    have := hap j (List.mem_range.2 hjn)
    rw [ag, hj] at this
    simpa [hjg, show j ≠ f by simpa using hjf] using this
  refine float_loose (q := ts.length + 1) (v := v) ag hsel hs hc hnl hgn hlo hap' (fun done' a' hd => ?_) (fun done' a' hd hy' => ?_) _ _ _ inv0 (List.contains_iff_mem.1 hrg) hy H
  · have h3 := hd.1
    simp only [headL, Bool.and_eq_true, decide_eq_true_eq] at h3
    exact wpAny_of_seqL (n :: ts) (on :: lt) _ _ _ (by simpa [hn] using hts) h3.2.1 hd.2.1
  · have h3 := hd.1
    simp only [headL, Bool.and_eq_true, decide_eq_true_eq] at h3
    refine ⟨fun h4 => (by rw [h3.1] at h4; cases h4), fun j hj => ?_⟩
    rw [h3.1] at hj
    simp only [List.mem_cons, List.not_mem_nil, or_false] at hj
    rcases hj with rfl | rfl
    · exact wpOp_of_stOp (fun b hb => hb) (hy'.stOp ag (wpAny_of_seqL (n :: ts) (on :: lt) _ _ _ (by simpa [hn] using hts) h3.2.1 hd.2.1))
    · refine wpOp_mono (fun b w' hb => wpAny_of_seqL (g :: ts) (og :: lt) _ b w' (by simpa [hg] using hts) h3.2.2 hb) (K := wpList P l.toArray (NoPanic Q) (og :: lt)) ?_
      unfold wpOp
      rw [an]
      exact hd.2.2
end float

set_option maxRecDepth 100000 in
set_option maxHeartbeats 12800000 in
theorem rgetCat_any {w : World} {a : Option Addr} {l : List Nat} {cap : Nat} (hb : IsBytes w a l) (hl : l.length ≤ 9223372036854775807) :
    Calls Tryd.prog 50 #[.slice a l.length cap] w fun e w' => CatRes w.heap.size (refCat l) e w' ∧ Upd [] w w' := by
  have HB0 : Hid (∀ w', Upd [] w w' → IsBytes w' a l) := fun w' u => hb.upd u (by simp)
  have HCN := Lib.hid (show numi (seg l 4 1) = (catCount l : Int) from seg_nat hb.1 4 1 (by decide))
  obtain ⟨N, hN⟩ : ∃ N, numi (seg l 0 4) = N := ⟨_, rfl⟩
  have HCO : Hid (∀ k, catOf l k = ⟨N, stackOf l k, volsOf l 8⟩) := fun k => by unfold catOf; rw [hN]
  have hna : ∀ w', Upd [] w w' → ∀ x k : Int, 0 ≤ k → k ≤ 8 → 0 ≤ x → x ≤ 1000 → Calls Tryd.prog 69 #[.slice a l.length cap, .int .i64 x, .int .i64 k] w' fun e w'' => e = .returned (.int .i64 (numi (seg l x.toNat k.toNat))) ∧ w' = w'' := fun w' u x k h1 h2 h3 h4 => number_i (cap := cap) x k (HB0.out w' u) hl h1 h2 h3 h4
  have HNA := Lib.hid hna
  have hX0 := heap_alloc_new w (.cells #[.int .i64 0, .slice none 0 0, .slice none 0 0] 75)
  have hU0 := (Upd.refl [] w).alloc (.cells #[.int .i64 0, .slice none 0 0, .slice none 0 0] 75)
  have hX1 := ((Upd.refl [] _).alloc (.cells #[.int .i64 N, .slice none 0 0, .slice none 0 0] 75)).get hX0 (by simp)
  have hP1 := heap_alloc_new (w.alloc (.cells #[.int .i64 0, .slice none 0 0, .slice none 0 0] 75)) (.cells #[.int .i64 N, .slice none 0 0, .slice none 0 0] 75)
  rw [show (w.alloc (.cells #[.int .i64 0, .slice none 0 0, .slice none 0 0] 75)).heap.size = w.heap.size + 1 by simp] at hP1
  have HU1 := Lib.hid (hU0.alloc (.cells #[.int .i64 N, .slice none 0 0, .slice none 0 0] 75))
  have HX1 := Lib.hid hX1
  have hb1 := fun w => buildCat N w
  have hbd0 := buildCat0
  have HN1 := hna _ hU0 0 4 (by decide) (by decide) (by decide) (by decide)
  rw [show seg l (Int.toNat 0) (Int.toNat 4) = seg l 0 4 from rfl, hN] at HN1
  have H1 := Lib.hid HN1
  have HL := Lib.hid hl
  have HF0 := Lib.hid (show HalfC ((w.alloc (.cells #[.int .i64 0, .slice none 0 0, .slice none 0 0] 75)).alloc (.cells #[.int .i64 N, .slice none 0 0, .slice none 0 0] 75)) (w.heap.size + 1) N [] (stackOf l 0) from ⟨_, _, hP1, VolsOut.nil _ _, by simpa [stackOf] using IntsOut.nil _ _, by simp [Value.ownBlock]⟩)
  clear hb hX0 hU0 hX1 hP1 HN1 hna hN hl
  go_enter Tryd.func50, Tryd.ntmps50
  have hmn : min (catCount l) 8 ≤ catCount l ∧ min (catCount l) 8 ≤ 8 ∧ (min (catCount l) 8 = catCount l ∨ min (catCount l) 8 = 8) := by omega
  have hrf : refCat l = if okCat (catOf l (min (catCount l) 8)) && decide (pad (catBytes (catOf l (min (catCount l) 8))) 240 = l) then some (catOf l (min (catCount l) 8)) else none := rfl
  generalize min (catCount l) 8 = m at hmn hrf
  generalize catCount l = n at hmn HCN
  obtain ⟨hm1, hm2, hm3⟩ := hmn
  have HRF := Lib.hid hrf
  have HM3 := Lib.hid hm3
  clear hrf hm3
  go_upto_block 0 with (go_at_call 69; (with_reducible refine H1.out.mono ?_); rintro e w' ⟨rfl, rfl⟩)
  go_cut [5] (fun _ wc => HalfC wc (w.heap.size + 1) N (volsOf l 0) (stackOf l m) ∧ wc.heap[w.heap.size]? = some (.cells #[.int .i64 0, .slice none 0 0, .slice none 0 0] 75 (0, 0)) ∧ Upd [] w wc)
  case first =>
    go_wp2_with fail
    go_loopw [5] (fun i wr => ∃ k : Nat, k ≤ m ∧ i = .int .i64 k ∧ HalfC wr (w.heap.size + 1) N [] (stackOf l k) ∧ wr.heap[w.heap.size]? = some (.cells #[.int .i64 0, .slice none 0 0, .slice none 0 0] 75 (0, 0)) ∧ Upd [] w wr) (fun i _ => m - (intOf i).toNat)
    case atStart => exact ⟨0, by omega, rfl, HF0.out, HX1.out, HU1.out⟩
    case round =>
      obtain ⟨k, hk, rfl, hF, hX, hU⟩ := hrel
      have HU := Lib.hid hU
      have HXr := Lib.hid hX
      have HF := Lib.hid hF
      have hnc := HNA.out _ hU 4 1 (by decide) (by decide) (by decide) (by decide)
      rw [show seg l (Int.toNat 4) (Int.toNat 1) = seg l 4 1 from rfl, HCN.out] at hnc
      have HNC := Lib.hid hnc
      clear hX hU hnc hF
      by_cases hlt7 : k < m
      · have d0 : k < n := by omega
        have d3 : k < 8 := by omega
        have d1 : decide ((k : Int) < (n : Int)) = true := decide_eq_true (by omega)
        have d2 : decide ((k : Int) < 8) = true := decide_eq_true (by omega)
        obtain ⟨v, s, hcb, hvo, hio, hdis⟩ := HF.out
        obtain ⟨av, cv, rfl, _⟩ := hvo.slice
        obtain ⟨ap, cp, rfl, _, _, _, _⟩ := hio.slice
        have HLK := Lib.hid (show (stackOf l k).length ≤ 10000000000000 by rw [stackOf_len]; omega)
        generalize (stackOf l k).length = ns at hcb hio hdis
        have HSK := Lib.hid (stackOf_succ l k)
        have hnb := HNA.out _ HU.out.drew (5 + 2 * (k : Int)) 2 (by decide) (by decide) (by omega) (by omega)
        rw [show (5 + 2 * (k : Int)).toNat = 5 + 2 * k by omega, show (2 : Int).toNat = 2 from rfl] at hnb
        generalize numi (seg l (5 + 2 * k) 2) = x at hnb HSK
        have HNB := Lib.hid hnb
        have HCB := Lib.hid hcb
        have HVO := Lib.hid hvo
        have HIO := Lib.hid hio
        have HDIS := Lib.hid hdis
        have hcel : ∀ S wx, Upd S wr wx → (∀ y ∈ S, y ≠ w.heap.size + 1) → wx.cell? ⟨w.heap.size + 1, 2, none⟩ = some (.slice ap ns cp) ∧ wx.frozen? ⟨w.heap.size + 1, 2, none⟩ = false := fun S wx u h => by
          obtain ⟨k1, k2⟩ := cells_of (u.get hcb (fun hm => h _ hm rfl))
          exact ⟨k1 2, k2 2⟩
        have HCEL := Lib.hid hcel
        have hsz := lt_of_block hcb
        obtain ⟨p0, f0⟩ := hcel [] wr (Upd.refl _ _) (by simp)
        have HOS : Hid (∀ y ∈ (Value.slice ap ns cp).ownBlock.toList, w.heap.size + 2 ≤ y) := fun y hy => (hio.low y hy).1
        have hw4 : IntKind.i64.wrap (2 * (k : Int)) = 2 * (k : Int) := IntWalk.i64_in _ (by omega)
        have hw5 : IntKind.i64.wrap (5 + 2 * (k : Int)) = 5 + 2 * (k : Int) := IntWalk.i64_in _ (by omega)
        clear hnb hcb hvo hio hdis hcel
        go_upto_region 5 with (go_at_call 69; (with_reducible refine HNC.out.mono ?_); rintro e w' ⟨rfl, rfl⟩)
        apply wp_region_float 7 1 0 [2, 3, 4, 5, 6] [8, 9, 10] (v0 := .pointer (some ⟨w.heap.size + 1, 2, none⟩)) (v := .slice ap ns cp) (hm := by kernel_rfl) (h0 := rfl) (hg := rfl) (hn := rfl)
        case hks => (repeat apply picks.cons rfl); apply picks.nil
        case hts => (repeat apply picks.cons rfl); apply picks.nil
        case hB => kernel_rfl
        case hy0 =>
          refine .inl ⟨rfl, fun wz => ?_⟩
          go_simp
        case hy =>
          refine .inl ⟨rfl, .inl ?_⟩
          go_simp
        case h =>
        iterate 4 still_step
        still_call (HNB.out.mono fun _ _ h => ⟨h.1, h.2.symm⟩)
        refine wpStill_nil ⟨?_, ?_⟩
        · (refine wpList_step (fun K hK => ?_); go_simp; refine hK _ _ ?_; clear hK K)
          refine wpList_step (fun K hK => ?_)
          refine step_pushi2 (w0 := wr) (S0 := []) rfl (.tmp 24) (.tmp 30) rfl (v := .slice ap ns cp) (l := stackOf l k) rfl ?uk HIO.out (fun y _ h => by cases h) _ _ x rfl ?ck HLK.out hsz ?_; (case uk => exact ((Upd.refl _ wr).alloc _).drew); (case ck => first | exact new1 _ _ | exact new4 _ _); intro a7 n7 c7 w7 hn7 hm7 hu7 hb7; have N7 := Lib.hid hn7; have M7 := Lib.hid hm7; obtain ⟨p2, f2⟩ := HCEL.out _ _ hu7 (fun y hy => by have := HOS.out y (by simpa using hy); omega); have hsz7 := Nat.lt_of_lt_of_le hsz hu7.size; clear hn7 hm7 hu7 hb7
          refine hK _ _ ?_
          clear hK K
          iterate 2 (refine wpList_step (fun K hK => ?_); go_simp; refine hK _ _ ?_; clear hK K)
          refine wpList_nil (NoPanic.normal ?_)
          go_wp2
          go_roundw
          case rel =>
            have hx1 : Upd [] wr (wr.alloc (.cells #[.int .i64 x] 3)).drew := ((Upd.refl _ wr).alloc _).drew
            have hl5 := leafS (hx1.get HCB.out (by simp)) (HVO.out.upd hx1 (by simp)) (fun y hy => HOS.out y hy) N7.out M7.out HDIS.out
            exact ⟨k + 1, by omega, by go_num, by rw [HSK.out]; exact hl5.1, hl5.2.get (hx1.get HXr.out (by simp)) (fun h => by rcases List.mem_cons.1 h with h | h; omega; have := HOS.out _ h; omega), (HU.out.trans hx1).step hl5.2 (fun y hy => .inr (by rcases List.mem_cons.1 hy with h | h; omega; have := HOS.out _ h; omega))⟩
          case measure => simp [intOf]; omega
        · iterate 2 (refine wpList_step (fun K hK => ?_); go_simp; refine hK _ _ ?_; clear hK K)
          refine wpList_step (fun K hK => ?_)
          refine step_pushi2 (w0 := wr) (S0 := []) rfl (.tmp 24) (.tmp 30) rfl (v := .slice ap ns cp) (l := stackOf l k) rfl ?uk HIO.out (fun y _ h => by cases h) _ _ x rfl ?ck HLK.out hsz ?_; (case uk => exact ((Upd.refl _ wr).alloc _).drew); (case ck => first | exact new1 _ _ | exact new4 _ _); intro a7 n7 c7 w7 hn7 hm7 hu7 hb7; have N7 := Lib.hid hn7; have M7 := Lib.hid hm7; obtain ⟨p2, f2⟩ := HCEL.out _ _ hu7 (fun y hy => by have := HOS.out y (by simpa using hy); omega); have hsz7 := Nat.lt_of_lt_of_le hsz hu7.size; clear hn7 hm7 hu7 hb7
          refine hK _ _ ?_
          clear hK K
          iterate 2 (refine wpList_step (fun K hK => ?_); go_simp; refine hK _ _ ?_; clear hK K)
          refine wpList_nil (NoPanic.normal ?_)
          go_wp2
          go_roundw
          case rel =>
            have hx1 : Upd [] wr (wr.alloc (.cells #[.int .i64 x] 3)).drew := ((Upd.refl _ wr).alloc _).drew
            have hl5 := leafS (hx1.get HCB.out (by simp)) (HVO.out.upd hx1 (by simp)) (fun y hy => HOS.out y hy) N7.out M7.out HDIS.out
            exact ⟨k + 1, by omega, by go_num, by rw [HSK.out]; exact hl5.1, hl5.2.get (hx1.get HXr.out (by simp)) (fun h => by rcases List.mem_cons.1 h with h | h; omega; have := HOS.out _ h; omega), (HU.out.trans hx1).step hl5.2 (fun y hy => .inr (by rcases List.mem_cons.1 hy with h | h; omega; have := HOS.out _ h; omega))⟩
          case measure => simp [intOf]; omega
      · obtain rfl : k = m := by omega
        have HFV := Lib.hid (show HalfC wr (w.heap.size + 1) N (volsOf l 0) (stackOf l k) by simpa [volsOf] using HF.out)
        have hex : ¬ k < n ∨ (decide ((k : Int) < (n : Int)) = true ∧ decide ((k : Int) < 8) = false ∧ ¬ (k : Int) < 8 ∧ (k : Int) < (n : Int)) := by
          have := HM3.out
          by_cases h : k < n
          · exact .inr ⟨decide_eq_true (by omega), decide_eq_false (by omega), by omega, by omega⟩
          · exact .inl h
        rcases hex with d1 | ⟨d1, d2, d3, d4⟩
        all_goals
          go_wp2_with (go_at_call 69; (with_reducible refine HNC.out.mono ?_); rintro e w' ⟨rfl, rfl⟩)
          go_meet
          exact ⟨HFV.out, HXr.out, HU.out⟩
  case rest =>
  obtain ⟨hcF, hcX, hcU⟩ := hcut
  obtain ⟨w5, rfl⟩ : ∃ w5 : World, w5 = wc := ⟨_, rfl⟩
  have HFV := Lib.hid hcF
  have HXr := Lib.hid hcX
  have HU := Lib.hid hcU
  clear hcF hcX hcU
  go_wp2_with fail
  go_loopw [6] (fun i wr => ∃ j : Nat, j ≤ 8 ∧ i = .int .i64 j ∧ HalfC wr (w.heap.size + 1) N (volsOf l j) (stackOf l m) ∧ wr.heap[w.heap.size]? = some (.cells #[.int .i64 0, .slice none 0 0, .slice none 0 0] 75 (0, 0)) ∧ Upd [] w wr) (fun i _ => 8 - (intOf i).toNat)
  case atStart => exact ⟨0, by omega, rfl, HFV.out, HXr.out, HU.out⟩
  case round =>
    clear HXr HU HFV
    obtain ⟨j, hj, rfl, hF, hX, hU⟩ := hrel
    have HU := Lib.hid hU
    have HXr := Lib.hid hX
    obtain ⟨v, s, hcb, hvo, hio, hdis⟩ := hF
    obtain ⟨av, cv, rfl, hiv⟩ := hvo.slice
    obtain ⟨ap, cp, rfl, hii, _, _, _⟩ := hio.slice
    clear hX hU
    by_cases hlj : j < 8
    · clear hiv hii
      have HLK := Lib.hid (show (volsOf l j).length ≤ 1000000 by rw [volsOf_len]; omega)
      generalize (volsOf l j).length = nv at hcb hvo hdis
      generalize (stackOf l m).length = ns at hcb hio hdis
      have HSK := Lib.hid (volsOf_succ l j)
      have HCB := Lib.hid hcb
      have HVO := Lib.hid hvo
      have HIO := Lib.hid hio
      have HDIS := Lib.hid hdis
      have hcel : ∀ S wx, Upd S wr wx → (∀ y ∈ S, y ≠ w.heap.size + 1) → wx.cell? ⟨w.heap.size + 1, 1, none⟩ = some (.slice av nv cv) ∧ wx.frozen? ⟨w.heap.size + 1, 1, none⟩ = false := fun S wx u h => by
        obtain ⟨k1, k2⟩ := cells_of (u.get hcb (fun hm => h _ hm rfl))
        exact ⟨k1 1, k2 1⟩
      have HCEL := Lib.hid hcel
      have hsz := lt_of_block hcb
      obtain ⟨p0, f0⟩ := hcel [] wr (Upd.refl _ _) (by simp)
      have HOS : Hid (∀ y ∈ (Value.slice av nv cv).ownBlock.toList, w.heap.size + 2 ≤ y) := fun y hy => (hvo.low y hy).1
      have hq0 := HNA.out _ HU.out.drew (21 + 19 * (j : Int)) 4 (by decide) (by decide) (by omega) (by omega)
      rw [show (21 + 19 * (j : Int)).toNat = 21 + 19 * j by omega, show (4 : Int).toNat = 4 from rfl] at hq0
      have Q0 := Lib.hid hq0
      have hq1 := HNA.out _ HU.out.drew (21 + 19 * (j : Int) + 4) 1 (by decide) (by decide) (by omega) (by omega)
      rw [show (21 + 19 * (j : Int) + 4).toNat = 21 + 19 * j + 4 by omega, show (1 : Int).toNat = 1 from rfl] at hq1
      have Q1 := Lib.hid hq1
      have hq2 := HNA.out _ HU.out.drew (21 + 19 * (j : Int) + 5) 4 (by decide) (by decide) (by omega) (by omega)
      rw [show (21 + 19 * (j : Int) + 5).toNat = 21 + 19 * j + 5 by omega, show (4 : Int).toNat = 4 from rfl] at hq2
      have Q2 := Lib.hid hq2
      have hq3 := HNA.out _ HU.out.drew (21 + 19 * (j : Int) + 9) 4 (by decide) (by decide) (by omega) (by omega)
      rw [show (21 + 19 * (j : Int) + 9).toNat = 21 + 19 * j + 9 by omega, show (4 : Int).toNat = 4 from rfl] at hq3
      have Q3 := Lib.hid hq3
      have hq4 := HNA.out _ HU.out.drew (21 + 19 * (j : Int) + 13) 2 (by decide) (by decide) (by omega) (by omega)
      rw [show (21 + 19 * (j : Int) + 13).toNat = 21 + 19 * j + 13 by omega, show (2 : Int).toNat = 2 from rfl] at hq4
      have Q4 := Lib.hid hq4
      have hq5 := HNA.out _ HU.out.drew (21 + 19 * (j : Int) + 15) 4 (by decide) (by decide) (by omega) (by omega)
      rw [show (21 + 19 * (j : Int) + 15).toNat = 21 + 19 * j + 15 by omega, show (4 : Int).toNat = 4 from rfl] at hq5
      have Q5 := Lib.hid hq5
      have hv19 : IntKind.i64.wrap (19 * (j : Int)) = 19 * (j : Int) := IntWalk.i64_in _ (by omega)
      have hv0 : IntKind.i64.wrap (21 + 19 * (j : Int)) = 21 + 19 * (j : Int) := IntWalk.i64_in _ (by omega)
      have hv1 : IntKind.i64.wrap (21 + 19 * (j : Int) + 4) = 21 + 19 * (j : Int) + 4 := IntWalk.i64_in _ (by omega)
      have hv2 : IntKind.i64.wrap (21 + 19 * (j : Int) + 5) = 21 + 19 * (j : Int) + 5 := IntWalk.i64_in _ (by omega)
      have hv3 : IntKind.i64.wrap (21 + 19 * (j : Int) + 9) = 21 + 19 * (j : Int) + 9 := IntWalk.i64_in _ (by omega)
      have hv4 : IntKind.i64.wrap (21 + 19 * (j : Int) + 13) = 21 + 19 * (j : Int) + 13 := IntWalk.i64_in _ (by omega)
      have hv5 : IntKind.i64.wrap (21 + 19 * (j : Int) + 15) = 21 + 19 * (j : Int) + 15 := IntWalk.i64_in _ (by omega)
      have hbv := fun i s z q r m w => buildVol i s z q r m w
      clear hcb hvo hio hdis hcel hq0 hq1 hq2 hq3 hq4 hq5
      go_upto_region 10 with fail
      apply wp_region_float 26 1 0 [2, 3, 4, 5, 6, 7, 8, 9, 10, 11, 12, 13, 14, 15, 16, 17, 18, 19, 20, 21, 22, 23, 24, 25] [27, 28, 29] (v0 := .pointer (some ⟨w.heap.size + 1, 1, none⟩)) (v := .slice av nv cv) (hm := by kernel_rfl) (h0 := rfl) (hg := rfl) (hn := rfl)
      case hks => (repeat apply picks.cons rfl); apply picks.nil
      case hts => (repeat apply picks.cons rfl); apply picks.nil
      case hB => kernel_rfl
      case hy0 =>
        refine .inl ⟨rfl, fun wz => ?_⟩
        go_simp
      case hy =>
        refine .inl ⟨rfl, .inl ?_⟩
        go_simp
      case h =>
      iterate 2 still_step
      still_call (Q0.out.mono fun _ _ h => ⟨h.1, h.2.symm⟩)
      iterate 3 still_step
      still_call (Q1.out.mono fun _ _ h => ⟨h.1, h.2.symm⟩)
      iterate 3 still_step
      still_call (Q2.out.mono fun _ _ h => ⟨h.1, h.2.symm⟩)
      iterate 3 still_step
      still_call (Q3.out.mono fun _ _ h => ⟨h.1, h.2.symm⟩)
      iterate 3 still_step
      still_call (Q4.out.mono fun _ _ h => ⟨h.1, h.2.symm⟩)
      iterate 3 still_step
      still_call (Q5.out.mono fun _ _ h => ⟨h.1, h.2.symm⟩)
      still_step
      refine wpStill_nil ⟨?_, ?_⟩
      · (refine wpList_step (fun K hK => ?_); go_simp; refine hK _ _ ?_; clear hK K)
        refine wpList_step (fun K hK => ?_)
        refine step_pushv (w0 := wr) (S0 := []) rfl (.tmp 41) (.tmp 66) rfl (v := .slice av nv cv) (l := volsOf l j) rfl ?uk HVO.out (fun y _ h => by cases h) _ _ (volAt l (21 + 19 * j)) rfl ?ck HLK.out hsz ?_; (case uk => exact ((Upd.refl _ wr).alloc _).drew); (case ck => exact news_at wr (Vol.vals (volAt l (21 + 19 * j))) _); intro a7 n7 c7 w7 hn7 hm7 hb7; have N7 := Lib.hid hn7; have M7 := Lib.hid hm7; have hu7 := (((Upd.refl (Value.slice av nv cv).ownBlock.toList wr).alloc (.cells (Vol.vals (volAt l (21 + 19 * j))).toArray 129)).drew.trans hm7.upd); obtain ⟨p2, f2⟩ := HCEL.out _ _ hu7 (fun y hy => by have := HOS.out y hy; omega); have hsz7 := Nat.lt_of_lt_of_le hsz hu7.size; clear hn7 hm7 hb7 hu7
        refine hK _ _ ?_
        clear hK K
        iterate 2 (refine wpList_step (fun K hK => ?_); go_simp; refine hK _ _ ?_; clear hK K)
        refine wpList_nil (NoPanic.normal ?_)
        go_wp2
        go_roundw
        case rel =>
          have hx1 : Upd [] wr (wr.alloc (.cells (Vol.vals (volAt l (21 + 19 * j))).toArray 129)).drew := ((Upd.refl _ wr).alloc _).drew
          have hl5 := leafV (hx1.get HCB.out (by simp)) (HIO.out.upd hx1 (by simp)) (fun y hy => HOS.out y hy) N7.out M7.out HDIS.out
          exact ⟨j + 1, by omega, by go_num, by rw [HSK.out]; exact hl5.1, hl5.2.get (hx1.get HXr.out (by simp)) (fun h => by rcases List.mem_cons.1 h with h | h; omega; have := HOS.out _ h; omega), (HU.out.trans hx1).step hl5.2 (fun y hy => .inr (by rcases List.mem_cons.1 hy with h | h; omega; have := HOS.out _ h; omega))⟩
        case measure => simp [intOf]; omega
      · iterate 2 (refine wpList_step (fun K hK => ?_); go_simp; refine hK _ _ ?_; clear hK K)
        refine wpList_step (fun K hK => ?_)
        refine step_pushv (w0 := wr) (S0 := []) rfl (.tmp 41) (.tmp 66) rfl (v := .slice av nv cv) (l := volsOf l j) rfl ?uk HVO.out (fun y _ h => by cases h) _ _ (volAt l (21 + 19 * j)) rfl ?ck HLK.out hsz ?_; (case uk => exact ((Upd.refl _ wr).alloc _).drew); (case ck => exact news_at wr (Vol.vals (volAt l (21 + 19 * j))) _); intro a7 n7 c7 w7 hn7 hm7 hb7; have N7 := Lib.hid hn7; have M7 := Lib.hid hm7; have hu7 := (((Upd.refl (Value.slice av nv cv).ownBlock.toList wr).alloc (.cells (Vol.vals (volAt l (21 + 19 * j))).toArray 129)).drew.trans hm7.upd); obtain ⟨p2, f2⟩ := HCEL.out _ _ hu7 (fun y hy => by have := HOS.out y hy; omega); have hsz7 := Nat.lt_of_lt_of_le hsz hu7.size; clear hn7 hm7 hb7 hu7
        refine hK _ _ ?_
        clear hK K
        iterate 2 (refine wpList_step (fun K hK => ?_); go_simp; refine hK _ _ ?_; clear hK K)
        refine wpList_nil (NoPanic.normal ?_)
        go_wp2
        go_roundw
        case rel =>
          have hx1 : Upd [] wr (wr.alloc (.cells (Vol.vals (volAt l (21 + 19 * j))).toArray 129)).drew := ((Upd.refl _ wr).alloc _).drew
          have hl5 := leafV (hx1.get HCB.out (by simp)) (HIO.out.upd hx1 (by simp)) (fun y hy => HOS.out y hy) N7.out M7.out HDIS.out
          exact ⟨j + 1, by omega, by go_num, by rw [HSK.out]; exact hl5.1, hl5.2.get (hx1.get HXr.out (by simp)) (fun h => by rcases List.mem_cons.1 h with h | h; omega; have := HOS.out _ h; omega), (HU.out.trans hx1).step hl5.2 (fun y hy => .inr (by rcases List.mem_cons.1 hy with h | h; omega; have := HOS.out _ h; omega))⟩
        case measure => simp [intOf]; omega
    · obtain rfl : j = 8 := by omega
      have HCB := Lib.hid hcb
      have HVO := Lib.hid hvo
      have HIO := Lib.hid hio
      have hbx := lt_of_block hcb
      have hrp := rputCat_any (c := ⟨N, stackOf l m, volsOf l 8⟩) (cap := cv) (cap' := cp) hiv hii (by simp only [volsOf_len]; decide) (by simp only [stackOf_len]; omega)
      have HRP := Lib.hid (show Calls Tryd.prog 41 #[.agg #[.int .i64 N, .slice av (volsOf l 8).length cv, .slice ap (stackOf l m).length cp]] wr fun e w' => PutOut wr.heap.size (putCat ⟨N, stackOf l m, volsOf l 8⟩) e w' ∧ Upd [] wr w' from hrp)
      have hrf := HRF.out
      rw [HCO.out] at hrf
      have HRG := Lib.hid hrf
      have hfl : okCat ⟨N, stackOf l m, volsOf l 8⟩ = true → (pad (catBytes ⟨N, stackOf l m, volsOf l 8⟩) 240).length ≤ 9223372036854775807 := fun h => by
        obtain ⟨_, h8, he⟩ := okCat0_parts (okCat_parts h).1
        rw [pad_len (by rw [catBytes_len h8 he]; decide)]; decide
      have HFL := Lib.hid hfl
      clear hcb hvo hio hdis hiv hii hrp hrf hfl
      go_wp2_with (refine wpList_load_all rfl 75 (.tmp 4) rfl (w.heap.size + 1) 3 rfl _ _ _ _ HCB.out Tryd.underlying75 rfl infoCat rfl ?_)
      refine HRP.out.mono ?_
      rintro e w1 ⟨⟨vp, rfl, hvp⟩, u1⟩
      have U1 := Lib.hid u1
      cases hok : okCat ⟨N, stackOf l m, volsOf l 8⟩
      · rw [show putCat ⟨N, stackOf l m, volsOf l 8⟩ = none by unfold putCat; rw [hok]; simp] at hvp ⊢
        simp only [Option.isSome_none, Bool.false_eq_true, if_false]
        have HR := Lib.hid (HRG.out.trans (by rw [hok, Bool.false_and, if_neg Bool.false_ne_true]))
        clear hok hvp u1
        go_wp2_with (refine wpList_store_all rfl 75 (.tmp 2) (.tmp 82) rfl w.heap.size _ rfl rfl _ _ (U1.out.get HXr.out (by simp)) infoCat rfl (by kernel_rfl) ?_; intro w3 hg3 hu3 _; have G3 := Lib.hid hg3; have U3 := Lib.hid hu3; clear hg3 hu3)
        refine bodyPost_ret (results_block_tmp Tryd.results50 _ _ w.heap.size 3 _ _ _ _ rfl G3.out Tryd.underlying75 rfl infoCat rfl) rfl ⟨by rw [HR.out]; exact CatRes.no _ _, (HU.out.trans U1.out).step U3.out (fun x hx => .inr (by simp at hx; omega))⟩
      · rw [show putCat ⟨N, stackOf l m, volsOf l 8⟩ = some (pad (catBytes ⟨N, stackOf l m, volsOf l 8⟩) 240) by unfold putCat; rw [hok]; rfl] at hvp ⊢
        simp only [Option.isSome_some, if_true, Option.getD_some] at hvp ⊢
        obtain ⟨aq, cq, rfl, hbp, _, _, _⟩ := hvp.slice
        have hsm := same_any (cap := cq) (cap' := cap) hbp (HB0.out _ (HU.out.trans u1)) (HFL.out hok) HL.out
        cases heq : decide (pad (catBytes ⟨N, stackOf l m, volsOf l 8⟩) 240 = l)
        · rw [heq] at hsm
          have HS := Lib.hid hsm
          have HR := Lib.hid (HRG.out.trans (by rw [hok, heq, Bool.and_false, if_neg Bool.false_ne_true]))
          clear hok hvp u1 hbp hsm heq
          go_wp2_with (first
            | (go_at_call 18; refine HS.out.mono ?_; rintro e w2 ⟨rfl, u2⟩; have U2 := Lib.hid u2; clear u2)
            | (refine wpList_store_all rfl 75 (.tmp 2) (.tmp 82) rfl w.heap.size _ rfl rfl _ _ ((U1.out.trans U2.out).get HXr.out (by simp)) infoCat rfl (by kernel_rfl) ?_; intro w3 hg3 hu3 _; have G3 := Lib.hid hg3; have U3 := Lib.hid hu3; clear hg3 hu3))
          refine bodyPost_ret (results_block_tmp Tryd.results50 _ _ w.heap.size 3 _ _ _ _ rfl G3.out Tryd.underlying75 rfl infoCat rfl) rfl ⟨by rw [HR.out]; exact CatRes.no _ _, ((HU.out.trans U1.out).trans U2.out).step U3.out (fun x hx => .inr (by simp at hx; omega))⟩
        · rw [heq] at hsm
          have HS := Lib.hid hsm
          have HR := Lib.hid (HRG.out.trans (by rw [hok, heq, Bool.and_true, if_pos rfl]))
          clear hok hvp u1 hbp hsm heq
          go_wp2_with (first
            | (go_at_call 18; refine HS.out.mono ?_; rintro e w2 ⟨rfl, u2⟩; have U2 := Lib.hid u2; clear u2)
            | (refine wpList_load_all rfl 75 (.tmp 4) rfl (w.heap.size + 1) 3 rfl _ _ _ _ ((U1.out.trans U2.out).get HCB.out (by simp)) Tryd.underlying75 rfl infoCat rfl ?_)
            | (refine wpList_store_all rfl 75 (.tmp 2) (.tmp 83) rfl w.heap.size _ rfl rfl _ _ ((U1.out.trans U2.out).get HXr.out (by simp)) infoCat (by simp only [List.size_toArray, List.length_cons, List.length_nil]) rfl ?_; intro w3 hg3 hu3 _; have G3 := Lib.hid hg3; have U3 := Lib.hid hu3; clear hg3 hu3))
          refine bodyPost_ret (results_block_tmp Tryd.results50 _ _ w.heap.size 3 _ _ _ _ rfl G3.out Tryd.underlying75 rfl infoCat rfl) rfl ⟨?_, ((HU.out.trans U1.out).trans U2.out).step U3.out (fun x hx => .inr (by simp at hx; omega))⟩
          rw [HR.out]
          exact ⟨_, _, rfl, (((HVO.out.upd U1.out (by simp)).upd U2.out (by simp)).upd U3.out (fun y hy hy2 => by have := HVO.out.low y hy; simp at hy2; omega)).base (by omega), (((HIO.out.upd U1.out (by simp)).upd U2.out (by simp)).upd U3.out (fun y hy hy2 => by have := HIO.out.low y hy; simp at hy2; omega)).base (by omega)⟩
end Go.Proofs.YtkahpkmofeglgaaDoor
