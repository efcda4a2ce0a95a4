/-
  PROVED HERE: Touched of package counts. Conditions: those that each theorem names.
-/
import Derived.Test.YtgmabhfffgnjjaaCntE
import Derived.Test.YtgmabhfffgnjjaaShelfI
import Derived.Sort.OwnSortedInts
import Derived.Lib.OwnBridge
namespace Go.Proofs.Ytgmabhfffgnjjaa
open Go.RowKit Go.Sort

theorem compact_upto {d : Array Int} (hs : ∀ j k, j ≤ k → k < d.size → d[j]! ≤ d[k]!) : ∀ m, m ≤ d.size → (∀ x ∈ Lib.compactUpTo d m, ∃ j, j < m ∧ x = d[j]!) ∧ (∀ j, j < m → d[j]! ∈ Lib.compactUpTo d m) ∧ (Lib.compactUpTo d m).Pairwise (· < ·)
  | 0, _ => ⟨fun x hx => by simp [Lib.compactUpTo] at hx, fun j hj => absurd hj (Nat.not_lt_zero _), by simp [Lib.compactUpTo]⟩
  | m + 1, hm => by
    obtain ⟨h1, h2, h3⟩ := compact_upto hs m (by omega)
    rw [Lib.compactUpTo_succ]
    by_cases hk : Lib.keeps d m = true
    · rw [if_pos hk]
      have hlt : ∀ x ∈ Lib.compactUpTo d m, x < d[m]! := fun x hx => by
        obtain ⟨j, hj, rfl⟩ := h1 x hx
        have hne : d[m]! ≠ d[m - 1]! := by
          simp only [Lib.keeps, decide_eq_true_eq] at hk
          rcases hk with h | h
          · omega
          · exact h
        have e1 := hs j (m - 1) (by omega) (by omega)
        have e2 := hs (m - 1) m (by omega) (by omega)
        omega
      refine ⟨fun x hx => ?_, fun j hj => ?_, List.pairwise_append.2 ⟨h3, List.pairwise_singleton _ _, fun x hx y hy => by rw [List.mem_singleton.1 hy]; exact hlt x hx⟩⟩
      · rcases List.mem_append.1 hx with h | h
        · obtain ⟨j, hj, e⟩ := h1 x h
          exact ⟨j, by omega, e⟩
        · exact ⟨m, by omega, List.mem_singleton.1 h⟩
      · by_cases e : j = m
        · rw [e]; exact List.mem_append_right _ (List.mem_singleton.2 rfl)
        · exact List.mem_append_left _ (h2 j (by omega))
    · rw [if_neg hk, List.append_nil]
      have hk' : 0 < m ∧ d[m]! = d[m - 1]! := by
        simp only [Lib.keeps, decide_eq_true_eq, not_or, Decidable.not_not] at hk
        exact ⟨by omega, hk.2⟩
      refine ⟨fun x hx => ?_, fun j hj => ?_, h3⟩
      · obtain ⟨j, hj, e⟩ := h1 x hx
        exact ⟨j, by omega, e⟩
      · by_cases e : j = m
        · rw [e, hk'.2]; exact h2 _ (by omega)
        · exact h2 j (by omega)
/-- Sorted, each once: what is in order already, and has the same members. -/
theorem compact_is {l t : List Int} (ht : t.Pairwise (· < ·)) (hm : ∀ x, x ∈ l ↔ x ∈ t) : Lib.compact (l.mergeSort fun x y => decide (x ≤ y)) = t := by
  have hso : (l.mergeSort fun x y => decide (x ≤ y)).Pairwise (fun x y => x ≤ y) := (List.pairwise_mergeSort (fun a b c => by simp; omega) (fun a b => by simp; omega) l).imp fun h => by simpa using h
  have hmem : ∀ x, x ∈ l.mergeSort (fun x y => decide (x ≤ y)) ↔ x ∈ t := fun x => ((List.mergeSort_perm l _).mem_iff).trans (hm x)
  generalize l.mergeSort (fun x y => decide (x ≤ y)) = s at hso hmem
  have hgt : ∀ j (h : j < s.length), s.toArray[j]! = s[j] := fun j h => by rw [getElem!_pos s.toArray j (by simpa using h)]; simp
  obtain ⟨h1, h2, h3⟩ := compact_upto (d := s.toArray) (fun j k hjk hk => by
    have hk2 : k < s.length := by simpa using hk
    rw [hgt j (by omega), hgt k hk2]
    rcases Nat.lt_or_ge j k with h | h
    · exact List.pairwise_iff_getElem.1 hso j k (by omega) hk2 h
    · have : j = k := by omega
      subst this; exact Int.le_refl _) s.length (by simp)
  unfold Lib.compact
  refine List.Perm.eq_of_pairwise (le := fun a b => a < b) (fun a b _ _ h1 h2 => by omega) h3 ht ((List.perm_ext_iff_of_nodup (h3.imp fun h => by omega) (ht.imp fun h => by omega)).2 fun x => ?_)
  rw [← hmem x]
  constructor
  · intro hx
    obtain ⟨j, hj, rfl⟩ := h1 x hx
    rw [hgt j hj]; exact List.getElem_mem hj
  · intro hx
    obtain ⟨j, hj, rfl⟩ := List.mem_iff_getElem.1 hx
    have := h2 j hj
    rwa [hgt j hj] at this
/-- slices.Sort of a slice of the call's own. -/
theorem sort_out {w : World} {B : Nat} {v : Value} {l : List Int} (h : IntsOut w B v l) (hl : l.length ≤ 1000000) : Calls Try.prog 29 #[v] w fun e w' => e = .returned (.tuple #[]) ∧ IntsOut w' B v (l.mergeSort fun x y => decide (x ≤ y)) ∧ Upd v.ownBlock.toList w w' := by
  by_cases hv : v = .slice none 0 0
  · subst hv
    refine (Try.slices_Sort_int_none none 0 w).mono ?_
    rintro e w' ⟨rfl, rfl⟩
    have h0 : l = [] := by
      rcases h.2 with ⟨_, h0⟩ | ⟨g, cap, cur, e, _⟩
      · exact List.length_eq_zero_iff.1 h0
      · cases e
    subst h0
    exact ⟨rfl, by simpa using h, Upd.refl _ _⟩
  · obtain ⟨g, cap, rfl, hB, hg, hn, hm, hlen, hH⟩ := Lib.holds_of_ownsRow (zs := l) h hv
    refine (Try.slices_Sort_int g 0 cap l w hH hg (by omega)).mono ?_
    rintro e w' ⟨rfl, n, os, rfl⟩
    rcases h.2 with ⟨e, _⟩ | ⟨g2, cap2, cur, e, hB2, hb, h1, h2, h3, h4⟩
    · cases e
    · cases e
      have ho := ownsRow_sortedI (n := n) (os := os) (ss := l) (ts := l.mergeSort fun x y => decide (x ≤ y)) (List.length_mergeSort l) hB hb h1 h2 h3
      refine ⟨rfl, ?_, Upd.of_grown (grownBy_sortedI _)⟩
      unfold IntsOut
      rw [List.length_mergeSort]
      exact ho
/-- slices.Compact of a slice of the call's own. -/
theorem compact_out {w : World} {B : Nat} {v : Value} {l : List Int} (h : IntsOut w B v l) (hl : l.length ≤ 1000000) : Calls Try.prog 30 #[v] w fun e w' => (∃ v', e = .returned v' ∧ IntsOut w' B v' (Lib.compact l)) ∧ Upd v.ownBlock.toList w w' := by
  by_cases hv : v = .slice none 0 0
  · subst hv
    refine (Try.slices_Compact_int_empty none 0 w).mono ?_
    rintro e w' ⟨rfl, rfl⟩
    have h0 : l = [] := by
      rcases h.2 with ⟨_, h0⟩ | ⟨g, cap, cur, e, _⟩
      · exact List.length_eq_zero_iff.1 h0
      · cases e
    subst h0
    exact ⟨⟨_, rfl, h⟩, Upd.refl _ _⟩
  · obtain ⟨g, cap, rfl, hB, hg, hn, hm, hlen, hH⟩ := Lib.holds_of_ownsRow (zs := l) h hv
    refine (Try.slices_Compact_int g 0 cap l w hH (by omega) (by omega)).mono ?_
    rintro e w' ⟨rfl, q, rfl⟩
    have hle := Lib.compact_length_le l
    have ho := Lib.ownsRow_putRow (q := q) (k := (Lib.compact l).length) (ys := Lib.compact l ++ List.replicate (l.length - (Lib.compact l).length) 0) (zs := l) h (by simp; omega) hle
    rw [List.take_left] at ho
    refine ⟨⟨_, rfl, ho⟩, ⟨rfl, rfl, rfl, by simp [putRow, mapBlock, Sort.ahead], fun k hk hs => ?_⟩⟩
    have hne : g ≠ k := fun e => hs (by simp [Value.ownBlock, e])
    simp [putRow, mapBlock, Sort.ahead, Array.getElem?_modify, hne]
/-- The pages of counts that were touched, as numbers. -/
def Ct.touchedI (s : Ct) : List Int := s.touched.map fun i : Nat => (i : Int)
theorem Ct.touchedI_sorted (s : Ct) : s.touchedI.Pairwise (· < ·) := List.pairwise_map.2 (s.touched_sorted.imp fun h => by omega)
def TouchOut (B : Nat) (l : List Int) (e : Ending) (w' : World) : Prop := ∃ v, e = .returned v ∧ IntsOut w' B v l
set_option maxRecDepth 100000 in
set_option maxHeartbeats 3200000 in
theorem ctouched_any {w : World} {b g m : Nat} {s : Ct} (h : IsC w b g m s) : Calls Try.prog 12 #[.pointer (some ⟨b, 0, none⟩)] w fun e w' => TouchOut w.heap.size s.touchedI e w' ∧ Upd [] w w' := by
  obtain ⟨c0, c1⟩ := h.head
  obtain ⟨M, hM, hW⟩ := h.map
  have hn := h.ok.hi
  have H := Lib.hid h
  have HM := Lib.hid hM
  have HW := Lib.hid hW
  clear h hM hW
  go_enter Try.func12, Try.ntmps12
  go_wp2_with (at_range; refine wpList_irange (k := 3) rfl _ rfl rfl Try.underlying3 Try.underlying44 HM.out ?_; intro w2 hr2 hu2 hs2; have R2 := Lib.hid hr2; have U2 := Lib.hid hu2; have S2 := Lib.hid hs2; clear hr2 hu2 hs2)
  go_frame
  go_loopw [3] (fun v wr => ∃ (lf : Int → Bool) (l ks : List Int), IRange Try.prog 3 wr m w.heap.size M lf ∧ IntsOut wr (w.heap.size + 1) v l ∧ (∀ x ∈ l, x ∈ s.touchedI) ∧ (∀ p : Nat, p < s.now.length → s.now.getD p 0 ≠ s.old.getD p 0 → lf p = true ∨ ((p / 120 : Nat) : Int) ∈ l) ∧
      ks.Nodup ∧ (∀ x ∈ ks, (0 ≤ x ∧ x < (1024 : Nat)) ∧ lf x = false) ∧ l.length ≤ ks.length ∧ Upd [w.heap.size] w2 wr) (fun _ wr => wr.rangeLeft m w.heap.size)
  case atStart =>
    refine ⟨_, [], [], R2.out, IntsOut.nil _ _, (fun x hx => by cases hx), fun p hp hne => .inl ?_, List.nodup_nil, (fun x hx => by cases hx), Nat.le_refl _, Upd.refl _ _⟩
    cases hMp : M (p : Int) with
    | some _ => rfl
    | none => exact absurd (HW.out.2 p hp hMp).symm hne
  case round =>
    obtain ⟨lf, l, ks, hrg, hV, hin, hcov, hnd, hks, hlen, hU⟩ := hrel
    have HV := Lib.hid hV
    have HIN := Lib.hid hin
    have HCOV := Lib.hid hcov
    have HND := Lib.hid hnd
    have HKS := Lib.hid hks
    have HU := Lib.hid hU
    have hl1 : l.length ≤ 1024 := by have := nodup_bound 1024 ks hnd (fun x hx => (hks x hx).1); omega
    have hwr := hU.size
    have U1 := Lib.hid (U2.out.step hU (fun x hx => .inr (by simp at hx; omega)))
    have H1 := Lib.hid (H.out.stay U1.out)
    have hs2 := S2.out
    obtain ⟨d0, _⟩ := H1.out.head
    clear hV hin hcov hnd hks hU
    go_wp2_with (at_next; refine wpList_inext rfl _ rfl rfl Try.underlying3 hrg ?_ ?_)
    · intro hl0
      have HL0 := Lib.hid hl0
      clear hl0 hrg
      have HMEM : Hid (∀ x, x ∈ l ↔ x ∈ s.touchedI) := fun x => ⟨HIN.out x, fun hx => by
        obtain ⟨i, hi, rfl⟩ := List.mem_map.1 hx
        obtain ⟨p, hp, rfl, hne⟩ := Ct.mem_touched.1 hi
        rcases HCOV.out p hp hne with h | h
        · rw [HL0.out] at h; cases h
        · exact h⟩
      go_wp2_with (first
        | (go_at_call 29; (with_reducible refine (sort_out HV.out (by omega)).mono ?_); rintro e w5 ⟨rfl, h5, u5⟩; have H5 := Lib.hid h5; have U5 := Lib.hid u5; clear h5 u5)
        | (go_at_call 30; (with_reducible refine (compact_out H5.out (by rw [List.length_mergeSort]; omega)).mono ?_); rintro e w6 ⟨⟨v6, rfl, h6⟩, u6⟩; have H6 := Lib.hid h6; have U6 := Lib.hid u6; clear h6 u6))
      go_ret
      have h6 := H6.out
      rw [compact_is s.touchedI_sorted HMEM.out] at h6
      have hlow := HV.out.low
      exact ⟨⟨_, rfl, h6.base (by omega)⟩, (U1.out.step U5.out (fun x hx => .inr (by have := hlow x hx; omega))).step U6.out (fun x hx => .inr (by have := hlow x hx; omega))⟩
    · intro x v w3 hl hmx hwf hrg3 hlt hu3 hs3 hen
      obtain ⟨i, rfl, hi, rfl⟩ := HW.out.1 x v hmx
      have H3 := Lib.hid (H1.out.upd hu3 (by have := lt_of_block H.out.hd; simp; omega) (by have := lt_of_block H.out.row; simp; omega) (by have := HM.out.lt; simp; omega))
      obtain ⟨d0', _⟩ := H3.out.head
      obtain ⟨r1, r2⟩ := row_at H3.out.row hi
      have HV3 := Lib.hid (HV.out.upd hu3 (fun y hy => by have := HV.out.low y hy; simp; omega))
      have HRG := Lib.hid hrg3
      have HLT := Lib.hid hlt
      have U3 := Lib.hid hu3
      have HL := Lib.hid hl
      have HS3 := Lib.hid hs3
      clear hrg hmx hwf hrg3 hlt hu3 hl d0 hs3
      have HNK : Hid ((i : Int) ∉ ks) := fun hm => by have := (HKS.out _ hm).2; rw [HL.out] at this; cases this
      have HND2 : Hid (((i : Int) :: ks).Nodup) := List.nodup_cons.2 ⟨HNK.out, HND.out⟩
      have HKS2 : Hid (∀ x ∈ (i : Int) :: ks, (0 ≤ x ∧ x < (1024 : Nat)) ∧ (lf x && !decide (x = (i : Int))) = false) := fun x hx => by
        rcases List.mem_cons.1 hx with e | e
        · subst e; exact ⟨by omega, by simp⟩
        · obtain ⟨q1, q2⟩ := HKS.out x e
          exact ⟨q1, by rw [q2]; rfl⟩
      by_cases heq : s.old.getD i 0 = s.now.getD i 0
      · have HEQ := Lib.hid heq
        rw [heq] at hen ⊢
        clear heq
        generalize hx : s.now.getD i 0 = x at *
        have HX := Lib.hid hx
        clear hx
        go_wp2
        go_roundw
        case rel =>
          refine ⟨_, l, (i : Int) :: ks, HRG.out, HV3.out, HIN.out, fun p hp hne => ?_, HND2.out, HKS2.out, by simp; omega, HU.out.trans U3.out⟩
          rcases HCOV.out p hp hne with h | h
          · refine .inl ?_
            by_cases e : (p : Int) = (i : Int)
            · exfalso
              have : p = i := by omega
              subst this
              exact hne (by rw [HEQ.out, HX.out])
            · rw [h]; simp [e]
          · exact .inr h
        case measure => exact HLT.out
      · have HEQ := Lib.hid heq
        generalize hx : s.now.getD i 0 = x at *
        generalize hy : s.old.getD i 0 = y at *
        have HX := Lib.hid hx
        have HY := Lib.hid hy
        have hq : (i : Int) / 120 = ((i / 120 : Nat) : Int) := by omega
        have HQ := Lib.hid hq
        clear hx hy hq
        go_wp2_with (at_builtin; refine wpList_pushi rfl (.tmp 25) (.tmp 28) rfl rfl (HV3.out.upd ((Upd.refl [] _).alloc _) (by simp)) w3.heap.size 1 ((i : Int) / 120) rfl (news_at _ _ _ 0 _ rfl) (by omega) (by have := HS3.out; simp; omega) ?_; intro v' w5 hn5 hx5; have HN5 := Lib.hid hn5; have HX5 := Lib.hid hx5; clear hn5 hx5)
        go_roundw
        case rel =>
          have hs3 := HS3.out
          have hlow := HV3.out.low
          have u5 : Upd u3.ownBlock.toList w3 w5 := ((Upd.refl _ w3).alloc _).trans HX5.out.upd
          have hrr := HRG.out.upd u5 (fun hm => by have := hlow _ hm; have := HM.out.lt; omega) (fun hm => by have := hlow _ hm; omega)
          refine ⟨_, l ++ [(i : Int) / 120], (i : Int) :: ks, hrr.1, HN5.out, fun z hz => ?_, fun p hp hne => ?_, HND2.out, HKS2.out, by simp; omega, (HU.out.trans U3.out).step u5 (fun z hz => .inr (by have := hlow z hz; omega))⟩
          · rcases List.mem_append.1 hz with h | h
            · exact HIN.out z h
            · rw [List.mem_singleton.1 h, HQ.out]
              exact List.mem_map.2 ⟨i / 120, Ct.mem_touched.2 ⟨i, hi, rfl, by rw [HX.out, HY.out]; exact fun e => HEQ.out e.symm⟩, rfl⟩
          · by_cases e : p = i
            · subst e; exact .inr (List.mem_append_right _ (by rw [HQ.out]; exact List.mem_singleton.2 rfl))
            · rcases HCOV.out p hp hne with h | h
              · exact .inl (by rw [h]; simp; omega)
              · exact .inr (List.mem_append_left _ h)
        case measure =>
          have hs3 := HS3.out
          have hlow := HV3.out.low
          have u5 : Upd u3.ownBlock.toList w3 w5 := ((Upd.refl _ w3).alloc _).trans HX5.out.upd
          rw [(HRG.out.upd u5 (fun hm => by have := hlow _ hm; have := HM.out.lt; omega) (fun hm => by have := hlow _ hm; omega)).2]
          exact HLT.out
end Go.Proofs.Ytgmabhfffgnjjaa
