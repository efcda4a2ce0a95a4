/-
  PROVED HERE: eight rows of bytes in an array, each of which is set on its own; append to one. Conditions: those that each theorem names.
-/
import Derived.Test.YtpnpjffhkaejgaaKeepsP
import Derived.Test.YtpnpjffhkaejgaaDiskP
import Derived.ArgAppend
namespace Go.Proofs.Ytpnpjffhkaejgaa
open Go.RowKit

/-- The value v is a row of the bytes l in the world w: nil, or a part of a block from some place on. -/
def NewRow (w : World) (v : Value) (l : List Nat) : Prop := (v = .slice none 0 0 ∧ l = []) ∨ ∃ g o c cur, v = .slice (some ⟨g, o, none⟩) l.length c ∧ w.heap[g]? = some (.cells cur 5 (0, 0)) ∧ l.length ≤ c ∧ c ≤ maxLen ∧ o + c ≤ cur.size ∧ ∀ k, k < l.length → cur[o + k]? = some (.int .u8 (l.getD k 0 : Nat))
/-- The same among the blocks of T, apart from the blocks of E. -/
def MRow (B : Nat) (E : List Nat) (T : List (Nat × Obj)) (v : Value) (l : List Nat) : Prop := (v = .slice none 0 0 ∧ l = []) ∨ ∃ g o c cur, v = .slice (some ⟨g, o, none⟩) l.length c ∧ (g, .cells cur 5 (0, 0)) ∈ T ∧ B ≤ g ∧ g ∉ E ∧ l.length ≤ c ∧ c ≤ maxLen ∧ o + c ≤ cur.size ∧ ∀ k, k < l.length → cur[o + k]? = some (.int .u8 (l.getD k 0 : Nat))
def mayCells (V : Nat → Value) : Array Value := ((List.range 8).map V).toArray
theorem mayCells_get (V : Nat → Value) {i : Nat} (hi : i < 8) : (mayCells V)[i]? = some (V i) := by
  unfold mayCells
  rw [List.getElem?_toArray, List.getElem?_map, List.getElem?_range hi]
  rfl
theorem mayCells_set (V : Nat → Value) (i : Nat) (v : Value) : (mayCells V).setIfInBounds i v = mayCells (setf V i v) := by
  apply Array.ext_getElem?
  intro j
  unfold mayCells
  rw [List.setIfInBounds_toArray, List.getElem?_toArray, List.getElem?_toArray, List.getElem?_set]
  simp only [List.length_map, List.length_range]
  by_cases hj : j < 8
  · by_cases e : i = j
    · subst e
      rw [if_pos rfl, if_pos hj, List.getElem?_map, List.getElem?_range hj]
      simp [setf_same]
    · rw [if_neg e, List.getElem?_map, List.getElem?_map, List.getElem?_range hj]
      simp only [Option.map_some]
      rw [setf_other _ _ (Ne.symm e)]
  · rw [List.getElem?_map, List.getElem?_map, List.getElem?_eq_none (by simp; omega)]
    split
    · rw [if_neg (by omega)]; rfl
    · rfl
structure Rows8 (B : Nat) (E : List Nat) (T : List (Nat × Obj)) (mb : Nat) (V : Nat → Value) (M : Nat → List Nat) : Prop where
  mem : (mb, .cells (mayCells V) 56 (0, 0)) ∈ T
  low : B ≤ mb
  out : mb ∉ E
  ext : ∀ x ∈ E, ∃ o, (x, o) ∈ T
  row : ∀ i, i < 8 → MRow B (mb :: E) T (V i) (M i)
  apart : ∀ i j, i < 8 → j < 8 → i ≠ j → ∀ x ∈ (V i).ownBlock.toList, x ∉ (V j).ownBlock.toList
theorem MRow.own {B : Nat} {E : List Nat} {T : List (Nat × Obj)} {v : Value} {l : List Nat} (h : MRow B E T v l) : ∀ x ∈ v.ownBlock.toList, (∃ o, (x, o) ∈ T) ∧ B ≤ x ∧ x ∉ E := by
  rcases h with ⟨rfl, _⟩ | ⟨g, o, c, cur, rfl, h1, h2, h3, _⟩
  · intro x hx; simp [Value.ownBlock] at hx
  · intro x hx
    obtain rfl : x = g := by simpa [Value.ownBlock] using hx
    exact ⟨⟨_, h1⟩, h2, h3⟩
theorem LawD.turn {w wr w' : World} {d : Nat} {F : Nat → Prop} {T T' : List (Nat × Obj)} {S : Dk} {L : List Nat} (h : LawD w wr d F T S) (u : Upd L wr w') (hL : ∀ x ∈ L, ¬ F x ∧ w.heap.size ≤ x) (hT : ∀ p ∈ T', ¬ F p.1 ∧ w'.heap[p.1]? = some p.2) : LawD w w' d F T' S :=
  ⟨h.1.up u fun x hx => (hL x hx).1, h.2.1, hT, h.2.2.2.step u fun x hx => .inr (hL x hx).2⟩
theorem LawD.lt {w wr : World} {d : Nat} {F : Nat → Prop} {T : List (Nat × Obj)} {S : Dk} (h : LawD w wr d F T S) {p : Nat × Obj} (hp : p ∈ T) : p.1 < wr.heap.size := lt_of_block (h.2.2.1 p hp).2
theorem LawD.notF {w wr : World} {d : Nat} {F : Nat → Prop} {T : List (Nat × Obj)} {S : Dk} (h : LawD w wr d F T S) {x : Nat} (hx : wr.heap.size ≤ x) : ¬ F x := fun e => by have := h.1.old x e; omega
/-- One of the rows is set. -/
theorem rows_set {w wr w' : World} {d mb i : Nat} {F : Nat → Prop} {T : List (Nat × Obj)} {S : Dk} {E : List Nat} {V : Nat → Value} {M : Nat → List Nat} {v' : Value} {l' : List Nat} (h : LawD w wr d F T S) (hR : Rows8 w.heap.size E T mb V M) (hi : i < 8) (u : Upd (V i).ownBlock.toList wr w') (hn : NewRow w' v' l')
    (ho : ∀ x ∈ v'.ownBlock.toList, x ∈ (V i).ownBlock.toList ∨ wr.heap.size ≤ x) : ∃ T', LawD w (w'.setCell ⟨mb, i, none⟩ v') d F T' S ∧ Rows8 w.heap.size E T' mb (setf V i v') (setf M i l') ∧ ∀ p ∈ T, p.1 ∈ E → p ∈ T' := by
  have hrow := hR.row i hi
  have hown := hrow.own
  have hmb := h.2.2.1 _ hR.mem
  have hmi : mb ∉ (V i).ownBlock.toList := fun e => (hown mb e).2.2 (List.mem_cons_self ..)
  have hmw := u.get hmb.2 hmi
  have us : Upd [mb] w' (w'.setCell ⟨mb, i, none⟩ v') := (Upd.refl [mb] w').setCell (.inl (by simp)) _
  have hmw2 := heap_setCell_same w' mb i _ _ v' hmw
  rw [mayCells_set] at hmw2
  -- what the new value's block is
  have hv : ∀ x ∈ v'.ownBlock.toList, x ≠ mb ∧ x ∉ E ∧ w.heap.size ≤ x ∧ ¬ F x ∧ ∀ j, j < 8 → j ≠ i → x ∉ (V j).ownBlock.toList := by
    intro x hx
    rcases ho x hx with e | e
    · obtain ⟨⟨o, q1⟩, q2, q3⟩ := hown x e
      exact ⟨fun e' => q3 (by simp [e']), fun e' => q3 (by simp [e']), q2, (h.2.2.1 _ q1).1, fun j hj hji e' => hR.apart i j hi hj (Ne.symm hji) x e e'⟩
    · refine ⟨fun e' => ?_, fun e' => ?_, ?_, h.notF e, fun j hj _ e' => ?_⟩
      · have := h.lt hR.mem; dsimp only at this; omega
      · obtain ⟨o, q⟩ := hR.ext x e'
        have := h.lt q; dsimp only at this; omega
      · have := h.2.2.2.size; omega
      · obtain ⟨⟨o, q⟩, _⟩ := (hR.row j hj).own x e'
        have := h.lt q; dsimp only at this; omega
  obtain ⟨K, hK1, hK2⟩ : ∃ K : List (Nat × Obj), (∀ p ∈ K, p.1 ∈ v'.ownBlock.toList ∧ w'.heap[p.1]? = some p.2) ∧ ((v' = .slice none 0 0 ∧ l' = []) ∨ ∃ g o c cur, v' = .slice (some ⟨g, o, none⟩) l'.length c ∧ (g, .cells cur 5 (0, 0)) ∈ K ∧ l'.length ≤ c ∧ c ≤ maxLen ∧ o + c ≤ cur.size ∧ ∀ k, k < l'.length → cur[o + k]? = some (.int .u8 (l'.getD k 0 : Nat))) := by
    rcases hn with e | ⟨g, o, c, cur, e, h1, h2⟩
    · exact ⟨[], by simp, .inl e⟩
    · refine ⟨[(g, .cells cur 5 (0, 0))], fun p hp => ?_, .inr ⟨g, o, c, cur, e, by simp, h2⟩⟩
      rw [List.mem_singleton.1 hp]
      exact ⟨by rw [e]; simp [Value.ownBlock], h1⟩
  have hfil : ∀ p : Nat × Obj, p ∈ T.filter (fun p => !(p.1 == mb) && (!((V i).ownBlock.toList.contains p.1) && !(v'.ownBlock.toList.contains p.1))) ↔ p ∈ T ∧ p.1 ≠ mb ∧ p.1 ∉ (V i).ownBlock.toList ∧ p.1 ∉ v'.ownBlock.toList := fun p => by
    rw [List.mem_filter]
    simp
  have hkeep : ∀ p ∈ T, p.1 ≠ mb → p.1 ∉ (V i).ownBlock.toList → p.1 ∉ v'.ownBlock.toList → p ∈ (mb, .cells (mayCells (setf V i v')) 56 (0, 0)) :: (K ++ T.filter (fun p => !(p.1 == mb) && (!((V i).ownBlock.toList.contains p.1) && !(v'.ownBlock.toList.contains p.1)))) := fun p h1 h2 h3 h4 =>
    List.mem_cons_of_mem _ (List.mem_append_right _ ((hfil p).2 ⟨h1, h2, h3, h4⟩))
  have hold : ∀ j, j < 8 → j ≠ i → ∀ x ∈ (V j).ownBlock.toList, x ≠ mb ∧ x ∉ (V i).ownBlock.toList ∧ x ∉ v'.ownBlock.toList := fun j hj hji x hx =>
    ⟨fun e => ((hR.row j hj).own x hx).2.2 (by simp [e]), fun e => hR.apart i j hi hj (Ne.symm hji) x e hx, fun e => (hv x e).2.2.2.2 j hj hji hx⟩
  refine ⟨(mb, .cells (mayCells (setf V i v')) 56 (0, 0)) :: (K ++ T.filter (fun p => !(p.1 == mb) && (!((V i).ownBlock.toList.contains p.1) && !(v'.ownBlock.toList.contains p.1)))), ?_, ?_, ?_⟩
  · refine h.turn (L := mb :: (V i).ownBlock.toList) ((u.mono fun x hx => List.mem_cons_of_mem _ hx).step us fun x hx => .inl (by rw [List.mem_singleton.1 hx]; exact List.mem_cons_self ..)) (fun x hx => ?_) (fun p hp => ?_)
    · rcases List.mem_cons.1 hx with rfl | hx
      · exact ⟨hmb.1, hR.low⟩
      · obtain ⟨⟨o, q1⟩, q2, _⟩ := hown x hx
        exact ⟨(h.2.2.1 _ q1).1, q2⟩
    · rcases List.mem_cons.1 hp with rfl | hp
      · exact ⟨hmb.1, hmw2⟩
      · rcases List.mem_append.1 hp with hp | hp
        · obtain ⟨q1, q2⟩ := hK1 p hp
          obtain ⟨r1, _, _, r2, _⟩ := hv p.1 q1
          exact ⟨r2, us.get q2 (by simpa using r1)⟩
        · obtain ⟨q1, q2, q3, q4⟩ := (hfil p).1 hp
          obtain ⟨r1, r2⟩ := h.2.2.1 p q1
          exact ⟨r1, us.get (u.get r2 q3) (by simpa using q2)⟩
  · refine ⟨List.mem_cons_self .., hR.low, hR.out, fun x hx => ?_, fun j hj => ?_, fun j k hj hk hjk x hx hx' => ?_⟩
    · obtain ⟨o, q⟩ := hR.ext x hx
      exact ⟨o, hkeep _ q (fun e => hR.out (by rw [← e]; exact hx)) (fun e => (hown x e).2.2 (List.mem_cons_of_mem _ hx)) (fun e => (hv x e).2.1 hx)⟩
    · by_cases e : j = i
      · subst e
        rw [setf_same, setf_same]
        rcases hK2 with e | ⟨g, o, c, cur, e, q1, q2⟩
        · exact .inl e
        · obtain ⟨r1, r2, r3, _⟩ := hv g (by rw [e]; simp [Value.ownBlock])
          exact .inr ⟨g, o, c, cur, e, List.mem_cons_of_mem _ (List.mem_append_left _ q1), r3, fun e' => by rcases List.mem_cons.1 e' with e' | e'; exact r1 e'; exact r2 e', q2⟩
      · rw [setf_other _ _ e, setf_other _ _ e]
        have ho := hold j hj e
        rcases hR.row j hj with q | ⟨g, o, c, cur, q, q1, q2⟩
        · exact .inl q
        · obtain ⟨r1, r2, r3⟩ := ho g (by rw [q]; simp [Value.ownBlock])
          exact .inr ⟨g, o, c, cur, q, hkeep _ q1 r1 r2 r3, q2⟩
    · by_cases e : j = i
      · subst e
        rw [setf_same] at hx
        rw [setf_other _ _ (Ne.symm hjk)] at hx'
        exact (hv x hx).2.2.2.2 k hk (Ne.symm hjk) hx'
      · rw [setf_other _ _ e] at hx
        by_cases e' : k = i
        · subst e'
          rw [setf_same] at hx'
          exact (hv x hx').2.2.2.2 j hj hjk hx
        · rw [setf_other _ _ e'] at hx'
          exact hR.apart j k hj hk hjk x hx hx'
  · intro p hp hpE
    exact hkeep p hp (fun e => hR.out (by rw [← e]; exact hpE)) (fun e => (hown _ e).2.2 (List.mem_cons_of_mem _ hpE)) (fun e => (hv _ e).2.1 hpE)
/-- What an append makes of a row. -/
theorem run_append_may {w : World} {v : Value} {l : List Nat} (h : NewRow w v l) (b : Nat) (g0 : Nat) (hc : w.cell? ⟨g0, 0, none⟩ = some (.int .u8 (b : Nat))) (hl : l.length ≤ 2000000000000) (ty : TypeId) :
    ∃ v' w', (Builtin.append_ #[31, 31] ty #[v, .slice (some ⟨g0, 0, none⟩) 1 1]).run Try.prog w = .ok v' w' ∧ NewRow w' v' (l ++ [b]) ∧ Upd v.ownBlock.toList w w' ∧ ∀ x ∈ v'.ownBlock.toList, x ∈ v.ownBlock.toList ∨ w.heap.size ≤ x := by
  obtain ⟨i, hi, hz, hs, hb⟩ := info_parts infoByte
  have hnews : ∀ j u, [Value.int .u8 (b : Nat)][j]? = some u → w.cell? ((⟨g0, 0, none⟩ : Addr).add j) = some u := fun j u hj => by
    match j, hj with
    | 0, hj => simp at hj; subst hj; simpa [Addr.add] using hc
  -- a row that the call owns is a row
  have back : ∀ (W : World) (u : Value) (B : Nat), W.ownsRow B 5 1 u (l.length + 1) (u8s l ++ [Value.int .u8 (b : Nat)]) → NewRow W u (l ++ [b]) := by
    intro W u B ⟨hlen, q⟩
    rcases q with ⟨_, q⟩ | ⟨g, cap, cur, rfl, _, hg, h1, h2, h3, h4⟩
    · omega
    · refine .inr ⟨g, 0, cap, cur, by rw [List.length_append]; rfl, hg, by rw [List.length_append]; exact h1, h2, by omega, fun k hk => ?_⟩
      have hk' : k < l.length + 1 := by rw [List.length_append] at hk; exact hk
      have e : (cur.toList.take ((l.length + 1) * 1))[k]? = (u8s l ++ [Value.int .u8 (b : Nat)])[k]? := by rw [h4]
      rw [List.getElem?_take_of_lt (by omega)] at e
      rw [Nat.zero_add, ← Array.getElem?_toList, e, List.getD_eq_getElem?_getD]
      by_cases hkl : k < l.length
      · rw [List.getElem?_append_left (by rw [u8s_len]; exact hkl), List.getElem?_append_left hkl, u8s_get, List.getElem?_eq_getElem hkl]
        rfl
      · obtain rfl : k = l.length := by omega
        rw [List.getElem?_append_right (by rw [u8s_len]; omega), List.getElem?_append_right (Nat.le_refl _), u8s_len, Nat.sub_self]
        rfl
  rcases h with ⟨rfl, rfl⟩ | ⟨g, o, c, cur, rfl, hg, hlc, hcm, hsz, hcur⟩
  · obtain ⟨v', w', hr, ho, hgr, _⟩ := run_append_own (P := Try.prog) w w.heap.size 31 ty 5 i (.int .u8 0) 1 1 Try.underlying31 hi hz hs hb rfl (by decide) (.slice none 0 0) 0 [] (World.ownsRow_nil w _ _ 1) ⟨g0, 0, none⟩ 1 1 [.int .u8 (b : Nat)] rfl hnews (by simp [Value.oneCell']) (by decide) (by decide) (Nat.le_refl _)
    exact ⟨v', w', hr, back w' v' _ ho, Upd.of_grown hgr, fun x hx => .inr (ownsRow_block ho x hx)⟩
  · by_cases hroom : l.length + 1 ≤ c
    · have hlt : o + l.length < cur.size := by omega
      have hcell : w.cell? ⟨g, o + l.length * i.size + 0, none⟩ = some cur[o + l.length] := by rw [hs, Nat.mul_one, Nat.add_zero, (cells_of hg).1, Array.getElem?_eq_getElem hlt]
      have hr := run_append_room_cells (P := Try.prog) w 31 ty 5 i Try.underlying31 hi g o l.length c ⟨g0, 0, none⟩ 1 1 [.int .u8 (b : Nat)] (by rw [hs]; rfl) hnews (by simp [Value.oneCell']) hroom
        (fun j hj => by obtain rfl : j = 0 := by simpa using hj
                        rw [hcell]; rfl)
        (fun j hj => (cells_of hg).2 _)
      rw [hs, Nat.mul_one] at hr
      have hset : w.setCells g (o + l.length) [.int .u8 (b : Nat)] = w.setCell ⟨g, o + l.length, none⟩ (.int .u8 (b : Nat)) := rfl
      rw [hset] at hr
      refine ⟨_, _, hr, .inr ⟨g, o, c, cur.setIfInBounds (o + l.length) (.int .u8 (b : Nat)), by rw [List.length_append]; rfl, heap_setCell_same w g _ _ _ _ hg, by rw [List.length_append]; exact hroom, hcm, by rw [Array.size_setIfInBounds]; exact hsz, fun k hk => ?_⟩, (Upd.refl _ w).setCell (.inl (by simp [Value.ownBlock])) _, fun x hx => .inl (by simpa [Value.ownBlock] using hx)⟩
      rw [List.length_append, List.length_singleton] at hk
      rw [Array.getElem?_setIfInBounds, List.getD_eq_getElem?_getD]
      by_cases hkl : k < l.length
      · rw [if_neg (by omega), hcur k hkl, List.getElem?_append_left hkl, List.getD_eq_getElem?_getD]
      · obtain rfl : k = l.length := by omega
        rw [if_pos rfl, if_pos hlt, List.getElem?_append_right (Nat.le_refl _), Nat.sub_self]
        rfl
    · obtain ⟨v', w', hr, ho, hgr⟩ := run_append_arg_grows (P := Try.prog) w 31 ty 5 i (.int .u8 0) 1 1 Try.underlying31 hi hz hs hb rfl (by decide) ⟨g, o, none⟩ l.length c (u8s l) (by rw [u8s_len, Nat.mul_one])
        (fun j u hj => by
          have hj' : j < l.length := by
            have := (List.getElem?_eq_some_iff.1 hj).1
            rwa [u8s_len] at this
          rw [u8s_get, List.getElem?_eq_getElem hj'] at hj
          rw [Addr.add_lit, (cells_of hg).1, hcur j hj', ← hj, List.getD_eq_getElem?_getD, List.getElem?_eq_getElem hj']
          rfl)
        ⟨g0, 0, none⟩ 1 1 [.int .u8 (b : Nat)] rfl hnews (by omega) (by simp only [maxLen]; omega) (by omega)
      exact ⟨v', w', hr, back w' v' _ ho, (Upd.of_grown hgr).mono (by simp), fun x hx => .inr (ownsRow_block ho x hx)⟩
/-- A row in a world in which the blocks of T are. -/
theorem MRow.new {w : World} {B : Nat} {E : List Nat} {T : List (Nat × Obj)} {v : Value} {l : List Nat} (h : MRow B E T v l) (hT : ∀ p ∈ T, w.heap[p.1]? = some p.2) : NewRow w v l := by
  rcases h with h | ⟨g, o, c, cur, rfl, h1, h2, h3, h4⟩
  · exact .inl h
  · exact .inr ⟨g, o, c, cur, rfl, hT _ h1, h4⟩
/-- The last one of a row alone. -/
theorem NewRow.tail {w : World} {v : Value} {l : List Nat} (h : NewRow w v l) (hl : l ≠ []) : ∃ g o c, v = .slice (some ⟨g, o, none⟩) l.length c ∧ l.length ≤ c ∧ c ≤ maxLen ∧ NewRow w (.slice (some ⟨g, o + (l.length - 1), none⟩) 1 (c - (l.length - 1))) [l.getLast?.getD 0] := by
  rcases h with ⟨_, h⟩ | ⟨g, o, c, cur, rfl, h1, h2, h3, h4, h5⟩
  · exact absurd h hl
  · have h0 : 0 < l.length := List.length_pos_iff.2 hl
    refine ⟨g, o, c, rfl, h2, h3, .inr ⟨g, _, _, cur, rfl, h1, by simp; omega, by omega, by omega, fun k hk => ?_⟩⟩
    obtain rfl : k = 0 := by simpa using hk
    rw [Nat.add_zero, h5 _ (by omega), List.getLast?_eq_getElem?, List.getD_eq_getElem?_getD]
    rfl
theorem setf_setf {α : Type} (f : Nat → α) (i : Nat) (x y : α) : setf (setf f i x) i y = setf f i y := funext fun j => by
  unfold setf
  split <;> rfl
/-- One byte more for one of the rows. -/
theorem app_step {w W0 : World} {d mb i : Nat} {F : Nat → Prop} {T : List (Nat × Obj)} {S : Dk} {E : List Nat} {V : Nat → Value} {M : Nat → List Nat} (h : LawD w W0 d F T S) (hR : Rows8 w.heap.size E T mb V M) (hi : i < 8) (hl : (M i).length ≤ 2000000000000) (b : Nat) (ty : TypeId) :
    ∃ v' w4, (∃ av nv cv, v' = .slice av nv cv) ∧ (Builtin.append_ #[31, 31] ty #[V i, .slice (some ⟨W0.heap.size, 0, none⟩) 1 1]).run Try.prog (W0.drew.alloc (.cells #[.int .u8 (b : Nat)] 5)) = .ok v' w4 ∧
      (W0.drew.cell? ⟨mb, i, none⟩ = some (V i) ∧ (W0.drew.alloc (.cells #[.int .u8 (b : Nat)] 5)).cell? ⟨mb, i, none⟩ = some (V i) ∧ w4.cell? ⟨mb, i, none⟩ = some (V i) ∧ w4.frozen? ⟨mb, i, none⟩ = false) ∧
      (∀ p ∈ T, p.1 ∈ E → W0.drew.heap[p.1]? = some p.2 ∧ (W0.drew.alloc (.cells #[.int .u8 (b : Nat)] 5)).heap[p.1]? = some p.2 ∧ w4.heap[p.1]? = some p.2 ∧ (w4.setCell ⟨mb, i, none⟩ v').heap[p.1]? = some p.2) ∧
      ∃ T', LawD w (w4.setCell ⟨mb, i, none⟩ v') d F T' S ∧ Rows8 w.heap.size E T' mb (setf V i v') (setf M i (M i ++ [b])) ∧ ∀ p ∈ T, p.1 ∈ E → p ∈ T' := by
  have u0 : Upd [] W0 W0.drew := (Upd.refl [] W0).drew
  have ua : Upd [] W0 (W0.drew.alloc (.cells #[.int .u8 (b : Nat)] 5)) := u0.alloc _
  have hT : ∀ p ∈ T, (W0.drew.alloc (.cells #[.int .u8 (b : Nat)] 5)).heap[p.1]? = some p.2 := fun p hp => ua.get (h.2.2.1 p hp).2 (by simp)
  have hrow := hR.row i hi
  obtain ⟨v', w4, hr, hn, hu, ho⟩ := run_append_may (hrow.new hT) b W0.heap.size ((cells_of (heap_alloc_new W0.drew (.cells #[.int .u8 (b : Nat)] 5))).1 0) hl ty
  have u4 : Upd (V i).ownBlock.toList W0 w4 := (ua.mono (by simp)).trans hu
  have hE : ∀ p ∈ T, p.1 ∈ E → p.1 ∉ (V i).ownBlock.toList := fun p _ hpE e => (hrow.own _ e).2.2 (List.mem_cons_of_mem _ hpE)
  obtain ⟨T', h1, h2, h3⟩ := rows_set h hR hi u4 hn fun x hx => by
    rcases ho x hx with e | e
    · exact .inl e
    · right; have := ua.size; omega
  have hmi : mb ∉ (V i).ownBlock.toList := fun e => (hrow.own mb e).2.2 (List.mem_cons_self ..)
  have c0 := cells_of (u0.get (h.get hR.mem) (by simp))
  have c1 := cells_of (hT _ hR.mem)
  have c2 := cells_of (u4.get (h.get hR.mem) hmi)
  have hsl : ∃ av nv cv, v' = .slice av nv cv := by
    rcases hn with ⟨e, _⟩ | ⟨_, _, _, _, e, _⟩
    · exact ⟨_, _, _, e⟩
    · exact ⟨_, _, _, e⟩
  refine ⟨v', w4, hsl, hr, ⟨by rw [c0.1, mayCells_get V hi], by rw [c1.1, mayCells_get V hi], by rw [c2.1, mayCells_get V hi], c2.2 _⟩, fun p hp hpE => ⟨u0.get (h.2.2.1 p hp).2 (by simp), hT p hp, u4.get (h.2.2.1 p hp).2 (hE p hp hpE), h1.get (h3 p hp hpE)⟩, T', h1, h2, h3⟩
end Go.Proofs.Ytpnpjffhkaejgaa
