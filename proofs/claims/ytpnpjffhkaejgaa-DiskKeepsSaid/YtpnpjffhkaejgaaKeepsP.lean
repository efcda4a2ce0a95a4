/-
  PROVED HERE: the plain law of what each sector may be full of behind a crash. Conditions: those that each theorem names.
-/
import Derived.Test.YtpnpjffhkaejgaaElseP
import Derived.Test.YtpnpjffhkaejgaaDiskFailsP
namespace Go.Proofs.Ytpnpjffhkaejgaa

theorem putV_at (S : Dk) (fua : Bool) (p : Nat) (l : List Nat) : (putV S fua p l).sec p = if fua then ⟨l, []⟩ else ⟨(S.sec p).dur, (S.sec p).ver ++ [l]⟩ := by
  cases fua
  · exact putV_false
  · exact putV_true
theorem puts_at {fua : Bool} {ls : List (List Nat)} : ∀ {S : Dk} {p : Nat} (i : Nat), (puts S fua p ls).sec i = if p ≤ i ∧ i < p + ls.length then (if fua then ⟨ls.getD (i - p) [], []⟩ else ⟨(S.sec i).dur, (S.sec i).ver ++ [ls.getD (i - p) []]⟩) else S.sec i := by
  induction ls with
  | nil => intro S p i; rw [if_neg (by simp)]; rfl
  | cons l r ih =>
    intro S p i
    rw [puts_cons, ih]
    simp only [List.length_cons]
    by_cases e : i = p
    · subst e
      rw [if_neg (by omega), if_pos (by omega), putV_at, Nat.sub_self]
      rfl
    · by_cases h : p + 1 ≤ i ∧ i < p + 1 + r.length
      · rw [if_pos h, if_pos (show p ≤ i ∧ i < p + (r.length + 1) by omega), show i - p = (i - (p + 1)) + 1 by omega, List.getD_cons_succ, putV_sec e]
      · rw [if_neg h, if_neg (by omega), putV_sec e]
theorem write_at {S : Dk} {p : Nat} {data : List Nat} {fua : Bool} (h : (S.write p data fua).1 = 0) (i : Nat) : (S.write p data fua).2.sec i = if p ≤ i ∧ i < p + data.length / 256 then (if fua then ⟨piece data (i - p), []⟩ else ⟨(S.sec i).dur, (S.sec i).ver ++ [piece data (i - p)]⟩) else S.sec i := by
  have e : (S.write p data fua).2 = (puts (S.tick 2) fua p (pieces data)).did := by
    unfold Dk.write at h ⊢
    split at h
    · cases h
    rename_i h0
    rw [if_neg h0]
    split at h
    · rename_i ht
      rw [if_pos ht]
      split at h
      · cases h
      · rename_i hh
        rw [if_neg hh]
        rfl
    · cases h
  rw [e]
  show (puts (S.tick 2) fua p (pieces data)).sec i = _
  rw [puts_at, show (pieces data).length = data.length / 256 by unfold pieces; simp]
  by_cases hi : p ≤ i ∧ i < p + data.length / 256
  · rw [if_pos hi, if_pos hi]
    have : (pieces data).getD (i - p) [] = piece data (i - p) := by
      unfold pieces
      rw [List.getD_eq_getElem?_getD, List.getElem?_map, List.getElem?_range (by omega)]
      rfl
    rw [this]
    rfl
  · rw [if_neg hi, if_neg hi]
    rfl
theorem write_ne {S : Dk} {p : Int} {data : List Nat} {fua : Bool} (h : (S.write p data fua).1 ≠ 0) : (S.write p data fua).2.sec = S.sec := by
  unfold Dk.write at h ⊢
  split
  · rfl
  split
  · split
    · rfl
    · rename_i h0 ht hh
      rw [if_neg h0, if_pos ht, if_neg hh] at h
      exact absurd rfl h
  · rfl
/-- M: of each sector what it may be full of behind a crash; the last one is what it reads as. -/
structure Fit (S : Dk) (M : Nat → List Nat) (j : Nat) : Prop where
  n : S.n = 8
  len : ∀ i, i < 8 → (M i).length ≤ j + 1
  ne : ∀ i, i < 8 → M i ≠ []
  byte : ∀ i, i < 8 → ∀ b ∈ M i, b < 256
  last : ∀ i, i < 8 → (S.sec i).last = List.replicate 256 ((M i).getLast?.getD 0)
  dur : ∀ i, i < 8 → ∃ b ∈ M i, (S.sec i).dur = List.replicate 256 b
  ver : ∀ i, i < 8 → ∀ v ∈ (S.sec i).ver, ∃ b ∈ M i, v = List.replicate 256 b
  verl : ∀ i, i < 8 → (S.sec i).ver.length ≤ j
theorem fit_new : Fit (Dk.new 8) (fun _ => [0]) 0 where
  n := rfl
  len := fun _ _ => Nat.le_refl _
  ne := fun _ _ => by simp
  byte := fun _ _ b hb => by simp at hb; omega
  last := fun _ _ => rfl
  dur := fun _ _ => ⟨0, by simp, rfl⟩
  ver := fun _ _ v hv => by cases hv
  verl := fun _ _ => Nat.le_refl _
theorem Fit.same {S S' : Dk} {M : Nat → List Nat} {j : Nat} (h : Fit S M j) (hn : S'.n = S.n) (hs : S'.sec = S.sec) : Fit S' M (j + 1) where
  n := by rw [hn, h.n]
  len := fun i hi => Nat.le_succ_of_le (h.len i hi)
  ne := h.ne
  byte := h.byte
  last := fun i hi => by rw [hs]; exact h.last i hi
  dur := fun i hi => by rw [hs]; exact h.dur i hi
  ver := fun i hi => by rw [hs]; exact h.ver i hi
  verl := fun i hi => by rw [hs]; exact Nat.le_succ_of_le (h.verl i hi)
/-- What a write of these bytes makes of M. -/
def wroteM (M : Nat → List Nat) (fua : Bool) (p c : Nat) (data : List Nat) : Nat → List Nat := fun i => if p ≤ i ∧ i < p + c then (if fua then [] else M i) ++ [data.getD (256 * (i - p)) 0] else M i
theorem wroteM_zero (M : Nat → List Nat) (fua : Bool) (p : Nat) (data : List Nat) : wroteM M fua p 0 data = M := funext fun i => if_neg (by omega)
theorem wroteM_at (M : Nat → List Nat) (fua : Bool) (p c : Nat) (data : List Nat) : wroteM M fua p c data (p + c) = M (p + c) := if_neg (by omega)
theorem wroteM_succ (M : Nat → List Nat) (fua : Bool) (p c : Nat) (data : List Nat) : wroteM M fua p (c + 1) data = setf (wroteM M fua p c data) (p + c) ((if fua then [] else M (p + c)) ++ [data.getD (256 * c) 0]) := by
  funext i
  unfold wroteM setf
  by_cases e : i = p + c
  · subst e
    rw [if_pos (by omega), if_pos rfl, Nat.add_sub_cancel_left]
  · rw [if_neg e]
    by_cases h : p ≤ i ∧ i < p + c
    · rw [if_pos (show p ≤ i ∧ i < p + (c + 1) by omega)]
      exact (if_pos h).symm
    · rw [if_neg (show ¬ (p ≤ i ∧ i < p + (c + 1)) by omega)]
      exact (if_neg h).symm
theorem Fit.write {S : Dk} {M : Nat → List Nat} {j p : Nat} {data : List Nat} {fua : Bool} (h : Fit S M j) (h0 : (S.write p data fua).1 = 0) (hb : BytesOk data) (hd : ∀ k, k < data.length / 256 → piece data k = List.replicate 256 (data.getD (256 * k) 0)) :
    Fit (S.write p data fua).2 (wroteM M fua p (data.length / 256) data) (j + 1) := by
  obtain ⟨_, hm, hle⟩ := write_zero h0
  have hn := (write_n S p data fua).1
  have hB : ∀ k, k < data.length / 256 → data.getD (256 * k) 0 < 256 := fun k hk => hb _ (getD_in (by omega))
  have hc : ∀ i, i < 8 → ((S.write p data fua).2.sec i = S.sec i ∧ wroteM M fua p (data.length / 256) data i = M i) ∨
      ∃ k, k < data.length / 256 ∧ ((fua = true ∧ (S.write p data fua).2.sec i = ⟨List.replicate 256 (data.getD (256 * k) 0), []⟩ ∧ wroteM M fua p (data.length / 256) data i = [data.getD (256 * k) 0]) ∨
        (fua = false ∧ (S.write p data fua).2.sec i = ⟨(S.sec i).dur, (S.sec i).ver ++ [List.replicate 256 (data.getD (256 * k) 0)]⟩ ∧ wroteM M fua p (data.length / 256) data i = M i ++ [data.getD (256 * k) 0])) := by
    intro i hi
    rw [write_at h0]
    unfold wroteM
    by_cases e : p ≤ i ∧ i < p + data.length / 256
    · refine .inr ⟨i - p, by omega, ?_⟩
      rw [if_pos e, if_pos e, hd _ (by omega)]
      cases fua
      · exact .inr ⟨rfl, rfl, rfl⟩
      · exact .inl ⟨rfl, rfl, rfl⟩
    · exact .inl ⟨by rw [if_neg e], by rw [if_neg e]⟩
  refine ⟨by rw [hn, h.n], fun i hi => ?_, fun i hi => ?_, fun i hi => ?_, fun i hi => ?_, fun i hi => ?_, fun i hi => ?_, fun i hi => ?_⟩
  all_goals rcases hc i hi with ⟨e1, e2⟩ | ⟨k, hk, ⟨rfl, e1, e2⟩ | ⟨rfl, e1, e2⟩⟩
  · rw [e2]; exact Nat.le_succ_of_le (h.len i hi)
  · rw [e2]; simp
  · rw [e2, List.length_append]; exact Nat.succ_le_succ (h.len i hi)
  · rw [e2]; exact h.ne i hi
  · rw [e2]; simp
  · rw [e2]; simp
  · rw [e2]; exact h.byte i hi
  · rw [e2]; intro b hb'; rw [List.mem_singleton.1 hb']; exact hB k hk
  · rw [e2]
    intro b hb'
    rcases List.mem_append.1 hb' with q | q
    · exact h.byte i hi b q
    · rw [List.mem_singleton.1 q]; exact hB k hk
  · rw [e1, e2]; exact h.last i hi
  · rw [e1, e2]; rfl
  · rw [e1, e2, last_snoc, List.getLast?_concat]; rfl
  · rw [e1, e2]; exact h.dur i hi
  · rw [e1, e2]; exact ⟨_, List.mem_singleton.2 rfl, rfl⟩
  · rw [e1, e2]
    obtain ⟨b, h1, h2⟩ := h.dur i hi
    exact ⟨b, List.mem_append_left _ h1, h2⟩
  · rw [e1, e2]; exact h.ver i hi
  · rw [e1]; intro v hv; cases hv
  · rw [e1, e2]
    intro v hv
    rcases List.mem_append.1 hv with q | q
    · obtain ⟨b, h1, h2⟩ := h.ver i hi v q
      exact ⟨b, List.mem_append_left _ h1, h2⟩
    · exact ⟨_, List.mem_append_right _ (List.mem_singleton.2 rfl), List.mem_singleton.1 q⟩
  · rw [e1]; exact Nat.le_succ_of_le (h.verl i hi)
  · rw [e1]; exact Nat.zero_le _
  · rw [e1, List.length_append]; exact Nat.succ_le_succ (h.verl i hi)
theorem Fit.flush {S : Dk} {M : Nat → List Nat} {j : Nat} (h : Fit S M j) (h0 : S.flush.1 = 0) : Fit S.flush.2 (fun i => [(M i).getLast?.getD 0]) (j + 1) := by
  have hv := flushed_ver h0
  have hl : ∀ i, i < 8 → (S.flush.2.sec i).last = List.replicate 256 ((M i).getLast?.getD 0) := fun i hi => by rw [flush_last]; exact h.last i hi
  have hd : ∀ i, (S.flush.2.sec i).dur = (S.flush.2.sec i).last := fun i => by unfold Sec.last; rw [hv]; rfl
  refine ⟨by rw [flush_n, h.n], fun i hi => by simp, fun i hi => by simp, fun i hi b hb => ?_, hl, fun i hi => ⟨_, List.mem_singleton.2 rfl, by rw [hd, hl i hi]⟩, fun i hi v hv' => ?_, fun i hi => ?_⟩
  · rw [List.mem_singleton.1 hb]
    cases hg : (M i).getLast? with
    | none => decide
    | some x => exact h.byte i hi x (List.mem_of_getLast? hg)
  · rw [hv i] at hv'; cases hv'
  · rw [hv i]; exact Nat.zero_le _
theorem durs_in {S : Dk} (picks : List Int) (k : Nat) (hk : k ≤ S.dirty.length) (i : Nat) : S.durs picks k i = (S.sec i).dur ∨ S.durs picks k i ∈ (S.sec i).ver := by
  induction k with
  | zero => exact .inl rfl
  | succ k ih =>
    unfold Dk.durs
    split
    · exact ih (by omega)
    · rename_i hp
      by_cases e : i = S.dirty.getD k 0
      · subst e
        rw [setf_same]
        exact .inr (getD_in (by have := pickN_le (picks.getD k 0) (S.sec (S.dirty.getD k 0)).ver.length; omega))
      · rw [setf_other _ _ e]
        exact ih (by omega)
theorem Fit.crash {S : Dk} {M : Nat → List Nat} {j : Nat} (h : Fit S M j) (picks : List Int) (i : Nat) (hi : i < 8) : ∃ b ∈ M i, (S.crash picks).sec i = ⟨List.replicate 256 b, []⟩ := by
  show ∃ b ∈ M i, (⟨S.durs picks (min S.dirty.length picks.length) i, []⟩ : Sec) = _
  rcases durs_in (S := S) picks (min S.dirty.length picks.length) (by omega) i with e | e
  · obtain ⟨b, h1, h2⟩ := h.dur i hi
    exact ⟨b, h1, by rw [e, h2]⟩
  · obtain ⟨b, h1, h2⟩ := h.ver i hi _ e
    exact ⟨b, h1, by rw [h2]⟩
/-- The bytes of a step, when no more than whole sectors are asked. -/
theorem opData_whole (c f : Int) : (opData c 0 f).length % 256 = 0 ∧ ∀ k, k < (opData c 0 f).length / 256 → piece (opData c 0 f) k = List.replicate 256 ((opData c 0 f).getD (256 * k) 0) := by
  have hm : (opData c 0 f).length % 256 = 0 := by
    rw [opData_len]
    unfold opLen
    rw [Int.zero_tmod]
    omega
  refine ⟨hm, fun k hk => ?_⟩
  have hg : ∀ i, i < (opData c 0 f).length → (opData c 0 f)[i]? = some (opByte f i) := fun i hi => by
    rw [opData_len] at hi
    unfold opData
    rw [List.getElem?_map, List.getElem?_range hi]
    rfl
  have hb : ∀ t, t < 256 → opByte f (256 * k + t) = opByte f (256 * k) := fun t ht => by
    unfold opByte
    rw [show (256 * k + t) / 256 = k by omega, show 256 * k / 256 = k by omega]
  rw [List.getD_eq_getElem?_getD, hg _ (by omega)]
  refine List.ext_getElem? fun t => ?_
  unfold piece
  by_cases ht : t < 256
  · rw [List.getElem?_take_of_lt ht, List.getElem?_drop, hg _ (by omega), hb t ht, List.getElem?_replicate, if_pos ht]
    rfl
  · rw [List.getElem?_eq_none (by rw [List.length_take]; omega), List.getElem?_eq_none (by rw [List.length_replicate]; omega)]
end Go.Proofs.Ytpnpjffhkaejgaa
