/-
  PROVED HERE: the plain laws of what a write, a flush and a crash change of what is read. Conditions: those that each theorem names.
-/
import Derived.Test.YtpnpjffhkaejgaaScript
namespace Go.Proofs.Ytpnpjffhkaejgaa

theorem putV_last (S : Dk) (fua : Bool) (p : Nat) (l : List Nat) : ((putV S fua p l).sec p).last = l := by
  cases fua
  · rw [putV_false]; simp [Sec.last]
  · rw [putV_true]; rfl
theorem puts_last {fua : Bool} {ls : List (List Nat)} : ∀ {S : Dk} {p : Nat} (i : Nat), ((puts S fua p ls).sec i).last = if p ≤ i ∧ i < p + ls.length then ls.getD (i - p) [] else (S.sec i).last := by
  induction ls with
  | nil => intro S p i; rw [if_neg (by simp)]; rfl
  | cons l r ih =>
    intro S p i
    rw [puts_cons, ih]
    simp only [List.length_cons]
    by_cases e : i = p
    · subst e
      rw [if_neg (by omega), if_pos (by omega), putV_last, Nat.sub_self]
      rfl
    · by_cases h : p + 1 ≤ i ∧ i < p + 1 + r.length
      · rw [if_pos h, if_pos (by omega), show i - p = (i - (p + 1)) + 1 by omega, List.getD_cons_succ]
      · rw [if_neg h, if_neg (by omega), putV_sec e]
theorem flush_last (S : Dk) (i : Nat) : (S.flush.2.sec i).last = (S.sec i).last := by
  unfold Dk.flush
  split
  · rfl
  · rfl
theorem flush_n (S : Dk) : S.flush.2.n = S.n := by unfold Dk.flush; split <;> rfl
theorem tick31 (S : Dk) : (S.tick 3).fall 1 = S.fall 1 := by
  show setf S.fall 3 (S.fall 3 - 1) 1 = S.fall 1
  unfold setf
  rw [if_neg (by decide)]
theorem tick21 (S : Dk) : (S.tick 2).fall 1 = S.fall 1 := by
  show setf S.fall 2 (S.fall 2 - 1) 1 = S.fall 1
  unfold setf
  rw [if_neg (by decide)]
theorem flush_fall1 (S : Dk) : S.flush.2.fall 1 = S.fall 1 := by
  unfold Dk.flush
  split
  · exact tick31 S
  · exact tick31 S
theorem write_n (S : Dk) (p : Int) (data : List Nat) (fua : Bool) : (S.write p data fua).2.n = S.n ∧ (S.write p data fua).2.fall 1 = S.fall 1 := by
  unfold Dk.write
  split
  · exact ⟨rfl, rfl⟩
  split
  · split
    · exact ⟨rfl, tick21 S⟩
    · obtain ⟨h1, h2, _⟩ := puts_n (S.tick 2) fua p.toNat (pieces data)
      exact ⟨h1, by show (puts (S.tick 2) fua p.toNat (pieces data)).fall 1 = _; rw [h2]; exact tick21 S⟩
  · exact ⟨rfl, rfl⟩
/-- What a write answers 0 for is there. -/
theorem write_zero {S : Dk} {p : Int} {data : List Nat} {fua : Bool} (h : (S.write p data fua).1 = 0) : 0 ≤ p ∧ data.length % 256 = 0 ∧ p + (data.length / 256 : Nat) ≤ S.n := by
  unfold Dk.write at h
  split at h
  · cases h
  rename_i h0
  split at h
  · rename_i ht
    obtain ⟨t1, t2, t3, t4⟩ := there_true ht
    exact ⟨t1, by omega, by omega⟩
  · cases h
theorem write_last {S : Dk} {p : Int} {data : List Nat} {fua : Bool} (i : Nat) : ((S.write p data fua).2.sec i).last = if (S.write p data fua).1 = 0 ∧ p ≤ i ∧ i < p + (data.length / 256 : Nat) then piece data (i - p.toNat) else (S.sec i).last := by
  by_cases h : (S.write p data fua).1 = 0
  · obtain ⟨h1, h2, h3⟩ := write_zero h
    obtain ⟨q, rfl⟩ := Int.eq_ofNat_of_zero_le h1
    have e : (S.write q data fua).2 = (puts (S.tick 2) fua q (pieces data)).did := by
      unfold Dk.write at h ⊢
      split at h
      · cases h
      rename_i h0
      rw [if_neg h0]
      split at h
      · rename_i ht
        rw [if_pos ht]
        split at h
        · cases h
        · rename_i hh
          rw [if_neg hh]
          rfl
      · cases h
    rw [e]
    show ((puts (S.tick 2) fua q (pieces data)).sec i).last = _
    rw [puts_last, show (pieces data).length = data.length / 256 by unfold pieces; simp]
    by_cases hi : q ≤ i ∧ i < q + data.length / 256
    · rw [if_pos hi, if_pos ⟨h, by omega, by omega⟩]
      unfold pieces
      rw [List.getD_eq_getElem?_getD, List.getElem?_map, List.getElem?_range (by omega)]
      rfl
    · rw [if_neg hi, if_neg (by omega)]
      rfl
  · rw [if_neg fun hh => h hh.1]
    unfold Dk.write at h ⊢
    split
    · rfl
    split
    · split
      · rfl
      · rename_i h0 ht hh
        rw [if_neg h0, if_pos ht, if_neg hh] at h
        exact absurd rfl h
    · rfl
theorem there8 {S : Dk} (h : S.n = 8) : S.there 0 8 = true := by
  unfold Dk.there
  simp [h]
/-- All eight sectors are read. -/
theorem read8 {S : Dk} (h : S.n = 8) (hf : S.fall 1 ≠ 1) : S.read 0 8 = ((S.bytes 0 8, 0), S.tick 1) := by
  unfold Dk.read
  rw [there8 h, if_pos rfl, if_neg (by unfold Dk.hit; simpa using hf)]
  rfl
theorem fail8 (S : Dk) : (S.fail 1 1099511627776) = (0, { S with fall := setf S.fall 1 1099511627776 }) := by
  unfold Dk.fail
  rw [if_neg (by decide)]
  rfl
/-- What is read of all eight sectors, byte by byte. -/
theorem bytes8 {S : Dk} (h : S.Ok) (hn : S.n = 8) : (S.bytes 0 8).length = 2048 ∧ ∀ i, i < 2048 → (S.bytes 0 8).getD i 0 = (S.sec (i / 256)).last.getD (i % 256) 0 := by
  have hl : ∀ i, i < 8 → ((S.sec (0 + i)).last).length = 256 := fun i hi => (Sec.last_ok (h.sec _ (by omega))).1
  refine ⟨blocks_len hl, fun i hi => ?_⟩
  unfold Dk.bytes
  rw [List.getD_eq_getElem?_getD, blocks_get hl i (by omega), Nat.zero_add]
  rfl
theorem bytes_congr {S T : Dk} (h : ∀ i, (S.sec i).last = (T.sec i).last) : S.bytes 0 8 = T.bytes 0 8 := by
  unfold Dk.bytes
  exact blocks_congr fun i _ => h _
theorem piece_getD {data : List Nat} {j k : Nat} (hk : k < 256) : (piece data j).getD k 0 = data.getD (256 * j + k) 0 := by
  unfold piece
  rw [List.getD_eq_getElem?_getD, List.getD_eq_getElem?_getD, List.getElem?_take_of_lt hk, List.getElem?_drop]
/-- DISKELSE, the plain law. -/
theorem else_plain {S T : Dk} {p : Int} {data : List Nat} {fua : Bool} (hS : S.Ok) (hn : S.n = 8) (hT : T = (S.write p data fua).2.flush.2) (hTok : T.Ok) :
    T.n = 8 ∧ T.fall 1 = S.fall 1 ∧ (T.bytes 0 8).length = 2048 ∧ ∀ i, i < 2048 → (T.bytes 0 8).getD i 0 = if (S.write p data fua).1 = 0 ∧ p ≤ (i / 256 : Nat) ∧ ((i / 256 : Nat) : Int) < p + (data.length / 256 : Nat) then data.getD (i - 256 * p.toNat) 0 else (S.bytes 0 8).getD i 0 := by
  obtain ⟨w1, w2⟩ := write_n S p data fua
  have hTn : T.n = 8 := by rw [hT, flush_n, w1, hn]
  refine ⟨hTn, by rw [hT, flush_fall1, w2], (bytes8 hTok hTn).1, fun i hi => ?_⟩
  rw [(bytes8 hTok hTn).2 i hi, (bytes8 hS hn).2 i hi, hT, flush_last, write_last]
  split
  · rename_i h
    obtain ⟨h1, _, _⟩ := write_zero h.1
    obtain ⟨q, rfl⟩ := Int.eq_ofNat_of_zero_le h1
    rw [piece_getD (by omega)]
    congr 1
    have := h.2.1
    have e : ((q : Nat) : Int).toNat = q := rfl
    rw [e]
    omega
  · rfl
theorem flushed_ver {S : Dk} (h : S.flush.1 = 0) (i : Nat) : (S.flush.2.sec i).ver = [] := by
  have e : S.flush.2 = (S.tick 3).flushed.did := by
    unfold Dk.flush at h ⊢
    split at h
    · cases h
    · rename_i hh; rw [if_neg hh]
  rw [e]
  rfl
/-- Where no version is kept a crash changes nothing. -/
theorem crash_clean {S : Dk} {picks : List Int} (hv : ∀ i, (S.sec i).ver = []) : S.dirty = [] ∧ ∀ i, ((S.crash picks).sec i).last = (S.sec i).last := by
  have hd : S.dirty = [] := by
    unfold Dk.dirty
    rw [List.filter_eq_nil_iff]
    intro i _
    rw [hv]
    simp
  refine ⟨hd, fun i => ?_⟩
  show (⟨S.durs picks (min S.dirty.length picks.length) i, []⟩ : Sec).last = _
  rw [hd, List.length_nil, Nat.zero_min]
  unfold Sec.last
  rw [hv]
  rfl
end Go.Proofs.Ytpnpjffhkaejgaa
