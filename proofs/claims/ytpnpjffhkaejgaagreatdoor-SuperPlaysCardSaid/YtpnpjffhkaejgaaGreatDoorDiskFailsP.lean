/-
  PROVED HERE: the plain law of thirty rounds on a disk of which one operation is to fail. Conditions: those that each theorem names.
-/
import Derived.Test.YtpnpjffhkaejgaaGreatDoorDiskL
namespace Go.Proofs.YtpnpjffhkaejgaaGreatDoor

theorem there_one {S : Dk} {p : Nat} (h : p < S.n) : S.there p 1 = true := by
  unfold Dk.there
  simp
  omega
theorem bytes_one (S : Dk) (p : Nat) : S.bytes p 1 = (S.sec p).last := by simp [Dk.bytes, blocks]
theorem pieces_one {l : List Nat} (h : l.length = 256) : pieces l = [l] := by
  unfold pieces
  rw [h]
  show [piece l 0] = [l]
  unfold piece
  rw [Nat.mul_zero, List.drop_zero, List.take_of_length_le (by omega)]
theorem read_one {S : Dk} {p : Nat} (h : p < S.n) : S.read p 1 = (if S.hit 1 then ([], 10) else ((S.sec p).last, 0), S.tick 1) := by
  unfold Dk.read
  rw [there_one h, if_pos rfl]
  split
  · rfl
  · rw [show ((p : Int)).toNat = p from rfl, show (1 : Int).toNat = 1 from rfl, bytes_one]
theorem write_one {S : Dk} {p : Nat} (h : p < S.n) {l : List Nat} (hl : l.length = 256) (fua : Bool) : S.write p l fua = if S.hit 2 || S.down then (11, S.tick 2) else (0, (putV (S.tick 2) fua p l).did) := by
  unfold Dk.write
  rw [if_neg (by omega), hl, show ((256 / 256 : Nat) : Int) = 1 from rfl, there_one h, if_pos rfl, pieces_one hl]
  rfl
structure FInv (k n i : Nat) (S : Dk) : Prop where
  n4 : S.n = 4
  fall : ∀ j, S.fall j = if j = k then n + 1 - i else 0
  left : S.left = none
  ver : ∀ j, (S.sec j).ver.length < i
  last : i = 1 ∨ n + 1 = i ∨ (S.sec 1).last = List.replicate 256 ((i - 1) % 256)
theorem tick_fall {S : Dk} {k j : Nat} : (S.tick k).fall j = if j = k then S.fall k - 1 else S.fall j := rfl
theorem hit_of {S : Dk} {j : Nat} : S.hit j = decide (S.fall j = 1) := rfl
theorem last_snoc (s : Sec) (l : List Nat) : (⟨s.dur, s.ver ++ [l]⟩ : Sec).last = l := by simp [Sec.last]
/-- One round: a read, a write and a flush. -/
theorem FInv.round {k n i : Nat} {S : Dk} (h : FInv k n i S) (hk : 1 ≤ k ∧ k ≤ 3) (hi : 1 ≤ i) :
    (S.read 1 1).1.2 = (if k = 1 ∧ i = n then 10 else 0) ∧ ((S.read 1 1).1.2 = 0 → (S.read 1 1).1.1 = (S.sec 1).last) ∧
    ((S.tick 1).write 1 (List.replicate 256 (i % 256)) false).1 = (if k = 2 ∧ i = n then 11 else 0) ∧
    (((S.tick 1).write 1 (List.replicate 256 (i % 256)) false).2.flush).1 = (if k = 3 ∧ i = n then 12 else 0) ∧
    FInv k n (i + 1) (((S.tick 1).write 1 (List.replicate 256 (i % 256)) false).2.flush).2 := by
  have hn := h.n4
  have r := read_one (S := S) (p := 1) (by omega)
  have hw := write_one (S := S.tick 1) (p := 1) (show 1 < S.n by omega) (l := List.replicate 256 (i % 256)) List.length_replicate false
  have h1 : S.hit 1 = decide (k = 1 ∧ i = n) := by
    rw [hit_of, h.fall, Bool.eq_iff_iff, decide_eq_true_iff, decide_eq_true_iff]
    split <;> omega
  have h2 : (S.tick 1).hit 2 = decide (k = 2 ∧ i = n) := by
    rw [hit_of, tick_fall, if_neg (by decide), h.fall, Bool.eq_iff_iff, decide_eq_true_iff, decide_eq_true_iff]
    split <;> omega
  have hd : (S.tick 1).down = false := by
    show decide (S.left = some 0) = false
    rw [h.left]; rfl
  rw [show ((1 : Nat) : Int) = 1 from rfl] at r hw
  rw [r, hw, h2, hd, Bool.or_false]
  generalize hT : (if decide (k = 2 ∧ i = n) = true then ((11 : Int), (S.tick 1).tick 2) else (0, (putV ((S.tick 1).tick 2) false 1 (List.replicate 256 (i % 256))).did)) = T
  have hT2 : T.2.n = 4 ∧ (∀ j, T.2.fall j = ((S.tick 1).tick 2).fall j) ∧ T.2.left = none ∧ (∀ j, (T.2.sec j).ver.length < i + 1) ∧ (n + 1 = i + 1 ∨ (T.2.sec 1).last = List.replicate 256 (i % 256)) ∧ T.1 = (if k = 2 ∧ i = n then 11 else 0) := by
    rw [← hT]
    by_cases e : k = 2 ∧ i = n
    · rw [if_pos (by simpa using e), if_pos e]
      exact ⟨hn, fun _ => rfl, h.left, fun j => Nat.lt_succ_of_lt (h.ver j), .inl (by omega), rfl⟩
    · rw [if_neg (by simpa using e), if_neg e]
      refine ⟨hn, fun _ => rfl, by show S.left.map (· - 1) = none; rw [h.left]; rfl, fun j => ?_, .inr ?_, rfl⟩
      · show ((putV ((S.tick 1).tick 2) false 1 (List.replicate 256 (i % 256))).sec j).ver.length < i + 1
        by_cases e1 : j = 1
        · subst e1
          rw [putV_false, List.length_append, List.length_singleton]
          exact Nat.succ_lt_succ (h.ver 1)
        · rw [putV_sec e1]
          exact Nat.lt_succ_of_lt (h.ver j)
      · show ((putV ((S.tick 1).tick 2) false 1 (List.replicate 256 (i % 256))).sec 1).last = _
        rw [putV_false, last_snoc]
  obtain ⟨t1, t2, t3, t4, t5, t6⟩ := hT2
  refine ⟨by rw [h1]; by_cases e : k = 1 ∧ i = n <;> simp [e], fun hz => ?_, t6, ?_⟩
  · revert hz
    cases S.hit 1
    · intro _; rfl
    · intro hz; simp at hz
  have h3 : T.2.hit 3 = decide (k = 3 ∧ i = n) := by
    rw [hit_of, t2, tick_fall, if_neg (by decide), tick_fall, if_neg (by decide), h.fall, Bool.eq_iff_iff, decide_eq_true_iff, decide_eq_true_iff]
    split <;> omega
  have hd3 : T.2.down = false := by
    show decide (T.2.left = some 0) = false
    rw [t3]; rfl
  have hf : ∀ j, (T.2.tick 3).fall j = if j = k then n + 1 - (i + 1) else 0 := fun j => by
    simp only [tick_fall, t2, h.fall]
    obtain rfl | rfl | rfl : k = 1 ∨ k = 2 ∨ k = 3 := by omega
    all_goals
      by_cases e1 : j = 1
      · subst e1; simp <;> omega
      by_cases e2 : j = 2
      · subst e2; simp <;> omega
      by_cases e3 : j = 3
      · subst e3; simp <;> omega
      simp [e1, e2, e3]
  unfold Dk.flush
  rw [h3, hd3, Bool.or_false]
  by_cases e : k = 3 ∧ i = n
  · rw [if_pos (by simpa using e), if_pos e]
    exact ⟨rfl, t1, hf, t3, t4, by rcases t5 with t5 | t5; exact .inr (.inl t5); exact .inr (.inr t5)⟩
  · rw [if_neg (by simpa using e), if_neg e]
    refine ⟨rfl, t1, hf, ?_, fun j => ?_, ?_⟩
    · show T.2.left.map (· - 1) = none
      rw [t3]; rfl
    · show 0 < i + 1
      omega
    · rcases t5 with t5 | t5
      · exact .inr (.inl t5)
      · exact .inr (.inr t5)
theorem FInv.start {k n : Nat} : FInv k n 1 { Dk.new 4 with fall := setf (Dk.new 4).fall k n } :=
  ⟨rfl, fun j => by show setf _ k n j = _; unfold setf; split; omega; rfl, rfl, fun j => by show 0 < 1; omega, .inl rfl⟩
end Go.Proofs.YtpnpjffhkaejgaaGreatDoor
