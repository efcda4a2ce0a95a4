/-
  PROVED HERE: the plain law of forty rounds on a disk that is cut. Conditions: those that each theorem names.
-/
import Derived.Test.YtpnpjffhkaejgaaGreatDoorDiskFailsP
namespace Go.Proofs.YtpnpjffhkaejgaaGreatDoor

structure CInv (c i : Nat) (S : Dk) : Prop where
  n : S.n = 4
  fall : ∀ j, S.fall j = 0
  left : S.left = some (c - i)
  ver : ∀ j, (S.sec j).ver = []
theorem CInv.hit {c i : Nat} {S : Dk} (h : CInv c i S) (j : Nat) : S.hit j = false := by rw [hit_of, h.fall]; rfl
theorem CInv.tick {c i : Nat} {S : Dk} (h : CInv c i S) (j : Nat) : CInv c i (S.tick j) := ⟨h.n, fun q => by rw [tick_fall, h.fall, h.fall]; split <;> rfl, h.left, h.ver⟩
theorem CInv.down {c i : Nat} {S : Dk} (h : CInv c i S) : S.down = decide (c ≤ i) := by
  show decide (S.left = some 0) = _
  rw [h.left]
  simp
  omega
theorem CInv.next {c i : Nat} {S : Dk} (h : CInv c i S) (hd : c ≤ i) : CInv c (i + 1) S := ⟨h.n, h.fall, by rw [h.left]; congr 1; omega, h.ver⟩
theorem CInv.did {c i : Nat} {S : Dk} (h : CInv c i S) : CInv c (i + 1) S.did := ⟨h.n, h.fall, by show S.left.map (· - 1) = _; rw [h.left]; simp; omega, h.ver⟩
theorem CInv.write {c i : Nat} {S : Dk} (h : CInv c i S) {l : List Nat} (hl : l.length = 256) : (S.write 2 l true).1 = (if c ≤ i then 11 else 0) ∧ CInv c (i + 1) (S.write 2 l true).2 := by
  have hn := h.n
  have hw := write_one (S := S) (p := 2) (by omega) hl true
  rw [show ((2 : Nat) : Int) = 2 from rfl, h.hit, h.down, Bool.false_or] at hw
  rw [hw]
  by_cases e : c ≤ i
  · rw [if_pos (by simpa using e), if_pos e]
    exact ⟨rfl, (h.tick 2).next e⟩
  · rw [if_neg (by simpa using e), if_neg e]
    have h1 : CInv c i (putV (S.tick 2) true 2 l) := ⟨hn, (h.tick 2).fall, h.left, fun j => by
      by_cases e : j = 2
      · subst e; rw [putV_true]
      · rw [putV_sec e]; exact h.ver j⟩
    exact ⟨rfl, h1.did⟩
theorem CInv.flush {c i : Nat} {S : Dk} (h : CInv c i S) : S.flush.1 = (if c ≤ i then 12 else 0) ∧ CInv c (i + 1) S.flush.2 := by
  unfold Dk.flush
  rw [h.hit, h.down, Bool.false_or]
  by_cases e : c ≤ i
  · rw [if_pos (by simpa using e), if_pos e]
    exact ⟨rfl, (h.tick 3).next e⟩
  · rw [if_neg (by simpa using e), if_neg e]
    have h1 : CInv c i (S.tick 3).flushed := ⟨h.n, (h.tick 3).fall, h.left, fun j => rfl⟩
    exact ⟨rfl, h1.did⟩
theorem CInv.read {c i : Nat} {S : Dk} (h : CInv c i S) : (S.read 2 1).1.2 = 0 ∧ CInv c i (S.read 2 1).2 := by
  have hn := h.n
  have r := read_one (S := S) (p := 2) (by omega)
  rw [show ((2 : Nat) : Int) = 2 from rfl, h.hit] at r
  rw [r]
  exact ⟨rfl, h.tick 1⟩
theorem crash_flush (S : Dk) (picks : List Int) : (S.crash picks).flush.1 = 0 := rfl
end Go.Proofs.YtpnpjffhkaejgaaGreatDoor
