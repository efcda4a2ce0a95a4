/-
  PROVED HERE: what the statements of layer 3 ask first (known). Conditions: none.
-/
import Derived.Test.YtpnpjffhkaejgaaGreatDoorDiskP
import Derived.Test.YtpnpjffhkaejgaaGreatDoorOpData
import Derived.Test.YtpnpjffhkaejgaaGreatDoorDiskCutsP
namespace Go.Proofs.YtpnpjffhkaejgaaGreatDoor
open Go.RowKit

def ones256 : List Nat := List.replicate 256 1
theorem opData_one (f : Int) (n : Nat) (hn : n = (f % 256).toNat) : opData 1 0 f = List.replicate 256 n := by
  subst hn
  unfold opData
  rw [show opLen 1 0 = 256 from rfl, List.eq_replicate_iff]
  refine ⟨by simp, fun x hx => ?_⟩
  obtain ⟨i, hi, rfl⟩ := List.mem_map.1 hx
  have hi := List.mem_range.1 hi
  unfold opByte
  rw [show i / 256 = 0 by omega]
  simp
/-- The disk of 'known', step by step. -/
def kn1 : Dk := ((Dk.new 4).write 2 ones256 false).2
def kn2 : Dk := (kn1.read 2 1).2
def kn3 : Dk := kn2.crash []
theorem kn_write : (Dk.new 4).write 2 ones256 false = (0, (putV ((Dk.new 4).tick 2) false 2 ones256).did) := by
  have := write_one (S := Dk.new 4) (p := 2) (by decide) (l := ones256) List.length_replicate false
  rw [show ((2 : Nat) : Int) = 2 from rfl] at this
  rw [this, show (Dk.new 4).hit 2 = false from rfl, show (Dk.new 4).down = false from rfl]; rfl
theorem kn_sec : (kn1.sec 2) = ⟨zeros256, [ones256]⟩ := by
  unfold kn1
  rw [kn_write]
  show (putV ((Dk.new 4).tick 2) false 2 ones256).sec 2 = _
  rw [putV_false]; rfl
theorem kn_n : kn1.n = 4 := by unfold kn1; rw [kn_write]; rfl
theorem kn_hit : kn1.hit 1 = false := by unfold kn1; rw [kn_write]; rfl
theorem kn_read : kn1.read 2 1 = ((ones256, 0), kn1.tick 1) := by
  have := read_one (S := kn1) (p := 2) (by rw [kn_n]; decide)
  rw [show ((2 : Nat) : Int) = 2 from rfl, kn_hit, kn_sec] at this
  rw [this]
  simp only [Bool.false_eq_true, if_false, Sec.last, List.getLast?_singleton, Option.getD_some]
theorem kn_read3 : (kn3.read 2 1).1 = (zeros256, 0) := by
  have hn : kn3.n = 4 := by unfold kn3 kn2; rw [kn_read, crash_n]; dsimp only; rw [tick_n, kn_n]
  have := read_one (S := kn3) (p := 2) (by rw [hn]; decide)
  rw [show ((2 : Nat) : Int) = 2 from rfl, show kn3.hit 1 = false from rfl] at this
  rw [this]
  have hs : kn3.sec 2 = ⟨zeros256, []⟩ := by
    unfold kn3
    rw [crash_nil]
    unfold kn2
    rw [kn_read]
    dsimp only
    rw [tick_sec, kn_sec]
  rw [hs]
  simp only [Bool.false_eq_true, if_false, Sec.last, List.getLast?_nil, Option.getD_none]
theorem kn_vers (S : Dk) (h : S.sec = kn1.sec ∨ S.sec = (Dk.new 4).sec) : ∀ i, (S.sec i).ver.length ≤ 2000000000000 := fun i => by
  rcases h with h | h
  · rw [h]
    unfold kn1
    rw [kn_write]
    show ((putV ((Dk.new 4).tick 2) false 2 ones256).sec i).ver.length ≤ _
    by_cases e : i = 2
    · subst e; rw [putV_false]; show 1 ≤ _; decide
    · rw [putV_sec e]; exact Nat.zero_le _
  · rw [h]; exact Nat.zero_le _
theorem row_at0 {w : World} {B g n cap : Nat} {l : List Nat} (h : IsRow w B (.slice (some ⟨g, 0, none⟩) n cap) l) (hl : 0 < l.length) : w.cell? ⟨g, 0, none⟩ = some (.int .u8 (l.getD 0 0 : Nat)) := by
  obtain ⟨a, cap', e, hb, _⟩ := h.slice
  cases e
  have := hb.at 0 hl
  simpa using this
theorem ones256_len : ones256.length = 256 := List.length_replicate
theorem ones256_data : opData 1 0 1 = ones256 := opData_one 1 1 rfl
end Go.Proofs.YtpnpjffhkaejgaaGreatDoor
