/-
  PROVED HERE: whether a text can't stand as a value of its own. Conditions: its length is an int.
-/
import Derived.Test.YtlhdjgibkiffaaaGreatDoorLogX
import Derived.Test.YtlhdjgibkiffaaaGreatDoorLogY
import Derived.Test.YtlhdjgibkiffaaaGreatDoorKeyRS
namespace Go.Proofs.YtlhdjgibkiffaaaGreatDoor
open Go.RowKit Go.Shelf
set_option maxRecDepth 100000 in
set_option maxHeartbeats 4000000 in
theorem raw_any (w : World) (s : Txt) (hs : s.length ≤ 9223372036854775807) : Calls Tryz.prog 12 #[.string (txt s)] w fun e w' => e = .returned (.bool (rawP s)) ∧ Below w.heap.size w w' := by
  go_enter Tryz.func12, Tryz.ntmps12
  go_wp2_with fail
  go_loopw [3] (fun i wr => ∃ k : Nat, k ≤ s.length ∧ i = .int .i64 (k : Nat) ∧ (0 : UInt8) ∉ s.take k ∧ Below w.heap.size w wr) (fun i _ => (s.length - intOf i).toNat)
  case atStart => exact ⟨0, Nat.zero_le _, rfl, by simp, Below.refl _ _⟩
  case round =>
    obtain ⟨k, hk, rfl, hT, hW⟩ := hrel
    have HT := Lib.hid hT
    have HW := Lib.hid hW
    clear hT hW
    by_cases hkl : k < s.length
    · have hsz : k < (txt s).size := hkl
      have hbk : ((txt s)[k]'hsz) = s[k] := rfl
      by_cases h0 : s[k] = 0
      · have ht : ((((txt s)[k]'hsz).toNat : Int) == 0) = true := by rw [hbk, h0]; rfl
        have HR := Lib.hid (show rawP s = true by
          unfold rawP
          rw [show s.contains 0 = true from by rw [List.contains_eq_mem]; exact decide_eq_true (h0 ▸ List.getElem_mem hkl)]
          rfl)
        clear h0 hbk
        go_wp2_with fail
        go_ret
        exact ⟨by rw [HR.out]; rfl, HW.out⟩
      · have ht : ((((txt s)[k]'hsz).toNat : Int) == 0) = false := by rw [hbk]; exact beq_eq_false_iff_ne.2 (fun h => h0 (UInt8.toNat_inj.1 (by simpa using h)))
        have HN := Lib.hid (show (0 : UInt8) ∉ s.take (k + 1) by
          rw [List.take_succ_eq_append_getElem hkl]
          simp only [List.mem_append, List.mem_singleton, not_or]
          exact ⟨HT.out, fun h => h0 h.symm⟩)
        clear h0 hbk
        go_wp2_with fail
        go_roundw
        case rel => exact ⟨k + 1, hkl, rfl, HN.out, HW.out⟩
        case measure => simp [intOf]; omega
    · obtain rfl : k = s.length := by omega
      have HR := Lib.hid (show rawP s = decide (200 < s.length) by
        have h := HT.out
        rw [List.take_length] at h
        unfold rawP
        rw [List.contains_eq_mem, decide_eq_false h]
        rfl)
      go_wp2_with fail
      go_ret
      refine ⟨?_, HW.out⟩
      rw [HR.out]
      rw [← (decide_eq_decide.2 (by omega) : decide ((200 : Int) < (s.length : Int)) = decide (200 < s.length))]
      rfl
end Go.Proofs.YtlhdjgibkiffaaaGreatDoor
