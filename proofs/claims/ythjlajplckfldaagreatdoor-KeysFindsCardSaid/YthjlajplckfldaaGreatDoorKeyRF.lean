/-
  PROVED HERE: the document's Find is the plain function. Conditions: those that each theorem names.
-/
import Derived.Test.YthjlajplckfldaaGreatDoorKeyL
import Derived.Test.YthjlajplckfldaaGreatDoorQuiet
namespace Go.Proofs.YthjlajplckfldaaGreatDoor
open Go.RowKit Go.Shelf
theorem findP_drop {l : List Pr} {k : Nat} (hk : k < l.length) (key : Txt) : findP (l.drop k) key = if (l[k]).1 == key then some (l[k]).2 else findP (l.drop (k + 1)) key := by
  unfold findP
  rw [List.drop_eq_getElem_cons hk, List.find?_cons]
  by_cases h : (l[k]).1 = key
  · simp [h]
  · simp [h]
set_option maxRecDepth 100000 in
set_option maxHeartbeats 2000000 in
theorem rfind_any {w : World} {v : Value} {l : List Pr} (key : Txt) (h : IsPrsA w v l) : Calls Tryz.prog 15 #[v, .string (txt key)] w fun e w' => e = .returned (.tuple #[.string (txt ((findP l key).getD [])), .bool (findP l key).isSome]) ∧ Below w.heap.size w w' := by
  obtain ⟨p, cap, rfl⟩ := h.slice
  have HH := Lib.hid h
  have hlm : l.length ≤ maxLen := by obtain ⟨_, _, _, h1, h2, _⟩ := h; omega
  have HLM := Lib.hid hlm
  clear h hlm
  go_enter Tryz.func15, Tryz.ntmps15
  go_wp2_with fail
  go_loopw [6] (fun i wr => ∃ k : Nat, k ≤ l.length ∧ i = .int .i64 (k : Nat) ∧ findP l key = findP (l.drop k) key ∧ Below w.heap.size w wr) (fun i _ => (l.length - intOf i).toNat)
  case atStart => exact ⟨0, Nat.zero_le _, rfl, rfl, Below.refl _ _⟩
  case round =>
    obtain ⟨k, hk, rfl, hF, hB⟩ := hrel
    have HB := Lib.hid hB
    have hlm : l.length ≤ 9223372036854775807 := by have := HLM.out; unfold maxLen at this; omega
    by_cases hkl : k < l.length
    · obtain ⟨-, g, o, rfl, hg, hc1, hc2, hcc⟩ := HH.out.at hkl
      rw [findP_drop hkl] at hF
      generalize (l[k]).1 = ky at *
      generalize (l[k]).2 = val at *
      have q1 := hcc wr HB.out 0 _ rfl
      have q2 := hcc wr HB.out 1 _ rfl
      rw [Nat.add_zero] at q1
      rcases Bool.eq_false_or_eq_true (ky == key) with hx | hx
      · rw [hx, if_pos rfl] at hF
        have HF := Lib.hid hF
        clear hF hB hcc
        go_wp2_with fail
        go_ret2
        exact ⟨by rw [HF.out]; rfl, HB.out⟩
      · rw [hx, if_neg (by decide)] at hF
        have HF := Lib.hid hF
        clear hF hB hcc
        go_wp2_with fail
        go_roundw
        case rel => exact ⟨k + 1, hkl, by simp, HF.out, HB.out⟩
        case measure => simp [intOf]; omega
    · obtain rfl : k = l.length := by omega
      rw [List.drop_length] at hF
      have HF := Lib.hid (show findP l key = none from hF)
      clear hF hB
      go_wp2_with fail
      go_ret2
      exact ⟨by rw [HF.out]; rfl, HB.out⟩
end Go.Proofs.YthjlajplckfldaaGreatDoor
