/-
  PROVED HERE: the document's tests of a key and of a value are the plain ones. Conditions: those that each theorem names.
-/
import Derived.Test.YthjlajplckfldaaGreatDoorKeyL
import Derived.Test.YthjlajplckfldaaGreatDoorQuiet
import Derived.Deep.DeepCutAuto
namespace Go.Proofs.YthjlajplckfldaaGreatDoor
open Go.RowKit Go.Shelf
def isL (c : Nat) : Prop := (97 ≤ c ∧ c ≤ 122) ∨ (65 ≤ c ∧ c ≤ 90) ∨ (48 ≤ c ∧ c ≤ 57) ∨ c = 46 ∨ c = 45 ∨ c = 43 ∨ c = 64 ∨ c = 95
instance (c : Nat) : Decidable (isL c) := by unfold isL; infer_instance
theorem letters_isL : ∀ c : Fin 256, letters.contains (UInt8.ofNat c.val) = decide (isL c.val) := by decide +kernel
theorem letters_c (c : UInt8) : letters.contains c = decide (isL c.toNat) := by
  have := letters_isL ⟨c.toNat, c.toNat_lt⟩
  rwa [show UInt8.ofNat c.toNat = c from UInt8.ofNat_toNat] at this
theorem all_take {α : Type} {p : α → Bool} {s : List α} {k : Nat} (hk : k < s.length) : (s.take (k + 1)).all p = ((s.take k).all p && p s[k]) := by
  rw [List.take_succ_eq_append_getElem hk, List.all_append]
  simp
theorem all_no {α : Type} {p : α → Bool} {s : List α} {k : Nat} (hk : k < s.length) (h : p s[k] = false) : s.all p = false :=
  List.all_eq_false.2 ⟨s[k], List.getElem_mem hk, by rw [h]; decide⟩
set_option maxRecDepth 100000 in
set_option maxHeartbeats 4000000 in
theorem rkey_any {w : World} (s : Txt) (hs : s.length ≤ 9223372036854775807) : Calls Tryz.prog 23 #[.string (txt s)] w fun e w' => e = .returned (.bool (okKey s)) ∧ w' = w := by
  have HS := Lib.hid hs
  clear hs
  go_enter Tryz.func23, Tryz.ntmps23
  go_wp2_with fail
  go_loopw [3, 4, 5] (fun i _ _ wr => ∃ k : Nat, k ≤ s.length ∧ i = .int .i64 (k : Nat) ∧ (s.take k).all (letters.contains ·) = true ∧ wr = w) (fun i _ _ _ => (s.length - intOf i).toNat)
  case atStart => exact ⟨0, Nat.zero_le _, rfl, rfl, rfl⟩
  case round =>
    obtain ⟨k, hk, rfl, hA, rfl⟩ := hrel
    have hs := HS.out
    by_cases hkl : k < s.length
    · have hst : (s.take (k + 1)).all (letters.contains ·) = decide (isL (s[k]).toNat) := by rw [all_take hkl, hA, Bool.true_and]; exact letters_c _
      have hno : decide (isL (s[k]).toNat) = false → s.all (letters.contains ·) = false := fun h => all_no hkl (by rw [← h]; exact letters_c _)
      have hcx : ((txt s)[k]'hkl).toNat = (s[k]).toNat := rfl
      have hc256 : (s[k]).toNat < 256 := (s[k]).toNat_lt
      generalize (s[k]).toNat = cb at *
      have HST := Lib.hid hst
      have HNO := Lib.hid (fun h => show okKey s = false by unfold okKey; rw [hno h, Bool.and_false])
      clear hst hno hA
      go_wp2_with fail
      any_goals
        (go_ret
         exact ⟨by rw [HNO.out (decide_eq_false (by unfold isL; simp only [Bool.not_eq_true', bne_iff_ne, ne_eq, bne_eq_false_iff_eq, Bool.not_eq_false', decide_eq_true_eq, decide_eq_false_iff_not] at *; omega))]; rfl, rfl⟩)
      all_goals
        go_roundw
        case rel => exact ⟨k + 1, hkl, by simp, HST.out.trans (decide_eq_true (by unfold isL; simp only [Bool.not_eq_true', bne_iff_ne, ne_eq, bne_eq_false_iff_eq, Bool.not_eq_false', decide_eq_true_eq, decide_eq_false_iff_not] at *; omega)), trivial⟩
        case measure => simp [intOf]; omega
    · obtain rfl : k = s.length := by omega
      rw [List.take_length] at hA
      have HE := Lib.hid (show okKey s = (!s.isEmpty && decide ((s.length : Int) ≤ 63)) by
        unfold okKey
        have h2 : decide (s.length ≤ 63) = decide ((s.length : Int) ≤ 63) := by by_cases h : s.length ≤ 63 <;> simp [h] <;> omega
        rw [hA, h2]; simp)
      clear hA
      by_cases h0 : s = []
      · subst h0
        go_wp2_with fail
        go_ret
        exact ⟨by rw [HE.out]; rfl, rfl⟩
      · have hne : (s != []) = true := bne_iff_ne.2 h0
        go_wp2_with fail
        go_ret
        exact ⟨by rw [HE.out]; rfl, rfl⟩
theorem val_take {s : Txt} {k : Nat} (hk : k < s.length) (h : (s.take k).contains 0 = false) : (s[k] = 0 → s.contains 0 = true) ∧ (s[k] ≠ 0 → (s.take (k + 1)).contains 0 = false) := by
  simp only [List.contains_eq_mem, decide_eq_true_eq, decide_eq_false_iff_not] at h ⊢
  refine ⟨fun e => e ▸ List.getElem_mem hk, fun e => ?_⟩
  rw [List.take_succ_eq_append_getElem hk, List.mem_append, List.mem_singleton]
  rintro (h1 | h1)
  · exact h h1
  · exact e h1.symm
set_option maxRecDepth 100000 in
set_option maxHeartbeats 4000000 in
theorem rvalue_any {w : World} (s : Txt) (hs : s.length ≤ 9223372036854775807) : Calls Tryz.prog 24 #[.string (txt s)] w fun e w' => e = .returned (.bool (okVal s)) ∧ w' = w := by
  have HS := Lib.hid hs
  clear hs
  go_enter Tryz.func24, Tryz.ntmps24
  go_wp2_with fail
  go_loopw [3] (fun i wr => ∃ k : Nat, k ≤ s.length ∧ i = .int .i64 (k : Nat) ∧ (s.take k).contains 0 = false ∧ wr = w) (fun i _ => (s.length - intOf i).toNat)
  case atStart => exact ⟨0, Nat.zero_le _, rfl, rfl, rfl⟩
  case round =>
    obtain ⟨k, hk, rfl, hA, rfl⟩ := hrel
    have hs := HS.out
    by_cases hkl : k < s.length
    · have HT := Lib.hid (val_take hkl hA)
      clear hA
      by_cases h0 : s[k] = 0
      · have hx : ((((txt s)[k]'hkl).toNat : Int) == 0) = true := beq_iff_eq.2 (by show ((s[k].toNat : Nat) : Int) = 0; rw [h0]; rfl)
        have HE := Lib.hid (show okVal s = false by unfold okVal; rw [HT.out.1 h0]; simp)
        clear h0
        go_wp2_with fail
        go_ret
        exact ⟨by rw [HE.out]; rfl, rfl⟩
      · have hx : ((((txt s)[k]'hkl).toNat : Int) == 0) = false := beq_eq_false_iff_ne.2 fun e => h0 (by apply UInt8.toNat_inj.1; show s[k].toNat = 0; have e' : ((s[k].toNat : Nat) : Int) = 0 := e; omega)
        have HN := Lib.hid (HT.out.2 h0)
        clear h0
        go_wp2_with fail
        go_roundw
        case rel => exact ⟨k + 1, hkl, by simp, HN.out, trivial⟩
        case measure => simp [intOf]; omega
    · obtain rfl : k = s.length := by omega
      rw [List.take_length] at hA
      have HE := Lib.hid (show okVal s = decide ((s.length : Int) ≤ 255) by
        unfold okVal
        have h2 : decide (s.length ≤ 255) = decide ((s.length : Int) ≤ 255) := by by_cases h : s.length ≤ 255 <;> simp [h] <;> omega
        rw [hA, h2]; simp)
      clear hA
      go_wp2_with fail
      go_ret
      exact ⟨by rw [HE.out]; rfl, rfl⟩
end Go.Proofs.YthjlajplckfldaaGreatDoor
