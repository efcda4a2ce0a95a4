/-
  PROVED HERE: the document's Number is the plain function. Conditions: those that each theorem names.
-/
import Derived.Test.YthjlajplckfldaaGreatDoorKeyL
import Derived.Test.YthjlajplckfldaaGreatDoorQuiet
import Derived.Deep.DeepCutAuto
namespace Go.Proofs.YthjlajplckfldaaGreatDoor
open Go.RowKit Go.Shelf
theorem numR_none {s : Txt} (h : numV s = none) (l m : Int) : numR s l m = (0, false) := by unfold numR; rw [h]
theorem numR_some {s : Txt} {n : Nat} (h : numV s = some n) (l m : Int) : numR s l m = if (n : Int) < l ∨ m < (n : Int) then (0, false) else ((n : Int), true) := by unfold numR; rw [h]
theorem digs_drop {s : Txt} {k : Nat} (hk : k < s.length) (acc : Nat) : digs acc (s.drop k) = if 48 ≤ (s[k]).toNat ∧ (s[k]).toNat ≤ 57 ∧ acc ≤ (9223372036854775807 - ((s[k]).toNat - 48)) / 10 then digs (10 * acc + ((s[k]).toNat - 48)) (s.drop (k + 1)) else none := by
  rw [List.drop_eq_getElem_cons hk, digs]
set_option maxRecDepth 100000 in
set_option maxHeartbeats 4000000 in
theorem rnumber_any {w : World} (s : Txt) (least most : Int) (hs : s.length ≤ 281474976710656) : Calls Tryz.prog 19 #[.string (txt s), .int .i64 least, .int .i64 most] w fun e w' => e = .returned (.tuple #[.int .i64 (numR s least most).1, .bool (numR s least most).2]) ∧ Below w.heap.size w w' := by
  by_cases h0 : s = []
  · subst h0
    have HN := Lib.hid (numR_none (s := []) rfl least most)
    clear hs
    go_enter Tryz.func19, Tryz.ntmps19
    go_wp2_with fail
    go_ret2
    exact ⟨by rw [HN.out]; rfl, Below.refl _ _⟩
  · have hl0 : 0 < s.length := List.length_pos_iff.2 h0
    have hne : (s == []) = false := beq_eq_false_iff_ne.2 h0
    have HS := Lib.hid hs
    by_cases h1 : s[0] = 48 ∧ 1 < s.length
    · have HN := Lib.hid (numR_none (s := s) (by unfold numV; rw [if_pos (.inr ⟨by rw [List.getElem?_eq_getElem hl0, h1.1], h1.2⟩)]) least most)
      have h48 : ((((txt s)[0]'hl0).toNat : Int) == 48) = true := beq_iff_eq.2 (by show ((s[0].toNat : Nat) : Int) = 48; rw [h1.1]; rfl)
      have h1l : decide ((1 : Int) < ((s.length : Nat) : Int)) = true := decide_eq_true (by omega)
      clear h1
      go_enter Tryz.func19, Tryz.ntmps19
      go_wp2_with fail
      go_ret2
      exact ⟨by rw [HN.out]; rfl, Below.refl _ _⟩
    · have HV := Lib.hid (show numV s = digs 0 s by
        unfold numV
        rw [if_neg]
        rintro (h | ⟨ha, hb⟩)
        · exact h0 h
        · exact h1 ⟨by rw [List.getElem?_eq_getElem hl0] at ha; exact Option.some.inj ha, hb⟩)
      go_enter Tryz.func19, Tryz.ntmps19
      go_upto_region 1 with (fail)
      go_cut [22] (fun v wx => v = .bool false ∧ wx = w)
      case first =>
        by_cases hc : s[0] = 48
        · have h48 : ((((txt s)[0]'hl0).toNat : Int) == 48) = true := beq_iff_eq.2 (by show ((s[0].toNat : Nat) : Int) = 48; rw [hc]; rfl)
          have h1l : decide ((1 : Int) < ((s.length : Nat) : Int)) = false := decide_eq_false fun h => h1 ⟨hc, by omega⟩
          clear h1 hc
          go_wp2_with fail
          go_meet
          exact ⟨rfl, rfl⟩
        · have h48 : ((((txt s)[0]'hl0).toNat : Int) == 48) = false := beq_eq_false_iff_ne.2 fun e => hc (by apply UInt8.toNat_inj.1; show s[0].toNat = 48; have e' : ((s[0].toNat : Nat) : Int) = 48 := e; omega)
          clear h1 hc
          go_wp2_with fail
          go_meet
          exact ⟨rfl, rfl⟩
      case rest =>
        obtain ⟨rfl, rfl⟩ := hcut
        clear h1 hne
        go_wp2_with fail
        go_loopw [8, 9, 10] (fun n i _ wr => ∃ acc k : Nat, k ≤ s.length ∧ acc ≤ 9223372036854775807 ∧ n = .int .i64 (acc : Nat) ∧ i = .int .i64 (k : Nat) ∧ digs 0 s = digs acc (s.drop k) ∧ wr = wc) (fun _ i _ _ => (s.length - intOf i).toNat)
        case atStart => exact ⟨0, 0, Nat.zero_le _, Nat.zero_le _, rfl, rfl, rfl, rfl⟩
        case round =>
          obtain ⟨acc, k, hk, ha, rfl, rfl, hD, rfl⟩ := hrel
          have hs := HS.out
          by_cases hkl : k < s.length
          · rw [digs_drop hkl] at hD
            obtain ⟨cb, hcb⟩ : ∃ cb : Nat, cb = (s[k]).toNat := ⟨_, rfl⟩
            have hcx : ((txt s)[k]'hkl).toNat = cb := hcb.symm
            have hc256 : cb < 256 := by rw [hcb]; exact (s[k]).toNat_lt
            rw [← hcb] at hD
            clear hcb
            have HDD := Lib.hid hD
            clear hD
            by_cases hc1 : cb < 48
            · have HN := Lib.hid (numR_none (HV.out.trans (HDD.out.trans (if_neg (by omega)))) least most)
              have hd1 : decide ((cb : Int) - 48 < 0) = true := decide_eq_true (by omega)
              go_wp2_with fail
              go_ret2
              exact ⟨by rw [HN.out]; rfl, Below.refl _ _⟩
            · have hd1 : decide ((cb : Int) - 48 < 0) = false := decide_eq_false (by omega)
              by_cases hc2 : 57 < cb
              · have HN := Lib.hid (numR_none (HV.out.trans (HDD.out.trans (if_neg (by omega)))) least most)
                have hd2 : decide ((9 : Int) < (cb : Int) - 48) = true := decide_eq_true (by omega)
                go_wp2_with fail
                go_ret2
                exact ⟨by rw [HN.out]; rfl, Below.refl _ _⟩
              · have hd2 : decide ((9 : Int) < (cb : Int) - 48) = false := decide_eq_false (by omega)
                have hq : ((9223372036854775807 - (cb - 48)) / 10 : Nat) = (((9223372036854775807 : Int) - ((cb : Int) - 48)) / 10).toNat := by omega
                by_cases hc3 : acc ≤ (9223372036854775807 - (cb - 48)) / 10
                · have HN := Lib.hid (HDD.out.trans (if_pos (by omega)))
                  have HC3 := Lib.hid hc3
                  have hd3 : decide (((9223372036854775807 : Int) - ((cb : Int) - 48)) / 10 < (acc : Int)) = false := decide_eq_false (by omega)
                  have hm : 10 * acc + (cb - 48) ≤ 9223372036854775807 := by omega
                  have hm2 : ((10 * acc + (cb - 48) : Nat) : Int) = 10 * (acc : Int) + ((cb : Int) - 48) := by omega
                  clear hq hc3
                  go_wp2_with fail
                  go_roundw
                  case rel => exact ⟨10 * acc + (cb - 48), k + 1, hkl, hm, by rw [hm2], by simp, HN.out, trivial⟩
                  case measure => simp [intOf]; omega
                · have HN := Lib.hid (numR_none (HV.out.trans (HDD.out.trans (if_neg (by omega)))) least most)
                  have hd3 : decide (((9223372036854775807 : Int) - ((cb : Int) - 48)) / 10 < (acc : Int)) = true := decide_eq_true (by omega)
                  clear hq hc3
                  go_wp2_with fail
                  go_ret2
                  exact ⟨by rw [HN.out]; rfl, Below.refl _ _⟩
          · obtain rfl : k = s.length := by omega
            rw [List.drop_length] at hD
            have HN := Lib.hid (numR_some (HV.out.trans hD) least most)
            clear hD
            by_cases hlo : (acc : Int) < least
            · have HE := Lib.hid (HN.out.trans (if_pos (.inl hlo)))
              go_wp2_with fail
              go_ret2
              exact ⟨by rw [HE.out]; rfl, Below.refl _ _⟩
            · by_cases hhi : most < (acc : Int)
              · have HE := Lib.hid (HN.out.trans (if_pos (.inr hhi)))
                go_wp2_with fail
                go_ret2
                exact ⟨by rw [HE.out]; rfl, Below.refl _ _⟩
              · have HE := Lib.hid (HN.out.trans (if_neg (by omega)))
                go_wp2_with fail
                go_ret2
                exact ⟨by rw [HE.out]; rfl, Below.refl _ _⟩
end Go.Proofs.YthjlajplckfldaaGreatDoor
