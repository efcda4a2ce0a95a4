/-
  PROVED HERE: the document's Choose is the plain function. Conditions: those that each theorem names.
-/
import Derived.Test.YthjlajplckfldaaGreatDoorKeyL
import Derived.Test.YthjlajplckfldaaGreatDoorQuiet
namespace Go.Proofs.YthjlajplckfldaaGreatDoor
open Go.RowKit Go.Shelf
/-- What lies between two places of a text. -/
def mid (d : Txt) (f i : Nat) : Txt := (d.drop f).take (i - f)
theorem mid_succ {d : Txt} {f i : Nat} (hf : f ≤ i) (hi : i < d.length) : mid d f (i + 1) = mid d f i ++ [d[i]] := by
  unfold mid
  rw [show i + 1 - f = (i - f) + 1 by omega, List.take_succ_eq_append_getElem (by rw [List.length_drop]; omega), List.getElem_drop]
  congr 2
  congr 1
  omega
theorem mid_self (d : Txt) (i : Nat) : mid d i i = [] := by unfold mid; simp
/-- The document's Choose ahead of the place i, a word having begun at f. -/
def ChoAt (own : List Txt) (d : Txt) (f i : Nat) : Prop := (f ≤ i ∧ i ≤ d.length ∧ chooseFrom own [] d = chooseFrom own (mid d f i) (d.drop i)) ∨ (i = d.length + 1 ∧ chooseFrom own [] d = none)
theorem ChoAt.zero (own : List Txt) (d : Txt) : ChoAt own d 0 0 := .inl ⟨Nat.le_refl _, Nat.zero_le _, by rw [mid_self]; rfl⟩
theorem ChoAt.letter {own : List Txt} {d : Txt} {f i : Nat} (h : ChoAt own d f i) (hi : i < d.length) (hc : d[i] ≠ 44) : ChoAt own d f (i + 1) := by
  rcases h with ⟨h1, h2, h3⟩ | ⟨h1, _⟩
  · refine .inl ⟨by omega, hi, ?_⟩
    rw [h3, List.drop_eq_getElem_cons hi, chooseFrom, if_neg hc, mid_succ h1 hi]
  · omega
theorem ChoAt.found {own : List Txt} {d : Txt} {f i : Nat} (h : ChoAt own d f i) (hi : i ≤ d.length) (hc : ∀ h : i < d.length, d[i] = 44) (ho : mid d f i ∈ own) : chooseFrom own [] d = some (mid d f i) := by
  rcases h with ⟨h1, h2, h3⟩ | ⟨h1, _⟩
  · rw [h3]
    rcases Nat.lt_or_ge i d.length with hl | hl
    · rw [List.drop_eq_getElem_cons hl, chooseFrom, if_pos (hc hl), if_pos ho]
    · rw [List.drop_eq_nil_iff.2 hl, chooseFrom, if_pos ho]
  · omega
theorem ChoAt.next {own : List Txt} {d : Txt} {f i : Nat} (h : ChoAt own d f i) (hi : i ≤ d.length) (hc : ∀ h : i < d.length, d[i] = 44) (ho : mid d f i ∉ own) : ChoAt own d (i + 1) (i + 1) := by
  rcases h with ⟨h1, h2, h3⟩ | ⟨h1, _⟩
  · rcases Nat.lt_or_ge i d.length with hl | hl
    · refine .inl ⟨Nat.le_refl _, hl, ?_⟩
      rw [h3, List.drop_eq_getElem_cons hl, chooseFrom, if_pos (hc hl), if_neg ho, mid_self]
    · refine .inr ⟨by omega, ?_⟩
      rw [h3, List.drop_eq_nil_iff.2 hl, chooseFrom, if_neg ho]
  · omega
theorem ChoAt.done {own : List Txt} {d : Txt} {f i : Nat} (h : ChoAt own d f i) (hi : d.length < i) : chooseFrom own [] d = none := by
  rcases h with ⟨h1, h2, h3⟩ | ⟨h1, h2⟩
  · omega
  · exact h2
theorem txt_extract (d : Txt) (f i : Nat) : (txt d).extract f i = txt (mid d f i) := by
  apply ByteArray.ext
  rw [ByteArray.data_extract]
  apply Array.toList_inj.1
  simp [txt, mid]
theorem take_ne {own : List Txt} {k : Nat} {cur : Txt} (hk : k < own.length) (h : ∀ t ∈ own.take k, t ≠ cur) (hn : own[k] ≠ cur) : ∀ t ∈ own.take (k + 1), t ≠ cur := by
  intro t ht
  rw [List.take_succ_eq_append_getElem hk, List.mem_append, List.mem_singleton] at ht
  rcases ht with ht | rfl
  · exact h t ht
  · exact hn
set_option maxRecDepth 100000 in
set_option maxHeartbeats 4000000 in
theorem rchoose_any {w : World} {v : Value} {own : List Txt} (d : Txt) (h : IsTxts w v own) (hd : d.length ≤ 281474976710656) :
    Calls Tryz.prog 17 #[.string (txt d), v] w fun e w' => e = .returned (.tuple #[.string (txt ((chooseFrom own [] d).getD [])), .bool (chooseFrom own [] d).isSome]) ∧ Below w.heap.size w w' := by
  have HH := Lib.hid h
  obtain ⟨p, cap, rfl, h1, h2, _⟩ := h
  have HLM := Lib.hid (show own.length ≤ 9223372036854775807 by unfold maxLen at h2; omega)
  have HD := Lib.hid hd
  clear h1 h2 hd
  go_enter Tryz.func17, Tryz.ntmps17
  go_wp2_with fail
  go_loopw [6, 7, 8] (fun fr i _ wr => ∃ f k : Nat, f ≤ k ∧ k ≤ d.length + 1 ∧ fr = .int .i64 (f : Nat) ∧ i = .int .i64 (k : Nat) ∧ ChoAt own d f k ∧ Below w.heap.size w wr) (fun _ i _ _ => (d.length + 1 - intOf i).toNat)
  case atStart => exact ⟨0, 0, Nat.le_refl _, Nat.zero_le _, rfl, rfl, ChoAt.zero own d, Below.refl _ _⟩
  case round =>
    obtain ⟨f, i, hf, hi, rfl, rfl, hC, hB⟩ := hrel
    have HB := Lib.hid hB
    have HC := Lib.hid hC
    have hd := HD.out
    clear hB hC
    by_cases hil : i ≤ d.length
    · by_cases hlet : ∃ h : i < d.length, d[i] ≠ 44
      · obtain ⟨hid, hne⟩ := hlet
        have HN := Lib.hid (HC.out.letter hid hne)
        have ht : (((((txt d)[i]'hid).toNat : Nat) : Int) != 44) = true := bne_iff_ne.2 fun e => hne (by apply UInt8.toNat_inj.1; show d[i].toNat = 44; have e' : ((d[i].toNat : Nat) : Int) = 44 := e; omega)
        clear hne
        go_wp2_with fail
        go_roundw
        case rel => exact ⟨f, i + 1, by omega, by omega, rfl, by simp, HN.out, HB.out⟩
        case measure => simp [intOf]; omega
      · have hcm : ∀ h : i < d.length, d[i] = 44 := fun h => Decidable.byContradiction fun e => hlet ⟨h, e⟩
        have HN := Lib.hid (HC.out.next hil hcm)
        have HF := Lib.hid (HC.out.found hil hcm)
        obtain ⟨x, HX⟩ : ∃ x, x = wr := ⟨_, rfl⟩
        have hsl : (txt d).extract f i = txt (mid d f i) := txt_extract d f i
        generalize hcur : mid d f i = cur at *
        by_cases hid : i < d.length
        · have ht : (((((txt d)[i]'hid).toNat : Nat) : Int) != 44) = false := bne_eq_false_iff_eq.2 (by show ((d[i].toNat : Nat) : Int) = 44; rw [hcm hid]; rfl)
          clear hcm hlet
          go_wp2_with fail
          go_loopw [8] (fun kk wr => ∃ k : Nat, k ≤ own.length ∧ kk = .int .i64 (k : Nat) ∧ (∀ t ∈ own.take k, t ≠ cur) ∧ Below w.heap.size w wr) (fun kk _ => (own.length - intOf kk).toNat)
          case atStart => exact ⟨0, Nat.zero_le _, rfl, by simp, HB.out⟩
          case round =>
            obtain ⟨k, hk, rfl, hT, hB2⟩ := hrel
            have HB2 := Lib.hid hB2
            have HT := Lib.hid hT
            have hlm := HLM.out
            clear hB2 hT
            by_cases hkl : k < own.length
            · obtain ⟨p', c', e, _, _, h3⟩ := HH.out.below HB2.out
              cases e
              obtain ⟨g, o, rfl, hg, q1⟩ := h3 k hkl
              have HT2 := Lib.hid (fun h : own[k] ≠ cur => take_ne hkl HT.out h)
              have HME := Lib.hid (List.getElem_mem hkl)
              generalize own[k] = ok at *
              rcases Bool.eq_false_or_eq_true (ok == cur) with hx | hx
              · have hx2 := beq_iff_eq.1 hx
                have HF2 := Lib.hid (HF.out (hx2 ▸ HME.out))
                rw [hx2] at q1
                clear hx2 h3
                go_wp2_with fail
                go_quiet (fail)
                go_wp2
                go_ret2
                exact ⟨by rw [HF2.out]; rfl, below_drewN HB2.out nq⟩
              · have HT3 := Lib.hid (HT2.out (fun e => by rw [e, beq_self_eq_true] at hx; cases hx))
                clear h3
                go_wp2_with fail
                go_quiet (fail)
                go_wp2
                go_roundw
                case rel => exact ⟨k + 1, hkl, by simp, HT3.out, below_drewN HB2.out nq⟩
                case measure => simp [intOf]; omega
            · obtain rfl : k = own.length := by omega
              have HN2 := Lib.hid (HN.out (fun hm => HT.out cur (by rw [List.take_length]; exact hm) rfl))
              go_wp2_with fail
              go_roundw
              case rel => exact ⟨i + 1, i + 1, by omega, by omega, by simp, by simp, HN2.out, HB2.out⟩
              case measure => simp [intOf]; omega
        · clear hcm hlet
          go_wp2_with fail
          go_loopw [8] (fun kk wr => ∃ k : Nat, k ≤ own.length ∧ kk = .int .i64 (k : Nat) ∧ (∀ t ∈ own.take k, t ≠ cur) ∧ Below w.heap.size w wr) (fun kk _ => (own.length - intOf kk).toNat)
          case atStart => exact ⟨0, Nat.zero_le _, rfl, by simp, HB.out⟩
          case round =>
            obtain ⟨k, hk, rfl, hT, hB2⟩ := hrel
            have HB2 := Lib.hid hB2
            have HT := Lib.hid hT
            have hlm := HLM.out
            clear hB2 hT
            by_cases hkl : k < own.length
            · obtain ⟨p', c', e, _, _, h3⟩ := HH.out.below HB2.out
              cases e
              obtain ⟨g, o, rfl, hg, q1⟩ := h3 k hkl
              have HT2 := Lib.hid (fun h : own[k] ≠ cur => take_ne hkl HT.out h)
              have HME := Lib.hid (List.getElem_mem hkl)
              generalize own[k] = ok at *
              rcases Bool.eq_false_or_eq_true (ok == cur) with hx | hx
              · have hx2 := beq_iff_eq.1 hx
                have HF2 := Lib.hid (HF.out (hx2 ▸ HME.out))
                rw [hx2] at q1
                clear hx2 h3
                go_wp2_with fail
                go_quiet (fail)
                go_wp2
                go_ret2
                exact ⟨by rw [HF2.out]; rfl, below_drewN HB2.out nq⟩
              · have HT3 := Lib.hid (HT2.out (fun e => by rw [e, beq_self_eq_true] at hx; cases hx))
                clear h3
                go_wp2_with fail
                go_quiet (fail)
                go_wp2
                go_roundw
                case rel => exact ⟨k + 1, hkl, by simp, HT3.out, below_drewN HB2.out nq⟩
                case measure => simp [intOf]; omega
            · obtain rfl : k = own.length := by omega
              have HN2 := Lib.hid (HN.out (fun hm => HT.out cur (by rw [List.take_length]; exact hm) rfl))
              go_wp2_with fail
              go_roundw
              case rel => exact ⟨i + 1, i + 1, by omega, by omega, by simp, by simp, HN2.out, HB2.out⟩
              case measure => simp [intOf]; omega
    · have HN := Lib.hid (HC.out.done (by omega))
      go_wp2_with fail
      go_ret2
      exact ⟨by rw [HN.out]; rfl, HB.out⟩
end Go.Proofs.YthjlajplckfldaaGreatDoor
