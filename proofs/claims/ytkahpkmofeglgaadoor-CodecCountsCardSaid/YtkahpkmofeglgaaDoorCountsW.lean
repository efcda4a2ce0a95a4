/-
  PROVED HERE: PutCounts and GetCounts of package codec, and the document's. Conditions: the arguments can be read.
-/
import Derived.Test.YtkahpkmofeglgaaDoorCountsRec
import Derived.Test.YtkahpkmofeglgaaDoorInts
import Derived.Test.YtkahpkmofeglgaaDoorRefSuper
namespace Go.Proofs.YtkahpkmofeglgaaDoor
open Go.RowKit

set_option maxRecDepth 100000 in
set_option maxHeartbeats 1600000 in
theorem putCounts_any {w : World} {a : Option Addr} {l : List Int} {cap : Nat} (hb : IsInts w a l) (_hl : l.length ≤ 9223372036854775807) :
    Calls Tryd.prog 24 #[.slice a l.length cap] w fun e w' => PutOut w.heap.size (putCounts l) e w' ∧ Upd [] w w' := by
  have HB := Lib.hid hb
  clear hb
  by_cases h120 : l.length = 120
  · rw [h120]
    have H120 := Lib.hid h120
    clear _hl h120
    have HW := Lib.hid (isW_made w)
    have HA := Lib.hid (fun o => (Upd.refl [] w).alloc o)
    go_enter Tryd.func24, Tryd.ntmps24
    go_wp2
    go_loopw [12] (fun i wr => ∃ k : Nat, k ≤ 120 ∧ i = .int .i64 k ∧ (∀ j (hj : j < k) (h7 : j < l.length), inB l[j] 1000 = true) ∧ IsW wr w.heap.size (countBytes (l.take k)) ∧ Upd [] w wr) (fun i _ => 120 - (intOf i).toNat)
    case atStart => exact ⟨0, by decide, rfl, fun j hj => absurd hj (by omega), by simpa [countBytes] using HW.out, HA.out _⟩
    case round =>
      obtain ⟨k, hk, rfl, hin, hW, hU⟩ := hrel
      have HIN := Lib.hid hin
      have HWR := Lib.hid hW
      have HU := Lib.hid hU
      clear hin hW hU
      by_cases hlt : k < 120
      · have hkl : k < l.length := by have := H120.out; omega
        obtain ⟨b, o, rfl, hc⟩ := (HB.out.upd HU.out (by simp)) k hkl
        have HS := Lib.hid (countBytes_take l k hkl)
        have HL := Lib.hid (countBytes_len (l.take k))
        have HN := Lib.hid (fun h => putCounts_no (l := l) hkl h)
        generalize hx : l[k] = x at hc HS HN
        have HX := Lib.hid hx
        clear hx
        cases hI : inB x 1000
        · go_wp2_with (go_at_call 52; refine (in_b _ _ _).mono ?_; rintro e w' ⟨rfl, rfl⟩)
          go_ret2
          rw [HN.out hI]
          exact ⟨PutOut.no _ _, HU.out⟩
        · obtain ⟨m, rfl⟩ := Int.eq_ofNat_of_zero_le (inB_true.1 hI).1
          have hm := (inB_true.1 hI).2
          go_wp2_with (first | (go_at_call 52; refine (in_b _ _ _).mono ?_; rintro e w' ⟨rfl, rfl⟩) | (go_at_call 53; refine (put_any (k := 2) HWR.out (by decide) (by omega) (by rw [HL.out, List.length_take]; omega)).mono ?_; rintro e w2 ⟨rfl, h2, u2⟩; have H2 := Lib.hid h2; have U2 := Lib.hid u2; clear h2 u2))
          go_roundw
          case rel =>
            refine ⟨k + 1, by omega, by go_num, fun j hj h7 => ?_, by rw [HS.out]; exact H2.out, HU.out.step U2.out (fun x hx => .inr (by simp at hx; omega))⟩
            by_cases e : j = k
            · subst e; rw [HX.out]; exact hI
            · exact HIN.out j (by omega) h7
          case measure => simp [intOf]; omega
      · obtain rfl : k = 120 := by omega
        have HO := Lib.hid (okCounts_of (l := l) fun k hk => HIN.out k (by have := H120.out; omega) hk)
        have hl240 : (countBytes (l.take 120)).length = 240 := by rw [countBytes_len, List.length_take]; have := H120.out; omega
        have HLE := Lib.hid hl240
        clear hl240
        go_wp2_with (go_at_call 64; refine (body_any HWR.out (by rw [HLE.out]; exact Nat.le_refl _)).mono ?_; rintro e w2 ⟨rfl, rfl, h2⟩; have H2 := Lib.hid h2; clear h2)
        go_ret2
        have e : putCounts l = some (pad (countBytes (l.take 120)) 240) := by
          unfold putCounts pad
          rw [HO.out, decide_eq_true H120.out, Bool.and_self, if_pos rfl, HLE.out, List.take_of_length_le (by have := H120.out; omega)]
          simp
        rw [e]
        exact ⟨PutOut.yes (H2.out.ret (Nat.le_refl _) (pad_len (by rw [HLE.out]; exact Nat.le_refl _)) (by decide)), HU.out⟩
  · have hni : ¬ (l.length : Int) = 120 := by omega
    have hp : putCounts l = none := by unfold putCounts; rw [decide_eq_false h120, Bool.and_false]; rfl
    have HP := Lib.hid hp
    clear hp
    go_enter Tryd.func24, Tryd.ntmps24
    go_wp2
    go_ret2
    rw [HP.out]
    exact ⟨PutOut.no _ _, Upd.refl _ _⟩
set_option maxRecDepth 100000 in
set_option maxHeartbeats 1600000 in
theorem rputCounts_any {w : World} {a : Option Addr} {l : List Int} {cap : Nat} (hb : IsInts w a l) (hl : l.length ≤ 20000000000000) :
    Calls Tryd.prog 25 #[.slice a l.length cap] w fun e w' => PutOut w.heap.size (putCounts l) e w' ∧ Upd [] w w' := by
  have HB := Lib.hid hb
  clear hb
  go_enter Tryd.func25, Tryd.ntmps25
  go_wp2
  go_loopw [4, 5] (fun v i wr => ∃ k : Nat, k ≤ l.length ∧ i = .int .i64 k ∧ (∀ j (hj : j < k) (h7 : j < l.length), inB l[j] 1000 = true) ∧ IsOut wr w.heap.size v (countBytes (l.take k)) ∧ Mine (.slice none 0 0) w v wr) (fun _ i _ => l.length - (intOf i).toNat)
  case atStart => exact ⟨0, by omega, rfl, fun j hj => absurd hj (by omega), by simpa [countBytes] using IsOut.nil w w.heap.size, Mine.refl _ _⟩
  case round =>
    obtain ⟨k, hk, rfl, hin, hV, hM⟩ := hrel
    have HIN := Lib.hid hin
    have HV := Lib.hid hV
    have HM := Lib.hid hM
    have HU := Lib.hid hM.fresh
    clear hin hV hM
    by_cases hlt : k < l.length
    · obtain ⟨b, o, rfl, hc⟩ := (HB.out.upd HU.out (by simp)) k hlt
      have HS := Lib.hid (countBytes_take l k hlt)
      have HL := Lib.hid (countBytes_len (l.take k))
      have HN := Lib.hid (fun h => putCounts_no (l := l) hlt h)
      generalize hx : l[k] = x at hc HS HN
      have HX := Lib.hid hx
      clear hx
      cases hI : inB x 1000
      · go_wp2_with (go_at_call 56; refine (rin_b _ _ _).mono ?_; rintro e w' ⟨rfl, rfl⟩)
        go_ret2
        rw [HN.out hI]
        exact ⟨PutOut.no _ _, HU.out⟩
      · obtain ⟨m, rfl⟩ := Int.eq_ofNat_of_zero_le (inB_true.1 hI).1
        have HSZ := Lib.hid HU.out.size
        go_wp2_with (first | (go_at_call 56; refine (rin_b _ _ _).mono ?_; rintro e w' ⟨rfl, rfl⟩) | (go_at_call 57; refine (rput_any (k := 2) HV.out HSZ.out (by decide) (by rw [HL.out, List.length_take]; omega)).mono ?_; rintro e w2 ⟨v2, rfl, h2, m2⟩; have H2 := Lib.hid h2; have M2 := Lib.hid m2; clear h2 m2))
        go_roundw
        case rel =>
          refine ⟨k + 1, by omega, by go_num, fun j hj h7 => ?_, by rw [HS.out]; exact H2.out, HM.out.trans M2.out⟩
          by_cases e : j = k
          · subst e; rw [HX.out]; exact hI
          · exact HIN.out j (by omega) h7
        case measure => simp [intOf]; omega
    · obtain rfl : k = l.length := by omega
      have HO := Lib.hid (okCounts_of (l := l) fun k hk => HIN.out k (by omega) hk)
      have hV := HV.out
      rw [List.take_length] at hV
      have HV2 := Lib.hid hV
      clear hV
      by_cases h120 : l.length = 120
      · have hni : (l.length : Int) = 120 := by omega
        have hp : putCounts l = some (countBytes l) := by unfold putCounts; rw [HO.out, decide_eq_true h120]; rfl
        have HP := Lib.hid hp
        clear hp
        go_wp2
        go_ret2
        rw [HP.out]
        exact ⟨PutOut.yes HV2.out.ret, HU.out⟩
      · have hni : ¬ (l.length : Int) = 120 := by omega
        have hp : putCounts l = none := by unfold putCounts; rw [decide_eq_false h120, Bool.and_false]; rfl
        have HP := Lib.hid hp
        clear hp
        go_wp2
        go_ret2
        rw [HP.out]
        exact ⟨PutOut.no _ _, HU.out⟩
end Go.Proofs.YtkahpkmofeglgaaDoor
