/-
  PROVED HERE: GetCounts of package codec, and the document's. Conditions: the bytes can be read.
-/
import Derived.Test.YtkahpkmofeglgaaDoorCountsW
namespace Go.Proofs.YtkahpkmofeglgaaDoor
open Go.RowKit

theorem getCounts_not {b : List Nat} {k : Nat} (hk : k < 120) (h : inB (numi (seg b (2 * k) 2)) 1000 = false) : getCounts b = none := by
  have hk' : k < (countsOf b).length := by rw [countsOf_len]; exact hk
  unfold getCounts
  rw [okCounts_not hk' (by rw [countsOf_get]; exact h), Bool.and_false]
  rfl
theorem okCounts_all {b : List Nat} (h : ∀ j, j < 120 → inB (numi (seg b (2 * j) 2)) 1000 = true) : okCounts (countsOf b) = true :=
  okCounts_of fun k hk => by rw [countsOf_get]; exact h k (by rw [countsOf_len] at hk; exact hk)
set_option maxRecDepth 100000 in
set_option maxHeartbeats 3200000 in
theorem getCounts_any {w : World} {a : Option Addr} {l : List Nat} {cap : Nat} (hb : IsBytes w a l) (hc : l.length ≤ cap) (hm : cap ≤ 9223372036854775807) :
    Calls Tryd.prog 26 #[.slice a l.length cap] w fun e w' => IntsRes w.heap.size (getCounts l) e w' ∧ Upd [] w w' := by
  by_cases h240 : l.length = 240
  · obtain ⟨b, o, rfl, hc00⟩ := hb.2 0 (by omega)
    have hbl : b < w.heap.size := World.block_lt_of_cell? _ _ hc00
    clear hc00
    have hR : IsRd (w.alloc (.cells #[.slice (some ⟨b, o, none⟩) l.length cap] 117)) w.heap.size (some b) l :=
      ⟨⟨some ⟨b, o, none⟩, cap, heap_alloc_new w _, hb.upd ((Upd.refl [] w).alloc _) (by simp), hc, by unfold maxLen; omega, by rintro b' o' ⟨⟩; rfl⟩, by intro e; simp only [Option.some.injEq] at e; omega⟩
    have HR := Lib.hid hR
    have HOK := Lib.hid hb.1
    have HL := Lib.hid h240
    have hbd := fun a n c w => buildRd a n c w
    rw [h240] at HR ⊢
    clear hb hR h240 hc
    go_enter Tryd.func26, Tryd.ntmps26
    go_wp2
    go_loopw [5, 12] (fun v i wr => ∃ k : Nat, k ≤ 120 ∧ i = .int .i64 k ∧ (∀ j, j < k → inB (numi (seg l (2 * j) 2)) 1000 = true) ∧ IsRd wr w.heap.size (some b) (l.drop (2 * k)) ∧ IntsOut wr (w.heap.size + 1) v ((countsOf l).take k) ∧ Upd [] w wr) (fun _ i _ => 120 - (intOf i).toNat)
    case atStart => exact ⟨0, by decide, rfl, fun j hj => absurd hj (by omega), HR.out, by simpa using IntsOut.nil _ _, (Upd.refl [] w).alloc _⟩
    case round =>
      obtain ⟨k, hk, rfl, hin, hR, hV, hU⟩ := hrel
      have HIN := Lib.hid hin
      have HU := Lib.hid hU
      have HV := Lib.hid hV
      have HRD := Lib.hid hR
      clear hin hR hV hU
      by_cases hlt : k < 120
      · have hget := get_any (k := 2) HRD.out (by decide) (by rw [List.length_drop, HL.out]; omega)
        have hsg : (l.drop (2 * k)).take 2 = seg l (2 * k) 2 := (seg_eq (by have := HL.out; omega)).symm
        rw [hsg] at hget
        have HGET := Lib.hid hget
        have HN := Lib.hid (getCounts_not (b := l) hlt)
        have HT := Lib.hid (countsOf_take l k hlt)
        have HLN := Lib.hid (show ((countsOf l).take k).length ≤ 10000000000000 by rw [List.length_take, countsOf_len]; omega)
        clear hget hsg
        generalize hx : numi (seg l (2 * k) 2) = x at HGET HN HT
        have HX := Lib.hid hx
        clear hx
        cases hI : inB x 1000
        · go_wp2_with (first
            | (go_at_call 60; refine HGET.out.mono ?_; rintro e w2 ⟨rfl, h2, u2⟩; have U2 := Lib.hid u2; clear h2 u2)
            | (go_at_call 52; refine (in_b _ _ _).mono ?_; rintro e w' ⟨rfl, rfl⟩))
          go_ret2
          rw [HN.out hI]
          exact ⟨IntsRes.no _ _, HU.out.step U2.out (fun x hx => .inr (by simp at hx; omega))⟩
        · have hsz := HU.out.size
          have hrd := HRD.out
          obtain ⟨⟨_, _, hrb, _⟩, _⟩ := hrd
          have hlt0 := lt_of_block hrb
          clear hrb
          go_wp2_with (first
            | (go_at_call 60; refine HGET.out.mono ?_; rintro e w2 ⟨rfl, h2, u2⟩; have H2 := Lib.hid h2; have U2 := Lib.hid u2; have hsz2 := u2.size; have HV2 := Lib.hid (HV.out.upd u2 (fun y hy hy2 => by have := HV.out.low y hy; simp at hy2; omega)); clear h2 u2)
            | (go_at_call 52; refine (in_b _ _ _).mono ?_; rintro e w' ⟨rfl, rfl⟩)
            | (at_builtin; refine wpList_pushi rfl (.tmp 18) (.tmp 20) rfl rfl (HV2.out.upd ((Upd.refl [] _).alloc _) (by simp)) w2.heap.size 1 x rfl (news_at _ _ _ 0 _ rfl) HLN.out (by simp; omega) ?_; intro v' w3 hn3 hx3; have HN3 := Lib.hid hn3; have HX3 := Lib.hid hx3; clear hn3 hx3))
          go_roundw
          case rel =>
            have u3 : Upd u5.ownBlock.toList w2 w3 := ((Upd.refl _ w2).alloc _).trans HX3.out.upd
            refine ⟨k + 1, by omega, by go_num, fun j hj => ?_, ?_, by rw [HT.out]; exact HN3.out, (HU.out.step U2.out (fun x hx => .inr (by simp at hx; omega))).step u3 (fun x hx => .inr (by have := HV2.out.low x hx; omega))⟩
            · by_cases e : j = k
              · subst e; rw [HX.out]; exact hI
              · exact HIN.out j (by omega)
            · have h3 := H2.out.upd u3 (fun hx => by have := HV2.out.low _ hx; omega) (by rintro b' ⟨⟩ hx; have := HV2.out.low _ hx; omega)
              rw [List.drop_drop] at h3
              exact h3
          case measure => simp [intOf]; omega
      · obtain rfl : k = 120 := by omega
        have hO := okCounts_all HIN.out
        have hg : getCounts l = some (countsOf l) := by unfold getCounts; rw [hO, HL.out]; rfl
        have HG := Lib.hid hg
        have hv := HV.out
        rw [List.take_of_length_le (by rw [countsOf_len]; exact Nat.le_refl _)] at hv
        have HV2 := Lib.hid hv
        clear hO hg hv
        go_wp2
        go_ret2
        rw [HG.out]
        exact ⟨IntsRes.yes (HV2.out.base (by omega)), HU.out⟩
  · have hni : ¬ (l.length : Int) = 240 := by omega
    have hg : getCounts l = none := by unfold getCounts; rw [decide_eq_false h240]; rfl
    have HG := Lib.hid hg
    clear hg
    go_enter Tryd.func26, Tryd.ntmps26
    go_wp2
    go_ret2
    rw [HG.out]
    exact ⟨IntsRes.no _ _, Upd.refl _ _⟩

set_option maxRecDepth 100000 in
set_option maxHeartbeats 3200000 in
theorem rgetCounts_any {w : World} {a : Option Addr} {l : List Nat} {cap : Nat} (hb : IsBytes w a l) (hl : l.length ≤ 9223372036854775807) :
    Calls Tryd.prog 49 #[.slice a l.length cap] w fun e w' => IntsRes w.heap.size (refCounts l) e w' ∧ Upd [] w w' := by
  have HB0 : Hid (∀ w', Upd [] w w' → IsBytes w' a l) := fun w' u => hb.upd u (by simp)
  have HOK := Lib.hid hb.1
  clear hb
  have hpc : putCounts (countsOf l) = if okCounts (countsOf l) then some (countBytes (countsOf l)) else none := by unfold putCounts; rw [countsOf_len, decide_eq_true rfl, Bool.and_true]
  have HPC := Lib.hid hpc
  have HCL := Lib.hid (countsOf_len l)
  clear hpc
  go_enter Tryd.func49, Tryd.ntmps49
  go_wp2
  go_loopw [4, 5] (fun v i wr => ∃ k : Nat, k ≤ 120 ∧ i = .int .i64 k ∧ IntsOut wr w.heap.size v ((countsOf l).take k) ∧ Mine (.slice none 0 0) w v wr) (fun _ i _ => 120 - (intOf i).toNat)
  case atStart => exact ⟨0, by decide, rfl, by simpa using IntsOut.nil w w.heap.size, Mine.refl _ _⟩
  case round =>
    obtain ⟨k, hk, rfl, hV, hM⟩ := hrel
    have HV := Lib.hid hV
    have HM := Lib.hid hM
    have HU := Lib.hid hM.fresh
    clear hV hM
    by_cases hlt : k < 120
    · have HLN := Lib.hid (show ((countsOf l).take k).length ≤ 10000000000000 by rw [List.length_take, HCL.out]; omega)
      have HT := Lib.hid (countsOf_take l k hlt)
      have HNB := Lib.hid (number_i (cap := cap) (2 * (k : Int)) 2 (HB0.out _ HU.out) hl (by decide) (by decide) (by omega) (by omega))
      have htn : (2 * (k : Int)).toNat = 2 * k := by omega
      rw [htn, show (2 : Int).toNat = 2 from rfl] at HNB
      have hsz := HU.out.size
      clear htn
      generalize numi (seg l (2 * k) 2) = x at HNB HT
      go_wp2_with (first
        | (go_at_call 69; (with_reducible refine HNB.out.mono ?_); rintro e w' ⟨rfl, rfl⟩)
        | (at_builtin; refine wpList_pushi rfl (.tmp 12) (.tmp 17) rfl rfl (HV.out.upd ((Upd.refl [] _).alloc _) (by simp)) wr.heap.size 1 x rfl (news_at _ _ _ 0 _ rfl) HLN.out (by simp; omega) ?_; intro v' w3 hn3 hx3; have HN3 := Lib.hid hn3; have HX3 := Lib.hid hx3; clear hn3 hx3))
      go_roundw
      case rel => exact ⟨k + 1, by omega, by go_num, by rw [HT.out]; exact HN3.out, (HM.out.alloc _).trans HX3.out⟩
      case measure => simp [intOf]; omega
    · obtain rfl : k = 120 := by omega
      have hv := HV.out
      rw [List.take_of_length_le (by rw [HCL.out]; exact Nat.le_refl _)] at hv
      obtain ⟨a0, c0, rfl, hi0, hbk, hc0, hm0⟩ := hv.slice
      rw [HCL.out] at hbk hv
      have HV2 := Lib.hid hv
      have HP := Lib.hid (rputCounts_any (cap := c0) hi0 (by rw [HCL.out]; decide))
      rw [HCL.out, HPC.out] at HP
      clear hv hi0 hbk HV
      rw [HCL.out]
      cases hok : okCounts (countsOf l)
      · have hr : refCounts l = none := by unfold refCounts; rw [hok]; rfl
        have HR := Lib.hid hr
        rw [hok] at HP
        simp only [Bool.false_eq_true, if_false] at HP
        clear hok hr
        go_wp2_with (go_at_call 25; refine HP.out.mono ?_; rintro e w1 ⟨⟨v, rfl, hv⟩, u1⟩; have U1 := Lib.hid u1; clear hv u1; simp only [Option.isSome_none, Bool.false_eq_true, if_false])
        go_ret2
        rw [HR.out]
        exact ⟨IntsRes.no _ _, HU.out.trans U1.out⟩
      · rw [hok] at HP
        simp only [if_true] at HP
        cases heq : decide (countBytes (countsOf l) = l)
        · have hr : refCounts l = none := by unfold refCounts; rw [hok, heq]; rfl
          have HR := Lib.hid hr
          have HE := Lib.hid heq
          clear hok hr heq
          go_wp2_with (first
            | (go_at_call 25; refine HP.out.mono ?_; rintro e w1 ⟨⟨v, rfl, hv⟩, u1⟩; simp only [Option.isSome_some, if_true]; rw [Option.getD_some] at hv; obtain ⟨av, cv, rfl, hvb, _, _, _⟩ := hv.slice; have HS := Lib.hid (same_any (cap := cv) (cap' := cap) hvb (HB0.out _ (HU.out.trans u1)) (by rw [countBytes_len, countsOf_len]; decide) hl); rw [HE.out] at HS; have U1 := Lib.hid u1; clear hv u1 hvb)
            | (go_at_call 18; refine HS.out.mono ?_; rintro e w2 ⟨rfl, u2⟩; have U2 := Lib.hid u2; clear u2))
          go_ret2
          rw [HR.out]
          exact ⟨IntsRes.no _ _, (HU.out.trans U1.out).trans U2.out⟩
        · have hr : refCounts l = some (countsOf l) := by unfold refCounts; rw [hok, heq]; rfl
          have HR := Lib.hid hr
          have HE := Lib.hid heq
          clear hok hr heq
          go_wp2_with (first
            | (go_at_call 25; refine HP.out.mono ?_; rintro e w1 ⟨⟨v, rfl, hv⟩, u1⟩; simp only [Option.isSome_some, if_true]; rw [Option.getD_some] at hv; obtain ⟨av, cv, rfl, hvb, _, _, _⟩ := hv.slice; have HS := Lib.hid (same_any (cap := cv) (cap' := cap) hvb (HB0.out _ (HU.out.trans u1)) (by rw [countBytes_len, countsOf_len]; decide) hl); rw [HE.out] at HS; have U1 := Lib.hid u1; clear hv u1 hvb)
            | (go_at_call 18; refine HS.out.mono ?_; rintro e w2 ⟨rfl, u2⟩; have U2 := Lib.hid u2; clear u2))
          go_ret2
          rw [HR.out]
          exact ⟨IntsRes.yes ((HV2.out.upd U1.out (by simp)).upd U2.out (by simp)), (HU.out.trans U1.out).trans U2.out⟩
end Go.Proofs.YtkahpkmofeglgaaDoor
