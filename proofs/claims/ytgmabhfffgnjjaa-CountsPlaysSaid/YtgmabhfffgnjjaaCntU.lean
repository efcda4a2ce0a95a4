/-
  PROVED HERE: CountsBack returns true whatever it is given. Conditions: those that each theorem names.
-/
import Derived.Test.YtgmabhfffgnjjaaCntL
import Derived.Deep.RegionHeld3
namespace Go.Proofs.Ytgmabhfffgnjjaa
open Go.RowKit

theorem cconv {w : World} {a : Option Addr} {l : List Nat} (h : IsBytes w a l) (cap : Nat) : (convert 23 9 (.slice a l.length cap)).run Try.prog w = .ok (.string (strOfNums (l.map fun n : Nat => (n : Int)))) w := by
  by_cases h0 : l.length = 0
  · obtain rfl : l = [] := List.length_eq_zero_iff.1 h0
    cases a with
    | none => exact run_convert_bytes_nil (P := Try.prog) w 23 5 Try.underlying23 Try.underlying5 0 cap 9 Try.underlying9
    | some x =>
      rw [run_convert_bytes_string (P := Try.prog) w 23 9 5 _ _ _ Try.underlying23 Try.underlying5 Try.underlying9]
      exact run_bytesToString (P := Try.prog) w x 0 cap [] (by simp [loadCells, loadCellsFrom])
  · obtain ⟨b, o, rfl, _⟩ := h.2 0 (by omega)
    have := h.text l.length cap (Nat.le_refl _)
    rw [List.take_length] at this
    exact this
theorem back_bad {w : World} {n : Int} (h : n < 16 ∨ 1024 < n) (v : Value) :
    Calls Try.prog 4 #[.int .i64 n, v] w fun e w' => e = .returned (.bool true) ∧ Upd [] w w' := by
  have HN := Lib.hid (fun w => cnew_no n h w)
  clear h
  go_enter Try.func4, Try.ntmps4
  go_wp2_with (first
    | (go_at_call 6; (with_reducible refine (HN.out _).mono ?_); rintro e w1 ⟨rfl, rfl⟩)
    | (go_at_call 7; (with_reducible refine (lives_any _).mono ?_); rintro e w2 ⟨rfl, u2⟩; have U2 := Lib.hid u2; clear u2))
  go_ret
  exact ⟨rfl, U2.out⟩
theorem IsBlk.conv {w : World} {b : Nat} {l : List Nat} (h : IsBlk w b l) (hl : l.length = 240) : (convert 23 9 (.slice (some ⟨b, 0, none⟩) 240 240)).run Try.prog w = .ok (.string (strOfNums (l.map fun n : Nat => (n : Int)))) w := by
  have := cconv h.bytes 240
  rw [hl] at this
  exact this
set_option maxRecDepth 100000 in
set_option maxHeartbeats 6400000 in
theorem back_good {w : World} {n N cap : Nat} {a : Option Addr} {l : List Deed} (h1 : 16 ≤ n) (h2 : n ≤ 1024) (hl : IsDeeds w w.heap.size a l) (hN : l.length = N) (hb : N ≤ 2990000000000) :
    Calls Try.prog 4 #[.int .i64 (n : Nat), .slice a N cap] w fun e w' => e = .returned (.bool true) ∧ Upd [] w w' := by
  have HN := Lib.hid (fun w => cnew_yes (w := w) n h1 h2)
  have HMY := Lib.hid (fun w => many_yes n h1 h2 w)
  have HL := Lib.hid hl
  have HLN := Lib.hid hN
  clear hl hN
  go_enter Try.func4, Try.ntmps4
  go_wp2_with fail
  refine (HN.out w).mono ?_
  rintro e w1 ⟨⟨b1, g1, m1, rfl, hC, hb1, hg1, hm1⟩, u1⟩
  have HC := Lib.hid hC
  have U1 := Lib.hid u1
  have HSA : Hid (∀ x, x ∈ [g1, m1] → x ∈ ([] : List Nat) ∨ w.heap.size ≤ x) := fun x hx => .inr (by
    simp only [List.mem_cons, List.not_mem_nil, or_false] at hx
    rcases hx with rfl | rfl
    · exact hg1
    · exact hm1)
  have hb1' := lt_of_block hC.hd
  have hg1' := lt_of_block hC.row
  have hm1' : m1 < w1.heap.size := by obtain ⟨M, hM, _⟩ := hC.map; exact hM.lt
  clear hC u1
  go_wp2_with fail
  refine (HN.out w1).mono ?_
  rintro e w2 ⟨⟨b2, g2, m2, rfl, hC2, hb2, hg2, hm2⟩, u2⟩
  have HCA := Lib.hid (HC.out.stay u2)
  have HCB := Lib.hid hC2
  have hsz1 := U1.out.size
  have U2 := Lib.hid (U1.out.trans u2)
  have HSB : Hid (∀ x, x ∈ [g2, m2] → x ∈ ([] : List Nat) ∨ w.heap.size ≤ x) := fun x hx => .inr (by
    simp only [List.mem_cons, List.not_mem_nil, or_false] at hx
    omega)
  have HX1 : Hid (b2 ∉ [g1, m1] ∧ g2 ∉ [g1, m1] ∧ m2 ∉ [g1, m1]) := by
    have : b2 ∉ [g1, m1] ∧ g2 ∉ [g1, m1] ∧ m2 ∉ [g1, m1] := by simp only [List.mem_cons, List.not_mem_nil, or_false]; omega
    exact this
  have HX2 : Hid (b1 ∉ [g2, m2] ∧ g1 ∉ [g2, m2] ∧ m1 ∉ [g2, m2]) := by
    have : b1 ∉ [g2, m2] ∧ g1 ∉ [g2, m2] ∧ m1 ∉ [g2, m2] := by simp only [List.mem_cons, List.not_mem_nil, or_false]; omega
    exact this
  clear hC2 u2 HC hb1 hg1 hm1 hb1' hg1' hm1' hb2 hg2 hm2 hsz1 U1
  go_wp2_with fail
  go_loopw [9] (fun i wr => ∃ j : Nat, j ≤ N ∧ i = .int .i64 j ∧ IsC wr b1 g1 m1 ((Ct.new n).adds (l.take j)) ∧ IsC wr b2 g2 m2 (Ct.new n) ∧ Upd [] w wr) (fun i _ => N - (RowKit.intOf i).toNat)
  case atStart => exact ⟨0, by omega, rfl, HCA.out, HCB.out, U2.out⟩
  case round =>
    obtain ⟨j, hj, rfl, hC, hC2, hU⟩ := hrel
    have HCr := Lib.hid hC
    have HCr2 := Lib.hid hC2
    have HU := Lib.hid hU
    clear hC hC2 hU
    by_cases hlt : j < N
    · have hjl : j < l.length := by have := HLN.out; omega
      have HSN := Lib.hid ((Ct.new n).adds_snoc l j hjl)
      obtain ⟨dg, do_, rfl, pa, pc, ⟨q0, q1, q2, q3⟩, _⟩ := (HL.out.upd HU.out (by simp)) j hjl
      generalize l[j] = d at *
      clear q0 q3
      go_wp2
      refine wp_region_still_tail 11 (by kernel_rfl) (by kernel_rfl) ?_
      simp only [List.take_succ_cons, List.take_zero, List.drop_succ_cons, List.drop_zero]
      change wpStill _ _ wr.drew (fun a' => wpList _ _ _ _ a' wr.drew) _ _
      iterate 11 still_step
      refine wpStill_nil ?_
      go_wp2_with (go_at_call 8; (with_reducible refine (cadd_any (w := wr.drew) (HCr.out.stay (Upd.drew (Upd.refl [] wr))) d.p d.y).mono ?_); rintro e w5 ⟨rfl, h5, u5⟩; have H5 := Lib.hid h5; have U5 := Lib.hid u5; clear h5 u5)
      go_roundw
      case rel => exact ⟨j + 1, by omega, by go_num, by rw [HSN.out]; exact H5.out, (HCr2.out.stay (Upd.drew (Upd.refl [] wr))).upd U5.out HX1.out.1 HX1.out.2.1 HX1.out.2.2, HU.out.drew.step U5.out HSA.out⟩
      case measure => simp [RowKit.intOf]; omega
    · obtain rfl : j = N := by omega
      have HOK := Lib.hid (Ct.adds_ok (Ct.new_ok h1 h2) (l.take j))
      have HLEN := Lib.hid ((Ct.adds_len (Ct.new n) (l.take j)).trans (Ct.new_len n))
      have HT0 : Hid (Told ((Ct.new n).adds (l.take j)) (Ct.new n) 0) := by
        have := Told.start HOK.out
        rw [HLEN.out] at this
        exact this
      generalize (Ct.new n).adds (l.take j) = s at *
      have hm9 : manyOf n ≤ 9 := by unfold manyOf; omega
      have HBL := Lib.hid (fun i => (show (countBytes (s.page i)).length = 240 by rw [countBytes_len, Ct.page_len]))
      go_wp2_with fail
      go_loopw [10] (fun i wr => ∃ (j : Nat) (t : Ct), j ≤ manyOf n ∧ i = .int .i64 j ∧ IsC wr b1 g1 m1 s ∧ IsC wr b2 g2 m2 t ∧ Told s t j ∧ Upd [] w wr) (fun i _ => manyOf n - (RowKit.intOf i).toNat)
      case atStart => exact ⟨0, _, by omega, rfl, HCr.out, HCr2.out, HT0.out, HU.out⟩
      case round =>
        obtain ⟨i, t, hi, rfl, hC, hC2, hT, hU⟩ := hrel
        have HA := Lib.hid hC
        have HB := Lib.hid hC2
        have HT := Lib.hid hT
        have HU3 := Lib.hid hU
        have hbb1 := lt_of_block hC.hd
        have hbb2 := lt_of_block hC.row
        have hbb3 : m1 < wr.heap.size := by obtain ⟨M, hM, _⟩ := hC.map; exact hM.lt
        have hbb4 := lt_of_block hC2.hd
        have hbb5 := lt_of_block hC2.row
        have hbb6 : m2 < wr.heap.size := by obtain ⟨M, hM, _⟩ := hC2.map; exact hM.lt
        clear hC hC2 hT hU
        by_cases hlt2 : i < manyOf n
        · have hlt3 : i < manyOf s.now.length := by rw [HLEN.out]; exact hlt2
          go_wp2_with (first
            | (go_at_call 13; (with_reducible refine (HMY.out _).mono ?_); rintro e w3 ⟨rfl, rfl⟩)
            | (go_at_call 14; (with_reducible refine (cbody_yes HA.out hlt3).mono ?_); rintro e w4 ⟨⟨b3, rfl, hb3, hk3⟩, u4⟩; have HB3 := Lib.hid hb3; have HK3 := Lib.hid hk3; have U4 := Lib.hid u4; clear hb3 hk3 u4))
          have HA4 := Lib.hid (HA.out.stay U4.out)
          have HB4 := Lib.hid (HB.out.stay U4.out)
          have hload := cload_any (w := w4.drew) (HB4.out.stay (Upd.drew (Upd.refl [] w4))) (i : Int) (cap := 240) (show IsBytes w4.drew (some ⟨b3, 0, none⟩) (countBytes (s.page i)) from (HK3.out.upd (Upd.drew (Upd.refl [] w4)) (by simp)).bytes) (by rw [HBL.out]; exact Nat.le_refl _) (by decide)
          rw [HBL.out, HT.out.load HOK.out hlt3] at hload
          dsimp only at hload
          have HLD := Lib.hid hload
          have hT2 := HT.out.step HOK.out
          have HT2 := Lib.hid hT2
          have hbody := fun W (hW : IsC W b2 g2 m2 (t.full i (s.page i))) => cbody_yes hW (j := i) (by rw [hT2.len]; exact hlt3)
          rw [hT2.body] at hbody
          have HBD := Lib.hid hbody
          obtain ⟨z, hz⟩ : ∃ z, strOfNums ((countBytes (s.page i)).map fun n : Nat => (n : Int)) = z := ⟨_, rfl⟩
          have HCV : Hid (∀ W b, IsBlk W b (countBytes (s.page i)) → (convert 23 9 (.slice (some ⟨b, 0, none⟩) 240 240)).run Try.prog W = .ok (.string z) W) := fun W b h => by rw [← hz]; exact h.conv (HBL.out i)
          have hbn : b3 ∉ [g2, m2] := by have := HB3.out; simp only [List.mem_cons, List.not_mem_nil, or_false]; omega
          have HBN := Lib.hid hbn
          have hE0 := HCV.out w4.drew b3 (HK3.out.upd (Upd.drew (Upd.refl [] w4)) (by simp))
          generalize t.full i (s.page i) = t2 at *
          clear hload hT2 hbody hz hbn
          first | (go_region_held (fun w' => (convert 23 9 (.slice (some ⟨b3, 0, none⟩) 240 240)).run Try.prog w' = .ok (.string z) w') (first | exact hE0 | exact hE1 | exact hE2)
            (first
              | (go_at_call 15; (with_reducible refine HLD.out.mono ?_); rintro e w5 ⟨rfl, h5, u5⟩; have H5 := Lib.hid h5; have U5 := Lib.hid u5; have hk5 := (HK3.out.upd (Upd.drew (Upd.refl [] w4)) (by simp)).upd u5 HBN.out; have hE1 := HCV.out _ _ hk5; have HK5 := Lib.hid hk5; clear h5 u5 hk5)
              | (go_at_call 14; (with_reducible refine (HBD.out _ H5.out).mono ?_); rintro e w6 ⟨⟨b6, rfl, hb6, hk6⟩, u6⟩; have H6 := Lib.hid (H5.out.stay u6); have U6 := Lib.hid u6; have hk56 := HK5.out.upd u6 (by simp); have hE2 := HCV.out _ _ hk56; have hE3 := HCV.out _ _ hk6; have HK6 := Lib.hid hk56; clear hb6 hk6 u6 hk56))) | fail
          all_goals
            clear hE0 hE1 hE2 hE3
            have HA6 := Lib.hid (((HA4.out.stay (Upd.drew (Upd.refl [] w4))).upd U5.out HX2.out.1 HX2.out.2.1 HX2.out.2.2).stay U6.out)
            have HU6 := Lib.hid ((((HU3.out.trans U4.out).drew).step U5.out HSB.out).trans U6.out)
            obtain ⟨⟨cs, ty, hkb, hkc⟩, _⟩ := HK6.out
            have HKB := Lib.hid hkb
            have HCS : Hid (∀ q, q < 240 → ∃ v, cs[q]? = some v) := fun q hq => ⟨_, hkc q (by rw [HBL.out]; exact hq)⟩
            have HB3' := Lib.hid (Nat.le_trans HU3.out.size HB3.out)
            clear hkb hkc
            go_wp2
            go_loopw [12] (fun i wr => ∃ q : Nat, q ≤ 240 ∧ i = .int .i64 q ∧ (∃ cs, wr.heap[b3]? = some (.cells cs ty (0, 0)) ∧ ∀ q, q < 240 → ∃ v, cs[q]? = some v) ∧ Upd [b3] w6 wr) (fun i _ => 240 - (RowKit.intOf i).toNat)
            case atStart => exact ⟨0, by omega, rfl, ⟨cs, HKB.out, HCS.out⟩, Upd.refl _ _⟩
            case round =>
              obtain ⟨q, hq, rfl, ⟨cs', hb', hc'⟩, hU7⟩ := hrel
              have HU7 := Lib.hid hU7
              have HB' := Lib.hid hb'
              have HC' := Lib.hid hc'
              by_cases hq2 : q < 240
              · obtain ⟨v, hv⟩ := hc' q hq2
                have hcell : wr.cell? ⟨b3, q, none⟩ = some v := by rw [(cells_of hb').1]; exact hv
                have hfr := (cells_of hb').2 q
                clear hU7 hb' hc' hv
                go_wp2
                go_roundw
                case rel =>
                  refine ⟨q + 1, by omega, by go_num, ⟨_, heap_setCell_same wr b3 q _ _ _ HB'.out, fun q2 h2 => ?_⟩, HU7.out.trans ((Upd.refl [b3] wr).setCell (.inl (by simp)) _)⟩
                  obtain ⟨v2, hv2⟩ := HC'.out q2 h2
                  rw [Array.getElem?_setIfInBounds]
                  by_cases e : q = q2
                  · rw [if_pos e]
                    have hlt := (Array.getElem?_eq_some_iff.1 hv2).1
                    exact ⟨_, by rw [if_pos (by rw [e]; exact hlt)]⟩
                  · rw [if_neg e]; exact ⟨v2, hv2⟩
                case measure => simp [RowKit.intOf]; omega
              · clear hU7 hb' hc'
                go_wp2
                go_roundw
                case rel =>
                  have hs3 := HB3.out
                  exact ⟨i + 1, t2, by omega, by go_num, HA6.out.upd HU7.out (by simp; omega) (by simp; omega) (by simp; omega), H6.out.upd HU7.out (by simp; omega) (by simp; omega) (by simp; omega), HT2.out, HU6.out.step HU7.out (fun x hx => .inr (by have := HB3'.out; simp only [List.mem_singleton] at hx; omega))⟩
                case measure => simp [RowKit.intOf]; omega
        · have e : manyOf n = i := by omega
          have hlt' : ¬ i < manyOf n := hlt2
          have hT := HT.out
          rw [← e, ← HLEN.out] at hT
          have hd := hT.done
          subst hd
          have HD : Hid (IsC wr b2 g2 m2 ⟨s.now, s.now⟩) := HB.out
          have HTC := Lib.hid (Ct.touched_none (s := ⟨s.now, s.now⟩) rfl)
          clear hT HT HB e
          go_wp2_with (go_at_call 13; (with_reducible refine (HMY.out _).mono ?_); rintro e w3 ⟨rfl, rfl⟩)
          go_loop [13] (fun i => ∃ j : Nat, j ≤ n ∧ i = .int .i64 j) (fun i => n - (RowKit.intOf i).toNat)
          case atStart => exact ⟨0, by omega, rfl⟩
          case round =>
            obtain ⟨j, hj, rfl⟩ := hrel
            by_cases hltj : j < n
            · have HG1 := Lib.hid (cget_any HA.out (j : Int))
              have HG2 : Hid (Calls Try.prog 10 #[.pointer (some ⟨b2, 0, none⟩), .int .i64 (j : Nat)] wr fun e w' => e = .returned (.int .i64 (s.get (j : Int))) ∧ wr = w') := cget_any HD.out (j : Int)
              generalize s.get (j : Int) = x at *
              go_wp2_with fail
              refine HG1.out.mono ?_
              rintro e w3 ⟨rfl, rfl⟩
              go_wp2_with fail
              refine HG2.out.mono ?_
              rintro e w3 ⟨rfl, rfl⟩
              go_wp2
              go_round
              case rel => exact ⟨j + 1, by omega, by go_num⟩
              case measure => simp [RowKit.intOf]; omega
            · have HTO := Lib.hid (ctouched_any HD.out)
              rw [show Ct.touchedI ⟨s.now, s.now⟩ = [] by unfold Ct.touchedI; rw [HTC.out]; rfl] at HTO
              go_wp2_with (first
                | (go_at_call 12; (with_reducible refine HTO.out.mono ?_); rintro e w8 ⟨⟨v8, rfl, hv8⟩, u8⟩; have U8 := Lib.hid u8; obtain ⟨a8, c8, rfl, _⟩ := hv8.slice; clear u8 hv8; rw [List.length_nil])
                | (go_at_call 7; (with_reducible refine (lives_any _).mono ?_); rintro e w9 ⟨rfl, u9⟩; have U9 := Lib.hid u9; clear u9))
              go_ret
              exact ⟨rfl, (HU3.out.trans U8.out).trans U9.out⟩
end Go.Proofs.Ytgmabhfffgnjjaa
