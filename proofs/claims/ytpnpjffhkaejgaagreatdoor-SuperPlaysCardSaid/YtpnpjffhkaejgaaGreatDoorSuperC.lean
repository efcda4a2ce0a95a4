/-
  PROVED HERE: super.Check of any superblock and any number of sectors; the document's Check. Conditions: the number of sectors is one of 64 bits.
-/
import Derived.Test.YtpnpjffhkaejgaaGreatDoorSuperX
namespace Go.Proofs.YtpnpjffhkaejgaaGreatDoor
open Go.RowKit

/-- May a superblock of these numbers lie on so many sectors? -/
def fitsOn (x2 x3 x4 x5 n : Int) : Bool := decide (16 ≤ x2 ∧ x2 ≤ 1024 ∧ 2 + x2 ≤ x3 ∧ 64 ≤ x4 ∧ x3 + x4 ≤ n ∧ x5 < x4)
def okCheck (x0 x1 x2 x3 x4 x5 x6 n : Int) : Bool := okSuper [x0, x1, x2, x3, x4, x5, x6] && fitsOn x2 x3 x4 x5 n
def errOf (b : Bool) : Int := if b then 0 else 1
theorem okSuper_7 {x0 x1 x2 x3 x4 x5 x6 : Int} (h : okSuper [x0, x1, x2, x3, x4, x5, x6] = true) : (0 ≤ x0 ∧ x0 ≤ 1099511627776) ∧ (0 ≤ x1 ∧ x1 ≤ 1099511627776) ∧ (0 ≤ x2 ∧ x2 ≤ 1099511627776) ∧ (0 ≤ x3 ∧ x3 ≤ 1099511627776) ∧ (0 ≤ x4 ∧ x4 ≤ 1099511627776) ∧ (0 ≤ x5 ∧ x5 ≤ 1099511627776) ∧ (0 ≤ x6 ∧ x6 ≤ 1099511627776) := by
  have g : ∀ x ∈ [x0, x1, x2, x3, x4, x5, x6], 0 ≤ x ∧ x ≤ 1099511627776 := fun x hx => inB_true.1 (okSuper_at h hx)
  exact ⟨g _ (by simp), g _ (by simp), g _ (by simp), g _ (by simp), g _ (by simp), g _ (by simp), g _ (by simp)⟩
theorem okSuper_false {l : List Int} {k : Nat} (hk : k < l.length) (h : inB l[k] 1099511627776 = false) : okSuper l = false := by
  unfold okSuper
  rw [List.all_eq_false]
  exact ⟨l[k], List.getElem_mem hk, by rw [h]; decide⟩
/-- Which test of Check, in its order, finds that it does not fit. -/
theorem fits_cases {x2 x3 x4 x5 n : Int} : (fitsOn x2 x3 x4 x5 n = false ∧ (x2 < 16 ∨ (16 ≤ x2 ∧ 1024 < x2) ∨ (16 ≤ x2 ∧ x2 ≤ 1024 ∧ x3 < 2 + x2) ∨ (16 ≤ x2 ∧ x2 ≤ 1024 ∧ 2 + x2 ≤ x3 ∧ x4 < 64) ∨ (16 ≤ x2 ∧ x2 ≤ 1024 ∧ 2 + x2 ≤ x3 ∧ 64 ≤ x4 ∧ n < x3 + x4) ∨ (16 ≤ x2 ∧ x2 ≤ 1024 ∧ 2 + x2 ≤ x3 ∧ 64 ≤ x4 ∧ x3 + x4 ≤ n ∧ x4 ≤ x5))) ∨ (fitsOn x2 x3 x4 x5 n = true ∧ 16 ≤ x2 ∧ x2 ≤ 1024 ∧ 2 + x2 ≤ x3 ∧ 64 ≤ x4 ∧ x3 + x4 ≤ n ∧ x5 < x4) := by
  cases h : fitsOn x2 x3 x4 x5 n
  · refine .inl ⟨rfl, ?_⟩
    unfold fitsOn at h
    have := of_decide_eq_false h
    omega
  · refine .inr ⟨rfl, ?_⟩
    unfold fitsOn at h
    exact of_decide_eq_true h
set_option maxRecDepth 100000 in
set_option maxHeartbeats 3200000 in
theorem check_any {w : World} (x0 x1 x2 x3 x4 x5 x6 n : Int) (hn : -9223372036854775808 ≤ n ∧ n ≤ 9223372036854775807) :
    Calls Tryz.prog 17 #[.agg #[.int .i64 x0, .int .i64 x1, .int .i64 x2, .int .i64 x3, .int .i64 x4, .int .i64 x5, .int .i64 x6], .int .i64 n] w fun e w' => e = .returned (.int .i64 (errOf (okCheck x0 x1 x2 x3 x4 x5 x6 n))) ∧ Upd [] w w' := by
  have u0 := (Upd.refl [] w).alloc (.cells #[.int .i64 x0, .int .i64 x1, .int .i64 x2, .int .i64 x3, .int .i64 x4, .int .i64 x5, .int .i64 x6] 34)
  have hC := heap_alloc_new w (.cells #[.int .i64 x0, .int .i64 x1, .int .i64 x2, .int .i64 x3, .int .i64 x4, .int .i64 x5, .int .i64 x6] 34)
  have HC := Lib.hid hC
  have HU := Lib.hid u0
  clear u0 hC
  go_enter Tryz.func17, Tryz.ntmps17
  go_wp2_with fail
  go_loopw [22] (fun i wr => ∃ k : Nat, k ≤ 7 ∧ i = .int .i64 k ∧ (∀ j (hj : j < k) (h7 : j < [x0, x1, x2, x3, x4, x5, x6].length), inB [x0, x1, x2, x3, x4, x5, x6][j] 1099511627776 = true) ∧ Upd [] (w.alloc (.cells #[.int .i64 x0, .int .i64 x1, .int .i64 x2, .int .i64 x3, .int .i64 x4, .int .i64 x5, .int .i64 x6] 34)) wr) (fun i _ => 7 - (intOf i).toNat)
  case atStart => exact ⟨0, by decide, rfl, fun j hj => absurd hj (by omega), Upd.refl [] _⟩
  case round =>
    obtain ⟨k, hk, rfl, hin, hU⟩ := hrel
    have HIN := Lib.hid hin
    have HW := Lib.hid (HU.out.trans hU)
    clear hin
    by_cases hlt7 : k < 7
    · have hk7 : k < [x0, x1, x2, x3, x4, x5, x6].length := hlt7
      have hidx : ∀ w, (Instr.index 86 (.agg #[.int .i64 x0, .int .i64 x1, .int .i64 x2, .int .i64 x3, .int .i64 x4, .int .i64 x5, .int .i64 x6]) (.int .i64 (k : Int))).run Tryz.prog w = .ok (.int .i64 [x0, x1, x2, x3, x4, x5, x6][k]) w := idx7 _ rfl [x0, x1, x2, x3, x4, x5, x6] rfl k hk7
      have HN := Lib.hid (fun h => okSuper_false (l := [x0, x1, x2, x3, x4, x5, x6]) hk7 h)
      generalize hx : [x0, x1, x2, x3, x4, x5, x6][k] = x at hidx HN
      have HX := Lib.hid hx
      have HU1 := Lib.hid hU
      clear hx hU
      cases hI : inB x 1099511627776
      · have hor := inB_false.1 hI
        have ho := HN.out hI
        have hor' : x < 0 ∨ (0 ≤ x ∧ 1099511627776 < x) := by omega
        have HO := Lib.hid ho
        clear hor hI ho
        rcases hor' with h | ⟨h, h'⟩
        all_goals
          go_wp2
          go_ret
          exact ⟨by unfold okCheck; rw [HO.out]; rfl, HW.out⟩
      · obtain ⟨h0, h1⟩ := inB_true.1 hI
        have HI := Lib.hid hI
        clear hI
        go_wp2
        go_roundw
        case rel =>
          refine ⟨k + 1, by omega, by go_num, fun j hj h7 => ?_, HU1.out⟩
          by_cases e : j = k
          · subst e; rw [HX.out]; exact HI.out
          · exact HIN.out j (by omega) h7
        case measure => simp [intOf]; omega
    · obtain rfl : k = 7 := by omega
      have ho := okSuper_of (l := [x0, x1, x2, x3, x4, x5, x6]) fun k hk => HIN.out k (by simpa using hk) hk
      obtain ⟨_, _, r2, r3, r4, r5, _⟩ := okSuper_7 ho
      obtain ⟨q, _⟩ := cells_of (hU.get HC.out (by simp))
      have q2 := q 2; have q3 := q 3; have q4 := q 4; have q5 := q 5
      simp only [List.getElem?_toArray, List.getElem?_cons_zero, List.getElem?_cons_succ] at q2 q3 q4 q5
      have HO := Lib.hid ho
      clear q ho hU
      rcases fits_cases (x2 := x2) (x3 := x3) (x4 := x4) (x5 := x5) (n := n) with ⟨hf, h⟩ | ⟨hf, g1, g2, g3, g4, g5, g6⟩
      · have HF := Lib.hid hf
        clear hf
        rcases h with g1 | ⟨g1, g2⟩ | ⟨g1, g2, g3⟩ | ⟨g1, g2, g3, g4⟩ | ⟨g1, g2, g3, g4, g5⟩ | ⟨g1, g2, g3, g4, g5, g6⟩
        · go_wp2
          go_ret
          exact ⟨by unfold okCheck; rw [HF.out, Bool.and_false]; rfl, HW.out⟩
        · go_wp2
          go_ret
          exact ⟨by unfold okCheck; rw [HF.out, Bool.and_false]; rfl, HW.out⟩
        · go_wp2
          go_ret
          exact ⟨by unfold okCheck; rw [HF.out, Bool.and_false]; rfl, HW.out⟩
        · go_wp2
          go_ret
          exact ⟨by unfold okCheck; rw [HF.out, Bool.and_false]; rfl, HW.out⟩
        · by_cases hw : -9223372036854775808 ≤ n - x4
          · go_wp2
            go_ret
            exact ⟨by unfold okCheck; rw [HF.out, Bool.and_false]; rfl, HW.out⟩
          · have e1 : wrap64 (n - x4) = n - x4 + 18446744073709551616 := by unfold wrap64; omega
            go_wp2
            go_ret
            exact ⟨by unfold okCheck; rw [HF.out, Bool.and_false]; rfl, HW.out⟩
        · go_wp2
          go_ret
          exact ⟨by unfold okCheck; rw [HF.out, Bool.and_false]; rfl, HW.out⟩
      · have HF := Lib.hid hf
        clear hf
        go_wp2
        go_ret
        exact ⟨by unfold okCheck; rw [HF.out, HO.out]; rfl, HW.out⟩
theorem putSuper_isSome (l : List Int) : (putSuper l).isSome = okSuper l := by
  unfold putSuper
  cases okSuper l <;> rfl
set_option maxRecDepth 100000 in
set_option maxHeartbeats 3200000 in
theorem rcheck_any {w : World} (x0 x1 x2 x3 x4 x5 x6 n : Int) :
    Calls Tryz.prog 21 #[.agg #[.int .i64 x0, .int .i64 x1, .int .i64 x2, .int .i64 x3, .int .i64 x4, .int .i64 x5, .int .i64 x6], .int .i64 n] w fun e w' => e = .returned (.int .i64 (errOf (okCheck x0 x1 x2 x3 x4 x5 x6 n))) ∧ Upd [] w w' := by
  have u0 := (Upd.refl [] w).alloc (.cells #[.int .i64 x0, .int .i64 x1, .int .i64 x2, .int .i64 x3, .int .i64 x4, .int .i64 x5, .int .i64 x6] 34)
  have hC := heap_alloc_new w (.cells #[.int .i64 x0, .int .i64 x1, .int .i64 x2, .int .i64 x3, .int .i64 x4, .int .i64 x5, .int .i64 x6] 34)
  obtain ⟨q, _⟩ := cells_of hC
  have q0 := q 0; have q1 := q 1; have q2 := q 2; have q3 := q 3; have q4 := q 4; have q5 := q 5; have q6 := q 6
  simp only [List.getElem?_toArray, List.getElem?_cons_zero, List.getElem?_cons_succ] at q0 q1 q2 q3 q4 q5 q6
  have HC := Lib.hid hC
  have HU := Lib.hid u0
  have HP := Lib.hid (rputSuper_any (w := w.alloc (.cells #[.int .i64 x0, .int .i64 x1, .int .i64 x2, .int .i64 x3, .int .i64 x4, .int .i64 x5, .int .i64 x6] 34)) x0 x1 x2 x3 x4 x5 x6)
  clear u0 hC q
  cases ho : okSuper [x0, x1, x2, x3, x4, x5, x6]
  · have HO := Lib.hid ho
    have hps := putSuper_isSome [x0, x1, x2, x3, x4, x5, x6]
    rw [ho] at hps
    have HPS := Lib.hid hps
    clear ho hps
    go_enter Tryz.func21, Tryz.ntmps21
    go_wp2_with fail
    (with_reducible refine HP.out.mono ?_)
    rintro e w1 ⟨⟨v1, rfl, _⟩, u1⟩
    rw [HPS.out]
    have HU2 := Lib.hid (HU.out.trans u1)
    clear u1 q0 q1 q2 q3 q4 q5 q6
    go_wp2
    go_ret
    exact ⟨by unfold okCheck; rw [HO.out]; rfl, HU2.out⟩
  · have HO := Lib.hid ho
    have hps := putSuper_isSome [x0, x1, x2, x3, x4, x5, x6]
    rw [ho] at hps
    have HPS := Lib.hid hps
    obtain ⟨_, _, r2, r3, r4, r5, _⟩ := okSuper_7 ho
    clear ho hps
    go_enter Tryz.func21, Tryz.ntmps21
    go_wp2_with fail
    (with_reducible refine HP.out.mono ?_)
    rintro e w1 ⟨⟨v1, rfl, _⟩, u1⟩
    rw [HPS.out]
    have HU2 := Lib.hid (HU.out.trans u1)
    obtain ⟨q, _⟩ := cells_of (u1.get HC.out (by simp))
    clear u1 q0 q1 q2 q3 q4 q5 q6
    have q2 := q 2; have q3 := q 3; have q4 := q 4; have q5 := q 5
    simp only [List.getElem?_toArray, List.getElem?_cons_zero, List.getElem?_cons_succ] at q2 q3 q4 q5
    clear q
    rcases fits_cases (x2 := x2) (x3 := x3) (x4 := x4) (x5 := x5) (n := n) with ⟨hf, h⟩ | ⟨hf, g1, g2, g3, g4, g5, g6⟩
    · have HF := Lib.hid hf
      clear hf
      rcases h with g1 | ⟨g1, g2⟩ | ⟨g1, g2, g3⟩ | ⟨g1, g2, g3, g4⟩ | ⟨g1, g2, g3, g4, g5⟩ | ⟨g1, g2, g3, g4, g5, g6⟩
      all_goals
        go_wp2
        go_ret
        exact ⟨by unfold okCheck; rw [HF.out, Bool.and_false]; rfl, HU2.out⟩
    · have HF := Lib.hid hf
      clear hf
      go_wp2
      go_ret
      exact ⟨by unfold okCheck; rw [HF.out, HO.out]; rfl, HU2.out⟩
end Go.Proofs.YtpnpjffhkaejgaaGreatDoor
