/-
  PROVED HERE: AllocFill returns true, whatever it is given. Conditions: the table of math/bits lies as its text lays it.
-/
import Derived.Test.YtmecndmoobddkaaDoorAllocE
namespace Go.Proofs.YtmecndmoobddkaaDoor
open Go.RowKit

theorem IsEnts.shape {w : World} {B : Nat} {v : Value} {l : List (Nat × Nat)} (h : IsEnts w B v l) : ∃ a c, v = .slice a l.length c := by
  rcases h.2 with ⟨rfl, h0⟩ | ⟨g, cap, cur, rfl, _⟩
  · exact ⟨none, 0, by rw [h0]⟩
  · exact ⟨_, _, rfl⟩
/-- Entry i of such a list: where it lies. -/
theorem IsEnts.at {w : World} {B : Nat} {v : Value} {l : List (Nat × Nat)} (h : IsEnts w B v l) (hl : l ≠ []) :
    ∃ g c, v = .slice (some ⟨g, 0, none⟩) l.length c ∧ B ≤ g ∧ ∀ i (hi : i < l.length), w.cell? ⟨g, i * 2, none⟩ = some (.int .i64 (l[i].1 : Int)) ∧ w.cell? ⟨g, i * 2 + 1, none⟩ = some (.int .i64 (l[i].2 : Int)) ∧ (∀ j, w.frozen? ⟨g, j, none⟩ = false) := by
  obtain ⟨hlen, h2⟩ := h
  rcases h2 with ⟨rfl, h0⟩ | ⟨g, cap, cur, rfl, hg, hb, hn, hc, hcs, ht⟩
  · exact absurd (List.length_eq_zero_iff.1 h0) hl
  · refine ⟨g, cap, rfl, hg, fun i hi => ?_⟩
    have hgen : ∀ j, j < l.length * 2 → cur[j]? = (ents l)[j]? := by
      intro j hj
      rw [← ht, List.getElem?_take_of_lt hj]; simp
    have hat : ∀ (l : List (Nat × Nat)) (i : Nat) (hi : i < l.length), (ents l)[i * 2]? = some (.int .i64 (l[i].1 : Int)) ∧ (ents l)[i * 2 + 1]? = some (.int .i64 (l[i].2 : Int)) := by
      intro l
      induction l with
      | nil => intro i hi; simp at hi
      | cons x l ih =>
        intro i hi
        cases i with
        | zero => exact ⟨rfl, rfl⟩
        | succ i =>
          have := ih i (by simpa using hi)
          rw [show (i + 1) * 2 = i * 2 + 2 by omega, show i * 2 + 2 + 1 = (i * 2 + 1) + 2 by omega]
          exact this
    obtain ⟨c1, c2⟩ := cells_of hb
    refine ⟨?_, ?_, c2⟩
    · rw [c1, hgen _ (by omega)]; exact (hat l i hi).1
    · rw [c1, hgen _ (by omega)]; exact (hat l i hi).2

set_option maxHeartbeats 800000 in
set_option maxRecDepth 100000 in
theorem fill_no {n f : Int} {w : World} (hT : Tab w) (h : n < 1 ∨ 1024 < n) : Calls Tryd.prog 3 #[.int .i64 n, .int .i64 f] w fun e w' => e = .returned (.bool true) ∧ Upd [] w w' := by
  have HT := Lib.hid hT
  have HN := Lib.hid h
  clear hT
  rcases h with h | h
  · go_enter Tryd.func3, Tryd.ntmps3
    go_wp2_with fail
    refine (new_no HN.out).mono ?_
    rintro e w1 ⟨rfl, rfl⟩
    go_wp2_with fail
    refine (known_any HT.out).mono ?_
    rintro e w2 ⟨rfl, u⟩
    go_wp2
    go_ret
    exact ⟨rfl, u⟩
  · have h' : ¬ n < 1 := by omega
    go_enter Tryd.func3, Tryd.ntmps3
    go_wp2_with fail
    refine (new_no HN.out).mono ?_
    rintro e w1 ⟨rfl, rfl⟩
    go_wp2_with fail
    refine (known_any HT.out).mono ?_
    rintro e w2 ⟨rfl, u⟩
    go_wp2
    go_ret
    exact ⟨rfl, u⟩

set_option maxHeartbeats 1600000 in
set_option maxRecDepth 100000 in
theorem fill_yes {n : Nat} {f : Int} {w : World} (hT : Tab w) (h1 : 1 ≤ n) (h2 : n ≤ 1024) (hf1 : -9223372036854775808 ≤ f) (hf2 : f ≤ 9223372036854775807) :
    Calls Tryd.prog 3 #[.int .i64 n, .int .i64 f] w fun e w' => e = .returned (.bool true) ∧ Upd [] w w' := by
  have HT := Lib.hid hT
  have hlt := hT.lt
  clear hT
  have h1' : ¬ ((n : Int) < 1) := by omega
  have h2' : ¬ (1024 < (n : Int)) := by omega
  have ht1 : f.tmod (n : Int) < n := Int.tmod_lt_of_pos _ (by omega)
  have ht2 : -(n : Int) < f.tmod n := by have := Int.lt_tmod_of_pos f (show (0 : Int) < n by omega); omega
  have HF := Lib.hid (And.intro hf1 hf2)
  clear hf1 hf2
  go_enter Tryd.func3, Tryd.ntmps3
  go_wp2_with fail
  refine (new_yes h1 h2).mono ?_
  rintro e w1 ⟨rfl, hA1, u1⟩
  have H1 := Lib.hid hA1
  have U1 := Lib.hid u1
  generalize hb : w.heap.size = b at *
  have HB := Lib.hid hb
  have HT1 := Lib.hid (HT.out.upd u1 (by simp))
  have hb1 := lt_of_block hA1.1
  clear hA1 u1 hb
  go_wp2_with fail
  refine (known_any HT1.out).mono ?_
  rintro e w2 ⟨rfl, u2⟩
  have H2 := Lib.hid (H1.out.upd u2 (by simp))
  have U2 := Lib.hid (U1.out.step u2 (by simp))
  have HT2 := Lib.hid (HT1.out.upd u2 (by simp))
  clear u2
  go_wp2_with fail
  have HBle : Hid (w.heap.size ≤ b) := Nat.le_of_eq HB.out
  have hb0 : 0 ∉ [b] := by rw [List.mem_singleton]; omega
  have HB0 := Lib.hid hb0
  clear hb0
  go_loopw [6] (fun i wr => ∃ k : Nat, k ≤ n ∧ i = .int .i64 k ∧ IsA wr b (St.filled n k) ∧ Upd [] w wr) (fun i _ => n - (intOf i).toNat)
  case atStart => exact ⟨0, by omega, rfl, by rw [St.filled_zero]; exact H2.out, U2.out⟩
  case round =>
    obtain ⟨k, hk, rfl, hA, hU⟩ := hrel
    have HA := Lib.hid hA
    have HU := Lib.hid hU
    have HTr := Lib.hid (HT.out.upd hU (by simp))
    clear hA hU
    by_cases hlt' : k < n
    · have hlow := St.filled_low hlt'
      have htake := St.filled_take hlt'
      have hfree := St.filled_free (n := n) (i := k + 1) (by omega)
      have HL := Lib.hid hlow
      have HTk := Lib.hid htake
      have HFr := Lib.hid hfree
      clear hlow htake hfree
      go_wp2_with fail
      refine (take_any HA.out HTr.out).mono ?_
      rintro e w3 ⟨rfl, h3, u3⟩
      rw [HTk.out] at h3
      rw [HL.out]
      have H3 := Lib.hid h3
      have U3 := Lib.hid (HU.out.into u3 HBle.out)
      clear h3 u3
      go_wp2_with fail
      refine (free_any H3.out).mono ?_
      rintro e w4 ⟨rfl, rfl⟩
      rw [HFr.out, show ((n - (k + 1) : Nat) : Int) = (n : Int) - k - 1 by omega]
      go_wp2
      go_roundw
      case rel => exact ⟨k + 1, by omega, by go_num, H3.out, U3.out⟩
      case measure => simp [intOf]; omega
    · obtain rfl : k = n := by omega
      have HL := Lib.hid (St.filled_end k)
      have HTk := Lib.hid (St.filled_end_take k)
      have HRn := Lib.hid (St.filled_runs k)
      go_wp2_with fail
      refine (take_any HA.out HTr.out).mono ?_
      rintro e w3 ⟨rfl, h3, u3⟩
      rw [HTk.out] at h3
      rw [HL.out]
      have H3 := Lib.hid h3
      have U3 := Lib.hid (HU.out.into u3 HBle.out)
      clear h3 u3
      go_wp2_with fail
      refine (runs_any H3.out).mono ?_
      rintro e w4 ⟨v, rfl, hv, u4⟩
      rw [HRn.out] at hv
      obtain ⟨a, c, rfl⟩ := hv.shape
      have H4 := Lib.hid (H3.out.upd u4 (by simp))
      have U4 := Lib.hid (U3.out.step u4 (by simp))
      clear hv u4
      by_cases htn : f.tmod (k : Int) < 0
      all_goals
        go_wp2_with fail
        first
          | (obtain ⟨d, hd, hdl⟩ : ∃ d : Nat, f.tmod (k : Int) + k = (d : Int) ∧ d < k := ⟨(f.tmod k + k).toNat, by omega, by omega⟩; rw [hd])
          | (obtain ⟨d, hd, hdl⟩ : ∃ d : Nat, f.tmod (k : Int) = (d : Int) ∧ d < k := ⟨(f.tmod k).toNat, by omega, by omega⟩; rw [hd])
        clear hd ht1 ht2 htn
        go_loopw [12] (fun i wr => ∃ j : Nat, j ≤ k ∧ i = .int .i64 j ∧ IsA wr b (St.ringed k d j) ∧ Upd [] w wr) (fun i _ => k - (intOf i).toNat)
        case atStart => exact ⟨0, by omega, rfl, by rw [St.ringed_zero]; exact H4.out, U4.out⟩
        case round =>
          obtain ⟨j, hj, rfl, hA, hU⟩ := hrel
          have HA5 := Lib.hid hA
          have HU5 := Lib.hid hU
          clear hA hU
          by_cases hltj : j < k
          · have hcan := St.ringed_can (k := d) hltj
            have hdrop := St.ringed_drop (k := d) hltj
            have hfree := St.ringed_free k d (j + 1)
            have HC := Lib.hid hcan
            have HD := Lib.hid hdrop
            have HFr := Lib.hid hfree
            clear hcan hdrop hfree
            go_wp2_with fail
            rw [show ((d : Int) + j) % k = (((d + j) % k : Nat) : Int) by simp]
            refine (drop_any HA5.out).mono ?_
            rintro e w5 ⟨rfl, h5, u5⟩
            rw [HD.out] at h5
            rw [HC.out]
            have H5 := Lib.hid h5
            have U5 := Lib.hid (HU5.out.into u5 HBle.out)
            clear h5 u5
            go_wp2_with fail
            refine (free_any H5.out).mono ?_
            rintro e w6 ⟨rfl, rfl⟩
            rw [HFr.out]
            go_wp2
            go_roundw
            case rel => exact ⟨j + 1, by omega, by go_num, H5.out, U5.out⟩
            case measure => simp [intOf]; omega
          · obtain rfl : j = k := by omega
            have hset := St.ringed_settle (n := j) (k := d) (by omega) hdl
            have HS := Lib.hid hset
            have HNR := Lib.hid (St.new_runs (n := j) (by omega))
            have HNF := Lib.hid (St.new_free j)
            clear hset
            go_wp2_with fail
            refine (settle_any HA5.out).mono ?_
            rintro e w5 ⟨rfl, h5, u5⟩
            rw [HS.out] at h5
            have H5 := Lib.hid h5
            have U5 := Lib.hid (HU5.out.into u5 HBle.out)
            clear h5 u5
            go_wp2_with fail
            refine (runs_any H5.out).mono ?_
            rintro e w6 ⟨v, rfl, hv, u6⟩
            rw [HNR.out] at hv
            obtain ⟨g, c, rfl, hg, hat⟩ := hv.at (by simp)
            obtain ⟨hc1, hc2, _⟩ := hat 0 (by simp)
            simp only [Nat.zero_mul, Nat.zero_add, List.getElem_cons_zero] at hc1 hc2
            have H6 := Lib.hid (H5.out.upd u6 (by simp))
            have U6 := Lib.hid (U5.out.step u6 (by simp))
            clear hv hat u6 hg
            go_wp2_with fail
            refine (free_any H6.out).mono ?_
            rintro e w7 ⟨rfl, rfl⟩
            rw [HNF.out]
            go_wp2
            go_ret
            exact ⟨by simp, U6.out⟩
end Go.Proofs.YtmecndmoobddkaaDoor
