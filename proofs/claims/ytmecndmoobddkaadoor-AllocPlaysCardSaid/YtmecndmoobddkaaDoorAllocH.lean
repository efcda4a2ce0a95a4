/-
  PROVED HERE: AllocRuns returns true, whatever it is given. Conditions: the table of math/bits lies as its text lays it; the script is a script.
-/
import Derived.Test.YtmecndmoobddkaaDoorAllocG
import Derived.Deep.QuietTactic
import Derived.BigQuiet
namespace Go.Proofs.YtmecndmoobddkaaDoor
open Go.RowKit

theorem isFree_is {b : Nat} {s : St} {p : Int} {r : Bool} {w : World} (h : IsA w b s) (hr : s.isFree p = r) :
    Calls Tryd.prog 23 #[pt b, .int .i64 p] w fun e w' => e = .returned (.bool r) ∧ w' = w := by subst hr; exact isFree_any h
theorem isFree_at {s : St} {p : Nat} (h : p < s.n) : s.isFree (p : Int) = s.F.testBit p := by
  simp only [St.isFree, St.there, Int.toNat_natCast]
  rw [show decide (0 ≤ (p : Int) ∧ (p : Int) < s.n) = true from decide_eq_true (by omega)]; rfl
theorem isFree_off {s : St} {p : Int} (h : p < 0 ∨ (s.n : Int) ≤ p) : s.isFree p = false := by
  simp only [St.isFree, St.there]
  rw [show decide (0 ≤ p ∧ p < s.n) = false from decide_eq_false (by omega)]; rfl

theorem St.step_n (s : St) (k p : Int) : (s.step k p).n = s.n := by
  unfold St.step
  split
  · unfold St.mark; split <;> rfl
  · split
    · unfold St.take; split
      · unfold St.mark; split <;> rfl
      · rfl
    · split
      · unfold St.drop; split <;> rfl
      · split
        · rfl
        · split <;> rfl
theorem St.plays_n (s : St) (l : List (Int × Int)) : (s.plays l).n = s.n := by
  induction l generalizing s with
  | nil => rfl
  | cons x l ih => show (St.plays (s.step x.1 x.2) l).n = s.n; rw [ih, St.step_n]
theorem IsA.heap {w w' : World} {b : Nat} {s : St} (h : IsA w b s) (e : w'.heap = w.heap) : IsA w' b s := ⟨by rw [e]; exact h.1, h.2⟩
theorem sum_take (l : List (Nat × Nat)) (i : Nat) (h : i < l.length) : ((l.take (i + 1)).map (·.2)).sum = ((l.take i).map (·.2)).sum + l[i].2 := by
  rw [List.take_succ_eq_append_getElem h, List.map_append, List.sum_append]; simp
theorem sum_le {f : Nat → Bool} {n : Nat} {l : List (Nat × Nat)} (h : RunsOk f n l) (i : Nat) (hi : i < l.length) : ((l.take (i + 1)).map (·.2)).sum ≤ l[i].1 + l[i].2 := by
  induction i with
  | zero => rw [sum_take l 0 hi]; simp
  | succ i ih =>
    have := ih (by omega)
    have h2 := h.2 (i + 1) i hi (by omega)
    rw [sum_take l (i + 1) hi]
    omega
/-- Where the run ahead of run i ends. -/
def endAt (l : List (Nat × Nat)) (i : Nat) : Int := if h : 0 < i ∧ i - 1 < l.length then ((l[i - 1].1 + l[i - 1].2 : Nat) : Int) else -1
theorem endAt_succ (l : List (Nat × Nat)) (i : Nat) (h : i < l.length) : endAt l (i + 1) = (l[i].1 : Int) + l[i].2 := by
  unfold endAt
  rw [dif_pos ⟨by omega, by simpa using h⟩]
  simp
theorem endAt_lt {f : Nat → Bool} {n : Nat} {l : List (Nat × Nat)} (h : RunsOk f n l) (i : Nat) (hi : i < l.length) : endAt l i < l[i].1 := by
  unfold endAt
  split
  · rename_i h1
    have := h.2 i (i - 1) hi (by omega)
    omega
  · omega
set_option maxHeartbeats 800000 in
set_option maxRecDepth 100000 in
theorem lruns_no {n : Int} {v : Value} {w : World} (hT : Tab w) (h : n < 1 ∨ 1024 < n) : Calls Tryd.prog 5 #[.int .i64 n, v] w fun e w' => e = .returned (.bool true) ∧ Upd [] w w' := by
  have HT := Lib.hid hT
  have HN := Lib.hid h
  clear hT
  rcases h with h | h
  · go_enter Tryd.func5, Tryd.ntmps5
    go_wp2_with fail
    refine (new_no HN.out).mono ?_
    rintro e w1 ⟨rfl, rfl⟩
    go_wp2_with fail
    refine (known_any HT.out).mono ?_
    rintro e w2 ⟨rfl, u⟩
    go_wp2
    go_ret
    exact ⟨rfl, u⟩
  · have h' : ¬ n < 1 := by omega
    go_enter Tryd.func5, Tryd.ntmps5
    go_wp2_with fail
    refine (new_no HN.out).mono ?_
    rintro e w1 ⟨rfl, rfl⟩
    go_wp2_with fail
    refine (known_any HT.out).mono ?_
    rintro e w2 ⟨rfl, u⟩
    go_wp2
    go_ret
    exact ⟨rfl, u⟩

set_option maxHeartbeats 1600000 in
set_option maxRecDepth 100000 in
theorem lruns_yes {n : Nat} {v : Value} {l : List (Int × Int)} {w : World} (hT : Tab w) (h1 : 1 ≤ n) (h2 : n ≤ 1024) (hs : IsOps w v l) :
    Calls Tryd.prog 5 #[.int .i64 n, v] w fun e w' => e = .returned (.bool true) ∧ Upd [] w w' := by
  have HT := Lib.hid hT
  have hlt := hT.lt
  obtain ⟨a, cap, rfl, hl, hcs⟩ := hs
  have HC := Lib.hid (show IsOps w _ l from ⟨a, cap, rfl, hl, hcs⟩)
  have HCS := Lib.hid hcs
  clear hT hcs
  have h1' : ¬ ((n : Int) < 1) := by omega
  have h2' : ¬ (1024 < (n : Int)) := by omega
  go_enter Tryd.func5, Tryd.ntmps5
  go_wp2_with fail
  refine (new_yes h1 h2).mono ?_
  rintro e w1 ⟨rfl, hA1, u1⟩
  have H1 := Lib.hid hA1
  have U1 := Lib.hid u1
  generalize hb : w.heap.size = b at *
  have HB := Lib.hid hb
  have HT1 := Lib.hid (HT.out.upd u1 (by simp))
  have hb1 := lt_of_block hA1.1
  clear hA1 u1 hb
  go_wp2_with fail
  refine (known_any HT1.out).mono ?_
  rintro e w2 ⟨rfl, u2⟩
  have H2 := Lib.hid (H1.out.upd u2 (by simp))
  have U2 := Lib.hid (U1.out.step u2 (by simp))
  clear u2
  have HBle : Hid (w.heap.size ≤ b) := Nat.le_of_eq HB.out
  go_wp2_with fail
  go_loopw [6] (fun i wr => ∃ k : Nat, k ≤ l.length ∧ i = .int .i64 k ∧ IsA wr b ((St.new n).plays (l.take k)) ∧ Upd [] w wr) (fun i _ => l.length - (intOf i).toNat)
  case atStart => exact ⟨0, by omega, rfl, H2.out, U2.out⟩
  case round =>
    obtain ⟨k, hk, rfl, hA, hU⟩ := hrel
    have HA := Lib.hid hA
    have HU := Lib.hid hU
    have HTr := Lib.hid (HT.out.upd hU (by simp))
    clear hA hU
    by_cases hltk : k < l.length
    · obtain ⟨b0, o, rfl, hc1, hc2⟩ := HCS.out k hltk
      have hbl := World.block_lt_of_cell? _ _ hc1
      have hr1 : wr.cell? ⟨b0, o + k * 2, none⟩ = some (.int .i64 l[k].1) := by rw [← hc1]; exact World.cell?_of_block (HU.out.block b0 hbl (by simp))
      have hr2 : wr.cell? ⟨b0, o + k * 2 + 1, none⟩ = some (.int .i64 l[k].2) := by rw [← hc2]; exact World.cell?_of_block (HU.out.block b0 hbl (by simp))
      have HP := Lib.hid ((St.new n).plays_snoc l k hltk)
      generalize l[k] = x at *
      obtain ⟨kd, pg⟩ := x
      clear hc1 hc2 hbl
      go_wp2_with fail
      refine (play_any HA.out HTr.out).mono ?_
      rintro e w3 ⟨rfl, h3, u3⟩
      have H3 := Lib.hid h3
      have U3 := Lib.hid (HU.out.into u3 HBle.out)
      clear h3 u3
      go_wp2
      go_roundw
      case rel => exact ⟨k + 1, by omega, by go_num, by rw [HP.out]; exact H3.out, U3.out⟩
      case measure => simp [intOf]; omega
    · obtain rfl : k = l.length := by omega
      have hsn := St.plays_n (St.new n) (l.take l.length)
      generalize (St.new n).plays (l.take l.length) = s at *
      have HSN : Hid (s.n = n) := hsn
      clear hsn
      go_wp2_with fail
      refine (runs_any HA.out).mono ?_
      rintro e w4 ⟨v, rfl, hv, u4⟩
      have H4 := Lib.hid (HA.out.upd u4 (by simp))
      have U4 := Lib.hid (HU.out.step u4 (by simp))
      have HV := Lib.hid hv
      obtain ⟨a4, c4, rfl⟩ := hv.shape
      clear hv u4
      go_wp2_with fail
      have hspec := runs_spec s.F.testBit s.n
      have hsum := runs_sum s.F s.n
      have HSpec : Hid (RunsOk s.F.testBit n s.runs) := by have := HSN.out; rw [← this]; exact hspec
      have HSum : Hid ((s.runs.map (·.2)).sum = s.free) := hsum
      have HRl : Hid (s.runs.length ≤ n) := by have := HSN.out; rw [← this]; exact runs_len _ _
      clear hspec hsum
      have hRl := HRl.out
      generalize s.runs = R at *
      go_loopw [8, 9, 10] (fun fr e i wr => ∃ k : Nat, k ≤ R.length ∧ i = .int .i64 k ∧ e = .int .i64 (endAt R k) ∧ fr = .int .i64 (((R.take k).map (·.2)).sum : Nat) ∧ Hid (wr.heap = w4.heap) ∧ Upd [] w wr) (fun _ _ i _ => R.length - (intOf i).toNat)
      case atStart => exact ⟨0, by omega, rfl, rfl, rfl, rfl, U4.out⟩
      case round =>
        obtain ⟨k, hk, rfl, rfl, rfl, hh, hU5⟩ := hrel
        have HU5 := Lib.hid hU5
        have HA5 := Lib.hid (H4.out.heap hh.out)
        clear hU5
        by_cases hltk : k < R.length
        · have hne : R ≠ [] := by intro e; rw [e] at hltk; simp at hltk
          obtain ⟨g, c, hv, hg, hat⟩ := HV.out.at hne
          simp only [Value.slice.injEq, true_and] at hv
          obtain ⟨rfl, rfl⟩ := hv
          obtain ⟨c1, c2, _⟩ := hat k hltk
          have d1 : wr.cell? ⟨g, k * 2, none⟩ = some (.int .i64 (R[k].1 : Int)) := by rw [← c1]; exact World.cell?_of_block (w := w4) (by rw [hh.out])
          have d2 : wr.cell? ⟨g, k * 2 + 1, none⟩ = some (.int .i64 (R[k].2 : Int)) := by rw [← c2]; exact World.cell?_of_block (w := w4) (by rw [hh.out])
          obtain ⟨r1, r2, r3, r4, r5⟩ := HSpec.out.1 k hltk
          have he := endAt_lt HSpec.out k hltk
          have HE := Lib.hid (endAt_succ R k hltk)
          have HSu := Lib.hid (sum_take R k hltk)
          have hle := sum_le HSpec.out k hltk
          rw [HSu.out] at hle
          clear c1 c2 hat hne
          generalize hx : R[k] = x at *
          have HX := Lib.hid hx
          obtain ⟨a, d⟩ := x
          clear hx
          simp only at d1 d2 r1 r2 r3 r4 r5 he hle
          have q1 : s.isFree ((a : Int) - 1) = false := by
            rcases r4 with r4 | r4
            · exact isFree_off (.inl (by omega))
            · by_cases a0 : a = 0
              · exact isFree_off (.inl (by omega))
              · rw [show (a : Int) - 1 = ((a - 1 : Nat) : Int) by omega, isFree_at (by have := HSN.out; omega)]; exact r4
          have q2 : s.isFree ((a : Int) + (d : Int)) = false := by
            rcases r5 with r5 | r5
            · exact isFree_off (.inr (by have := HSN.out; omega))
            · by_cases a0 : a + d < s.n
              · rw [show (a : Int) + d = ((a + d : Nat) : Int) by omega, isFree_at a0]; exact r5
              · exact isFree_off (.inr (by omega))
          have q3 : ∀ j : Nat, j < d → s.isFree ((a : Int) + (j : Int)) = true := fun j hj => by
            rw [show (a : Int) + j = ((a + j : Nat) : Int) by omega, isFree_at (by have := HSN.out; omega)]; exact r3 _ (by omega) (by omega)
          have Q1 := Lib.hid q1
          have Q2 := Lib.hid q2
          have Q3 := Lib.hid q3
          clear q1 q2 q3 r3 r4 r5
          generalize endAt R k = e at *
          generalize ((R.take k).map (·.2)).sum = su at *
          have b1 : decide ((a : Int) ≤ e) = false := decide_eq_false (by omega)
          have b2 : decide ((d : Int) < 1) = false := decide_eq_false (by omega)
          have b3 : decide ((n : Int) - (a : Int) < (d : Int)) = false := decide_eq_false (by omega)
          go_wp2
          go_quiet (first | (go_at_call 23; first | exact Calls.quiet_of_same (isFree_is HA5.out Q1.out) | exact Calls.quiet_of_same (isFree_is HA5.out Q2.out)))
          go_wp2
          have HA6 := Lib.hid (HA5.out.heap (w' := wr.drewN nq) rfl)
          have hh6 : Hid ((wr.drewN nq).heap = w4.heap) := hh.out
          have hU6 : Upd [] w (wr.drewN nq) := ⟨HU5.out.os, HU5.out.tape, HU5.out.output, HU5.out.size, HU5.out.block⟩
          have HU6 := Lib.hid hU6
          have e1 : (wr.drewN nq).cell? ⟨g, k * 2, none⟩ = some (.int .i64 (a : Int)) := d1
          have e2 : (wr.drewN nq).cell? ⟨g, k * 2 + 1, none⟩ = some (.int .i64 (d : Int)) := d2
          generalize wr.drewN nq = wq at *
          clear hU6 d1 d2 b1 b2 b3
          go_loop [11] (fun j => ∃ q : Nat, q ≤ d ∧ j = .int .i64 q) (fun j => d - (intOf j).toNat)
          case atStart => exact ⟨0, by omega, rfl⟩
          case round =>
            obtain ⟨q, hq, rfl⟩ := hrel
            by_cases hqd : q < d
            · have Q4 := Lib.hid (Q3.out q hqd)
              go_wp2_with (go_at_call 23; refine (isFree_is HA6.out Q4.out).mono ?_; rintro e w' ⟨rfl, rfl⟩)
              go_round
              case rel => exact ⟨q + 1, by omega, by go_num⟩
              case measure => simp [intOf]; omega
            · obtain rfl : q = d := by omega
              have hw1 : IntKind.i64.wrap ((a : Int) + (q : Int)) = (a : Int) + (q : Int) := IntWalk.i64_in _ (by omega)
              go_wp2
              go_quiet (fail)
              go_wp2
              go_roundw
              case rel =>
                refine ⟨k + 1, by omega, by go_num, ?_, ?_, hh6.out, ⟨HU6.out.os, HU6.out.tape, HU6.out.output, HU6.out.size, HU6.out.block⟩⟩
                · rw [HE.out]
                · rw [HSu.out]; go_num
              case measure => simp [intOf]; omega
        · obtain rfl : k = R.length := by omega
          have HFr := Lib.hid HSum.out
          go_wp2_with fail
          refine (free_any HA5.out).mono ?_
          rintro e w5 ⟨rfl, rfl⟩
          rw [List.take_length, HFr.out]
          go_wp2
          go_ret
          exact ⟨by simp, HU5.out⟩
end Go.Proofs.YtmecndmoobddkaaDoor
