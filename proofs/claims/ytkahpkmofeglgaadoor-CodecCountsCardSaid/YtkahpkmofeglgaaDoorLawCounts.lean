/-
  PROVED HERE: the walk of the statement CodecCounts returns true. Conditions: the argument can be read, and has no more numbers than fit into a machine.
-/
import Derived.Test.YtkahpkmofeglgaaDoorCountsG
import Derived.Test.YtkahpkmofeglgaaDoorLawSuper
namespace Go.Proofs.YtkahpkmofeglgaaDoor
open Go.RowKit

theorem getCounts_ret {w : World} {B : Nat} {v : Value} {l : List Nat} (h : IsRet w B v l) :
    Calls Tryd.prog 26 #[v] w fun e w' => IntsRes w.heap.size (getCounts l) e w' ∧ Upd [] w w' := by
  obtain ⟨a, c, rfl, hb, hB', hc, hm⟩ := h.slice
  exact getCounts_any hb hc hm
set_option maxRecDepth 100000 in
set_option maxHeartbeats 3200000 in
theorem codecCounts_any {w : World} {a : Option Addr} {l : List Int} {cap : Nat} (hb : IsInts w a l) (hl : l.length ≤ 20000000000000) :
    Calls Tryd.prog 5 #[.slice a l.length cap] w fun e w' => e = .returned (.bool true) ∧ Upd [] w w' := by
  have HI : Hid (∀ w', Upd [] w w' → IsInts w' a l) := fun w' u => hb.upd u (by simp)
  have hml : ((putCounts l).getD []).length ≤ 9223372036854775807 := by
    unfold putCounts
    split
    · rename_i h
      simp only [Bool.and_eq_true, decide_eq_true_eq] at h
      rw [Option.getD_some, countBytes_len, h.2]; decide
    · decide
  have HML := Lib.hid hml
  have HG := Lib.hid (getCounts_of_put (l := l))
  clear hb hml
  cases hp : (putCounts l).isSome
  all_goals
    have HPS := Lib.hid hp
    clear hp
    go_enter Tryd.func5, Tryd.ntmps5
    go_wp2_with fail
    refine (new_any _).mono ?_
    rintro e w1 ⟨t, rfl, htB, ht1, u1⟩
    have HT1 := Lib.hid ht1
    have U1 := Lib.hid u1
    clear ht1 u1
    go_wp2_with fail
    refine (known_any HT1.out).mono ?_
    rintro e w2 ⟨rfl, ht2, u2⟩
    have U2 := Lib.hid (U1.out.step u2 (fun x hx => .inr (by simp at hx; omega)))
    clear ht2 u2 HT1
    go_wp2_with fail
    refine (putCounts_any (cap := cap) (HI.out _ U2.out) (by omega)).mono ?_
    rintro e w3 ⟨⟨va, rfl, hva⟩, u3⟩
    rw [HPS.out]
    have HVA := Lib.hid hva
    have U3 := Lib.hid (U2.out.trans u3)
    clear u3 hva
    go_wp2_with fail
    refine (rputCounts_any (cap := cap) (HI.out _ U3.out) hl).mono ?_
    rintro e w4 ⟨⟨vb, rfl, hvb⟩, u4⟩
    rw [HPS.out]
    have HVA4 := Lib.hid (HVA.out.upd u4 (by simp))
    have HVB := Lib.hid hvb
    have U4 := Lib.hid (U3.out.trans u4)
    clear u4 hvb HVA
    simp only [if_true, Bool.false_eq_true, if_false]
    go_wp2_with (go_at_call 18; refine (same_ret HVA4.out HVB.out HML.out HML.out).mono ?_; rw [decide_eq_true rfl]; rintro e w5 ⟨rfl, u5⟩; have U5 := Lib.hid u5; clear u5)
    have hg5 := getCounts_ret (HVA4.out.upd U5.out (by simp))
    rw [HG.out] at hg5
    refine hg5.mono ?_
    rintro e w6 ⟨⟨vc, rfl, hvc⟩, u6⟩
    rw [Option.isSome_map, HPS.out]
    have U6 := Lib.hid ((U4.out.trans U5.out).trans u6)
    have HVC := Lib.hid hvc
    clear hg5 u6 hvc
  · go_wp2
    go_ret
    exact ⟨rfl, U6.out⟩
  · obtain ⟨m, hm⟩ := Option.isSome_iff_exists.1 HPS.out
    have hvc := HVC.out
    rw [hm, Option.map_some, Option.getD_some] at hvc
    obtain ⟨ac, cc, rfl, hic, _, hcc, hcm⟩ := hvc.slice
    have hin := ints_any (cap := cc) (cap' := cap) hic (HI.out _ U6.out) (by omega) (by omega)
    rw [decide_eq_true rfl] at hin
    have HIN := Lib.hid hin
    clear hvc hic hin hm
    go_wp2_with (go_at_call 27; refine HIN.out.mono ?_; rintro e w7 ⟨rfl, u7⟩; have U7 := Lib.hid u7; clear u7)
    go_ret
    exact ⟨rfl, U6.out.trans U7.out⟩
end Go.Proofs.YtkahpkmofeglgaaDoor
