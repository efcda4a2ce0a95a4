/-
  PROVED HERE: the walk of the statement CodecSuper returns true. Conditions: none.
-/
import Derived.Test.YtkahpkmofeglgaaDoorKnown
namespace Go.Proofs.YtkahpkmofeglgaaDoor
open Go.RowKit

theorem same_ret {w : World} {B B' : Nat} {v v' : Value} {l l' : List Nat} (h : IsRet w B v l) (h' : IsRet w B' v' l') (hl : l.length ≤ 9223372036854775807) (hl' : l'.length ≤ 9223372036854775807) :
    Calls Tryd.prog 18 #[v, v'] w fun e w' => e = .returned (.bool (decide (l = l'))) ∧ Upd [] w w' := by
  obtain ⟨a, c, rfl, hb, _, _, _⟩ := h.slice
  obtain ⟨a', c', rfl, hb', _, _, _⟩ := h'.slice
  exact same_any hb hb' hl hl'
theorem getSuper_ret {w : World} {t B : Nat} {v : Value} {l : List Nat} (ht : TabOk w t) (h : IsRet w B v l) (hB : t < B) :
    Calls Tryd.prog 19 #[pt t, v] w fun e w' => e = .returned (.tuple #[superV ((getSuper l).getD superNone), .bool (getSuper l).isSome]) ∧ TabOk w' t ∧ Upd [t] w w' := by
  obtain ⟨a, c, rfl, hb, hB', hc, hm⟩ := h.slice
  exact getSuper_any ht hb (fun b o e => by have := hB' b o e; omega) hc hm
theorem getSuper_ret0 {w : World} {B : Nat} {v : Value} {l : List Nat} (h : IsRet w B v l) :
    Calls Tryd.prog 19 #[.pointer none, v] w fun e w' => e = .returned (.tuple #[superV superNone, .bool false]) ∧ Upd [] w w' := by
  obtain ⟨a, c, rfl, hb, hB', hc, hm⟩ := h.slice
  exact getSuper_none (by omega)
set_option maxRecDepth 100000 in
set_option maxHeartbeats 3200000 in
theorem codecSuper_any (w : World) (x0 x1 x2 x3 x4 x5 x6 : Int) :
    Calls Tryd.prog 3 #[.agg #[.int .i64 x0, .int .i64 x1, .int .i64 x2, .int .i64 x3, .int .i64 x4, .int .i64 x5, .int .i64 x6]] w fun e w' => e = .returned (.bool true) ∧ Upd [] w w' := by
  have hml : ((putSuper [x0, x1, x2, x3, x4, x5, x6]).getD []).length ≤ 9223372036854775807 := by
    unfold putSuper
    split
    · rw [Option.getD_some, frame_len (by rw [superBytes_len]; simp)]; decide
    · decide
  have hg := getSuper_of_put (s := [x0, x1, x2, x3, x4, x5, x6]) rfl
  have hps : (putSuper [x0, x1, x2, x3, x4, x5, x6]).isSome = okSuper [x0, x1, x2, x3, x4, x5, x6] := by unfold putSuper; cases okSuper [x0, x1, x2, x3, x4, x5, x6] <;> rfl
  have HML := Lib.hid hml
  have HG := Lib.hid hg
  have HPS := Lib.hid hps
  have HC := Lib.hid (heap_alloc_new w (.cells #[.int .i64 x0, .int .i64 x1, .int .i64 x2, .int .i64 x3, .int .i64 x4, .int .i64 x5, .int .i64 x6] 23))
  have heq := eqSuper x0 x1 x2 x3 x4 x5 x6 x0 x1 x2 x3 x4 x5 x6
  rw [decide_eq_true rfl] at heq
  have HEQ := Lib.hid heq
  clear hml hg hps heq
  cases hok : okSuper [x0, x1, x2, x3, x4, x5, x6]
  all_goals
    rw [hok] at HG HPS
    simp only [if_true, Bool.false_eq_true, if_false] at HG
    clear hok
    go_enter Tryd.func3, Tryd.ntmps3
    go_wp2_with fail
    refine (new_any _).mono ?_
    rintro e w1 ⟨t, rfl, htB, ht1, u1⟩
    simp at htB
    have HX1 := Lib.hid (u1.get HC.out (by simp))
    have HT1 := Lib.hid ht1
    have U1 := Lib.hid (((Upd.refl [] w).alloc _).trans u1)
    clear ht1 u1
    go_wp2_with fail
    refine (known_any HT1.out).mono ?_
    rintro e w2 ⟨rfl, ht2, u2⟩
    have HX2 := Lib.hid (u2.get HX1.out (by simp; omega))
    have HT2 := Lib.hid ht2
    have U2 := Lib.hid (U1.out.step u2 (fun x hx => .inr (by simp at hx; omega)))
    clear ht2 u2 HX1 HT1
    go_wp2_with (refine wpList_load_all rfl 23 (.tmp 1) rfl w.heap.size 7 rfl _ _ _ _ HX2.out Tryd.underlying23 rfl infoSuper rfl ?_)
    refine (putSuper_any HT2.out _ _ _ _ _ _ _).mono ?_
    rintro e w3 ⟨⟨va, rfl, hva⟩, ht3, u3⟩
    rw [HPS.out]
    have hs2 := HT2.out.lt
    have HX3 := Lib.hid (u3.get HX2.out (by simp; omega))
    have HT3 := Lib.hid ht3
    have HVA := Lib.hid hva
    have U3 := Lib.hid (U2.out.step u3 (fun x hx => .inr (by simp at hx; omega)))
    clear ht3 u3 hva HX2 HT2
    go_wp2_with (refine wpList_load_all rfl 23 (.tmp 1) rfl w.heap.size 7 rfl _ _ _ _ HX3.out Tryd.underlying23 rfl infoSuper rfl ?_)
    refine (rputSuper_any _ _ _ _ _ _ _).mono ?_
    rintro e w4 ⟨⟨vb, rfl, hvb⟩, u4⟩
    rw [HPS.out]
    have HX4 := Lib.hid (u4.get HX3.out (by simp))
    have HT4 := Lib.hid (HT3.out.upd u4 (by simp))
    have HVA4 := Lib.hid (HVA.out.upd u4 (by simp))
    have HVB := Lib.hid hvb
    have U4 := Lib.hid (U3.out.trans u4)
    clear u4 hvb HX3 HT3 HVA
    simp only [if_true, Bool.false_eq_true, if_false]
    go_wp2_with (go_at_call 18; refine (same_ret HVA4.out HVB.out HML.out HML.out).mono ?_; rw [decide_eq_true rfl]; rintro e w5 ⟨rfl, u5⟩; have U5 := Lib.hid u5; clear u5)
    have hs4 := HT4.out.lt
    have HX5 := Lib.hid (U5.out.get HX4.out (by simp))
    have hg5 := getSuper_ret (HT4.out.upd U5.out (by simp)) (HVA4.out.upd U5.out (by simp)) hs2
    rw [HG.out] at hg5
    refine hg5.mono ?_
    rintro e w6 ⟨rfl, ht6, u6⟩
    have HX6 := Lib.hid (u6.get HX5.out (by simp; omega))
    have HVA6 := Lib.hid ((HVA4.out.upd U5.out (by simp)).upd u6 (by simp; omega))
    have U6 := Lib.hid ((U4.out.trans U5.out).step u6 (fun x hx => .inr (by simp at hx; omega)))
    clear hg5 ht6 u6 HX4 HX5 HVA4 HVB HT4 U4 U5
    simp only [Option.getD_some, Option.getD_none, Option.isSome_some, Option.isSome_none, superV, superNone, i64s, List.map_cons, List.map_nil]
    go_wp2_with fail
    refine (getSuper_ret0 (HVA6.out.upd ((Upd.refl [] _).alloc _) (by simp))).mono ?_
    rintro e w7 ⟨rfl, u7⟩
    have HX7 := ((Upd.refl [] w7).alloc (.cells #[.int .i64 0, .int .i64 0, .int .i64 0, .int .i64 0, .int .i64 0, .int .i64 0, .int .i64 0] 23)).get (u7.get (((Upd.refl [] _).alloc _).get HX6.out (by simp)) (by simp)) (by simp)
    have HY7 := ((Upd.refl [] w7).alloc (.cells #[.int .i64 0, .int .i64 0, .int .i64 0, .int .i64 0, .int .i64 0, .int .i64 0, .int .i64 0] 23)).get (u7.get (heap_alloc_new w6 _) (by simp)) (by simp)
    obtain ⟨k1, k2⟩ := cells_of HX7
    obtain ⟨m1, m2⟩ := cells_of HY7
    have k10 := k1 0; have k11 := k1 1; have k12 := k1 2; have k13 := k1 3; have k14 := k1 4; have k15 := k1 5; have k16 := k1 6
    have m10 := m1 0; have m11 := m1 1; have m12 := m1 2; have m13 := m1 3; have m14 := m1 4; have m15 := m1 5; have m16 := m1 6
    simp only [List.getElem?_toArray, List.getElem?_cons_zero, List.getElem?_cons_succ] at k10 k11 k12 k13 k14 k15 k16 m10 m11 m12 m13 m14 m15 m16
    have U7 := Lib.hid ((U6.out.alloc _).trans u7)
    have heq := HEQ.out
    clear k1 k2 m1 m2 HX7 HY7 u7 HX6 HVA6 U6
    simp only [superV, superNone, i64s, List.map_cons, List.map_nil]
    go_wp2
    go_ret
    exact ⟨rfl, U7.out.alloc _⟩
end Go.Proofs.YtkahpkmofeglgaaDoor
