/-
  PROVED HERE: the walk of the statement CodecNode returns true. Conditions: the keys and the values can be read.
-/
import Derived.Test.YtkahpkmofeglgaaDoorNodeG
import Derived.Test.YtkahpkmofeglgaaDoorNodeR
import Derived.Test.YtkahpkmofeglgaaDoorLawImage
namespace Go.Proofs.YtkahpkmofeglgaaDoor
open Go.RowKit

theorem putNode_any {w : World} {a a' : Option Addr} {cap cap' : Nat} {n : Nd} (hb : IsInts w a n.keys) (hb' : IsInts w a' n.vals) (hl : n.keys.length ≤ 9223372036854775807) (hl' : n.vals.length ≤ 9223372036854775807) :
    Calls Tryd.prog 35 #[nodeV n (.slice a n.keys.length cap) (.slice a' n.vals.length cap')] w fun e w' => PutOut w.heap.size (putNode n) e w' ∧ Upd [] w w' := by
  cases ho : okNode0 n
  · exact putNode_no n ho hl hl'
  · exact putNode_yes hb hb' ho
theorem rputNode_any {w : World} {a a' : Option Addr} {cap cap' : Nat} {n : Nd} (hb : IsInts w a n.keys) (hb' : IsInts w a' n.vals) (hl : n.keys.length ≤ 9223372036854775807) (hl' : n.vals.length ≤ 9223372036854775807) :
    Calls Tryd.prog 36 #[nodeV n (.slice a n.keys.length cap) (.slice a' n.vals.length cap')] w fun e w' => PutOut w.heap.size (putNode n) e w' ∧ Upd [] w w' := by
  cases ho : okNode0 n
  · exact rputNode_no n ho hl hl'
  · exact rputNode_yes hb hb' ho
theorem getNode_ret {w : World} {B : Nat} {v : Value} {l : List Nat} (h : IsRet w B v l) :
    Calls Tryd.prog 37 #[v] w fun e w' => NodeRes w.heap.size (getNode l) e w' ∧ Upd [] w w' := by
  obtain ⟨a, c, rfl, hb, hB', hc, hm⟩ := h.slice
  exact getNode_any hb hc hm
theorem nodeRes_none {B : Nat} {e : Ending} {w' : World} (h : NodeRes B none e w') : ∃ a n c a' n' c', e = .returned (.tuple #[.agg #[.bool false, .slice a n c, .slice a' n' c'], .bool false]) := by
  obtain ⟨v, u, rfl, hv, hu, _⟩ := h
  obtain ⟨a, c, rfl, _⟩ := hv.slice
  obtain ⟨a', c', rfl, _⟩ := hu.slice
  exact ⟨a, _, c, a', _, c', rfl⟩
theorem nodeRes_some {B : Nat} {n : Nd} {e : Ending} {w' : World} (hr : NodeRes B (some n) e w') : ∃ a c a' c', e = .returned (.tuple #[.agg #[.bool n.leaf, .slice a n.keys.length c, .slice a' n.vals.length c'], .bool true]) ∧ IsInts w' a n.keys ∧ IsInts w' a' n.vals := by
  obtain ⟨v, u, rfl, hv, hu, _⟩ := hr
  obtain ⟨a, c, rfl, hb, _⟩ := hv.slice
  obtain ⟨a', c', rfl, hb', _⟩ := hu.slice
  exact ⟨a, c, a', c', rfl, hb, hb'⟩
set_option maxRecDepth 100000 in
set_option maxHeartbeats 1600000 in
theorem nodes_same {w : World} {a a' b b' : Option Addr} {n : Nd} {cap cap' dap dap' : Nat} (ha : IsInts w a n.keys) (ha' : IsInts w a' n.vals) (hb : IsInts w b n.keys) (hb' : IsInts w b' n.vals) (hl : n.keys.length ≤ 9223372036854775807) (hl' : n.vals.length ≤ 9223372036854775807) :
    Calls Tryd.prog 38 #[nodeV n (.slice a n.keys.length cap) (.slice a' n.vals.length cap'), nodeV n (.slice b n.keys.length dap) (.slice b' n.vals.length dap')] w fun e w' => e = .returned (.bool true) ∧ Upd [] w w' := by
  obtain ⟨lf, ks, vs⟩ := n
  simp only at ha ha' hb hb' hl hl'
  unfold nodeV
  simp only
  have hu := ((Upd.refl [] w).alloc (.cells #[.bool lf, .slice a ks.length cap, .slice a' vs.length cap'] 67)).alloc (.cells #[.bool lf, .slice b ks.length dap, .slice b' vs.length dap'] 67)
  have HU := Lib.hid hu
  have hs := ints_any (cap := cap) (cap' := dap) (ha.upd hu (by simp)) (hb.upd hu (by simp)) hl hl
  rw [decide_eq_true rfl] at hs
  have HS := Lib.hid hs
  have hx0 := ((Upd.refl [] _).alloc (.cells #[.bool lf, .slice b ks.length dap, .slice b' vs.length dap'] 67)).get (heap_alloc_new w (.cells #[.bool lf, .slice a ks.length cap, .slice a' vs.length cap'] 67)) (by simp)
  have hx1 := heap_alloc_new (w.alloc (.cells #[.bool lf, .slice a ks.length cap, .slice a' vs.length cap'] 67)) (.cells #[.bool lf, .slice b ks.length dap, .slice b' vs.length dap'] 67)
  rw [show (w.alloc (.cells #[.bool lf, .slice a ks.length cap, .slice a' vs.length cap'] 67)).heap.size = w.heap.size + 1 by simp] at hx1
  have HX0 := Lib.hid hx0
  have HX1 := Lib.hid hx1
  have HA : Hid (∀ w', Upd [] w w' → IsInts w' a' vs) := fun w' u => ha'.upd u (by simp)
  have HB : Hid (∀ w', Upd [] w w' → IsInts w' b' vs) := fun w' u => hb'.upd u (by simp)
  clear ha ha' hb hb' hu hs hx0 hx1
  go_enter Tryd.func38, Tryd.ntmps38
  cases lf
  all_goals
    go_wp2_with fail
    refine HS.out.mono ?_
    rintro e w1 ⟨rfl, u1⟩
    have U1 := Lib.hid (HU.out.trans u1)
    have hs2 := ints_any (cap := cap') (cap' := dap') (HA.out _ U1.out) (HB.out _ U1.out) hl' hl'
    rw [decide_eq_true rfl] at hs2
    have HS2 := Lib.hid hs2
    obtain ⟨_, _, q2⟩ := cells3 (u1.get HX0.out (by simp))
    obtain ⟨_, _, r2⟩ := cells3 (u1.get HX1.out (by simp))
    clear hs2 u1
    go_wp2_with fail
    refine HS2.out.mono ?_
    rintro e w2 ⟨rfl, u2⟩
    have U2 := Lib.hid (U1.out.trans u2)
    clear u2
    go_wp2
    go_ret
    exact ⟨rfl, U2.out⟩
set_option maxRecDepth 100000 in
set_option maxHeartbeats 6400000 in
theorem codecNode_none {w : World} {a a' : Option Addr} {cap cap' : Nat} (n : Nd) (hb : IsInts w a n.keys) (hb' : IsInts w a' n.vals) (hl : n.keys.length ≤ 9223372036854775807) (hl' : n.vals.length ≤ 9223372036854775807) (ho : okNode n = false) :
    Calls Tryd.prog 8 #[nodeV n (.slice a n.keys.length cap) (.slice a' n.vals.length cap')] w fun e w' => e = .returned (.bool true) ∧ Upd [] w w' := by
  have HC := Lib.hid (heap_alloc_new w (.cells #[.bool n.leaf, .slice a n.keys.length cap, .slice a' n.vals.length cap'] 67))
  have HB : Hid (∀ w', Upd [] w w' → IsInts w' a n.keys) := fun w' u => hb.upd u (by simp)
  have HB' : Hid (∀ w', Upd [] w w' → IsInts w' a' n.vals) := fun w' u => hb'.upd u (by simp)
  have hpn : putNode n = none := by unfold putNode; rw [ho]; simp
  have HPN := Lib.hid hpn
  have HGN := Lib.hid getNode_nil
  have HL := Lib.hid hl
  have HL' := Lib.hid hl'
  clear hb hb' ho hpn hl hl'
  rw [show nodeV n (.slice a n.keys.length cap) (.slice a' n.vals.length cap') = .agg #[.bool n.leaf, .slice a n.keys.length cap, .slice a' n.vals.length cap'] from rfl]
  go_enter Tryd.func8, Tryd.ntmps8
  go_wp2_with fail
  refine (new_any _).mono ?_
  rintro e w1 ⟨t, rfl, htB, ht1, u1⟩
  simp at htB
  have HX1 := Lib.hid (u1.get HC.out (by simp))
  have HT1 := Lib.hid ht1
  have U1 := Lib.hid (((Upd.refl [] w).alloc _).trans u1)
  clear ht1 u1
  go_wp2_with fail
  refine (known_any HT1.out).mono ?_
  rintro e w2 ⟨rfl, ht2, u2⟩
  have HX2 := Lib.hid (u2.get HX1.out (by simp; omega))
  have U2 := Lib.hid (U1.out.step u2 (fun x hx => .inr (by simp at hx; omega)))
  clear ht2 u2 HX1 HT1
  go_wp2_with (refine wpList_load_all rfl 67 (.tmp 1) rfl w.heap.size 3 rfl _ _ _ _ HX2.out Tryd.underlying67 rfl infoNode rfl ?_)
  refine (putNode_any (n := n) (cap := cap) (cap' := cap') (HB.out _ U2.out) (HB'.out _ U2.out) HL.out HL'.out).mono ?_
  rintro e w3 ⟨hp3, u3⟩
  rw [HPN.out] at hp3
  obtain ⟨va, rfl, hva⟩ := hp3
  have HX3 := Lib.hid (u3.get HX2.out (by simp))
  have HVA := Lib.hid hva
  have U3 := Lib.hid (U2.out.trans u3)
  clear u3 hva HX2
  simp only [Option.isSome_none, Bool.false_eq_true, if_false, Option.getD_none] at HVA ⊢
  go_wp2_with (refine wpList_load_all rfl 67 (.tmp 1) rfl w.heap.size 3 rfl _ _ _ _ HX3.out Tryd.underlying67 rfl infoNode rfl ?_)
  refine (rputNode_any (n := n) (cap := cap) (cap' := cap') (HB.out _ U3.out) (HB'.out _ U3.out) HL.out HL'.out).mono ?_
  rintro e w4 ⟨hp, u4⟩
  rw [HPN.out] at hp
  obtain ⟨vb, rfl, hvb⟩ := hp
  have HVA4 := Lib.hid (HVA.out.upd u4 (by simp))
  have HVB := Lib.hid hvb
  have U4 := Lib.hid (U3.out.trans u4)
  clear u4 hvb HX3 HVA
  simp only [Option.isSome_none, Bool.false_eq_true, if_false, Option.getD_none] at HVB ⊢
  go_wp2_with (go_at_call 18; refine (same_ret HVA4.out HVB.out (by decide) (by decide)).mono ?_; rw [decide_eq_true rfl]; rintro e w6 ⟨rfl, u6⟩; have U6 := Lib.hid u6; clear u6)
  have hg := getNode_ret (HVA4.out.upd U6.out (by simp))
  rw [HGN.out] at hg
  refine hg.mono ?_
  rintro e w7 ⟨h7, u7⟩
  obtain ⟨a7, n7, c7, b7, m7, d7, rfl⟩ := nodeRes_none h7
  have U7 := Lib.hid ((U4.out.trans U6.out).trans u7)
  clear hg h7 u7
  go_wp2
  go_ret
  exact ⟨rfl, U7.out.alloc _⟩
set_option maxRecDepth 100000 in
set_option maxHeartbeats 6400000 in
theorem codecNode_some {w : World} {a a' : Option Addr} {cap cap' : Nat} (n : Nd) (hb : IsInts w a n.keys) (hb' : IsInts w a' n.vals) (ho : okNode n = true) :
    Calls Tryd.prog 8 #[nodeV n (.slice a n.keys.length cap) (.slice a' n.vals.length cap')] w fun e w' => e = .returned (.bool true) ∧ Upd [] w w' := by
  obtain ⟨h0, hp⟩ := okNode_parts ho
  obtain ⟨he, h8⟩ := okNode0_parts h0
  have HC := Lib.hid (heap_alloc_new w (.cells #[.bool n.leaf, .slice a n.keys.length cap, .slice a' n.vals.length cap'] 67))
  have HB : Hid (∀ w', Upd [] w w' → IsInts w' a n.keys) := fun w' u => hb.upd u (by simp)
  have HB' : Hid (∀ w', Upd [] w w' → IsInts w' a' n.vals) := fun w' u => hb'.upd u (by simp)
  have HPN := Lib.hid (putNode_some h0 hp)
  have hgn := getNode_of_put (n := n)
  rw [putNode_some h0 hp, ho, if_pos rfl, Option.getD_some] at hgn
  have HGN := Lib.hid hgn
  have hfl : (pad (nodeBytes n) 240).length = 240 := pad_len (by rw [nodeBytes_len h0]; omega)
  have HFL := Lib.hid hfl
  have HL := Lib.hid (show n.keys.length ≤ 9223372036854775807 by omega)
  have HL' := Lib.hid (show n.vals.length ≤ 9223372036854775807 by omega)
  clear hb hb' ho h0 hp he h8 hgn hfl
  generalize pad (nodeBytes n) 240 = m at HPN HGN HFL
  rw [show nodeV n (.slice a n.keys.length cap) (.slice a' n.vals.length cap') = .agg #[.bool n.leaf, .slice a n.keys.length cap, .slice a' n.vals.length cap'] from rfl]
  go_enter Tryd.func8, Tryd.ntmps8
  go_wp2_with fail
  refine (new_any _).mono ?_
  rintro e w1 ⟨t, rfl, htB, ht1, u1⟩
  simp at htB
  have HX1 := Lib.hid (u1.get HC.out (by simp))
  have HT1 := Lib.hid ht1
  have U1 := Lib.hid (((Upd.refl [] w).alloc _).trans u1)
  clear ht1 u1
  go_wp2_with fail
  refine (known_any HT1.out).mono ?_
  rintro e w2 ⟨rfl, ht2, u2⟩
  have HX2 := Lib.hid (u2.get HX1.out (by simp; omega))
  have U2 := Lib.hid (U1.out.step u2 (fun x hx => .inr (by simp at hx; omega)))
  clear ht2 u2 HX1 HT1
  go_wp2_with (refine wpList_load_all rfl 67 (.tmp 1) rfl w.heap.size 3 rfl _ _ _ _ HX2.out Tryd.underlying67 rfl infoNode rfl ?_)
  refine (putNode_any (n := n) (cap := cap) (cap' := cap') (HB.out _ U2.out) (HB'.out _ U2.out) HL.out HL'.out).mono ?_
  rintro e w3 ⟨hp3, u3⟩
  rw [HPN.out] at hp3
  obtain ⟨va, rfl, hva⟩ := hp3
  have HX3 := Lib.hid (u3.get HX2.out (by simp))
  have HVA := Lib.hid hva
  have U3 := Lib.hid (U2.out.trans u3)
  clear u3 hva HX2
  simp only [Option.isSome_some, if_true, Option.getD_some] at HVA ⊢
  go_wp2_with (refine wpList_load_all rfl 67 (.tmp 1) rfl w.heap.size 3 rfl _ _ _ _ HX3.out Tryd.underlying67 rfl infoNode rfl ?_)
  refine (rputNode_any (n := n) (cap := cap) (cap' := cap') (HB.out _ U3.out) (HB'.out _ U3.out) HL.out HL'.out).mono ?_
  rintro e w4 ⟨hp, u4⟩
  rw [HPN.out] at hp
  obtain ⟨vb, rfl, hvb⟩ := hp
  have HX4 := Lib.hid (u4.get HX3.out (by simp))
  have HVA4 := Lib.hid (HVA.out.upd u4 (by simp))
  have HVB := Lib.hid hvb
  have U4 := Lib.hid (U3.out.trans u4)
  clear u4 hvb HX3 HVA
  simp only [Option.isSome_some, if_true, Option.getD_some] at HVB ⊢
  go_wp2_with (go_at_call 18; refine (same_ret HVA4.out HVB.out (by rw [HFL.out]; decide) (by rw [HFL.out]; decide)).mono ?_; rw [decide_eq_true rfl]; rintro e w6 ⟨rfl, u6⟩; have U6 := Lib.hid u6; clear u6)
  have HX6 := Lib.hid (U6.out.get HX4.out (by simp))
  have hva6 := HVA4.out.upd U6.out (by simp)
  have hg := getNode_ret hva6
  rw [HGN.out] at hg
  obtain ⟨aa, ca, rfl, _, _, _, _⟩ := hva6.slice
  rw [HFL.out] at hg ⊢
  refine hg.mono ?_
  rintro e w7 ⟨h7, u7⟩
  obtain ⟨a7, c7, b7, d7, rfl, hk7, hv7⟩ := nodeRes_some h7
  have hu8 := u7.alloc (.cells #[.bool n.leaf, .slice a7 n.keys.length c7, .slice b7 n.vals.length d7] 67)
  have U8 := Lib.hid ((U4.out.trans U6.out).trans hu8)
  have hx8 := hu8.get HX6.out (by simp)
  have hy8 := heap_alloc_new w7 (.cells #[.bool n.leaf, .slice a7 n.keys.length c7, .slice b7 n.vals.length d7] 67)
  have HP8 := Lib.hid (nodes_same (cap := c7) (cap' := d7) (dap := cap) (dap' := cap') (hk7.upd ((Upd.refl [] w7).alloc (.cells #[.bool n.leaf, .slice a7 n.keys.length c7, .slice b7 n.vals.length d7] 67)) (by simp)) (hv7.upd ((Upd.refl [] w7).alloc _) (by simp)) (HB.out _ U8.out) (HB'.out _ U8.out) HL.out HL'.out)
  have HX8 := Lib.hid hx8
  have HY8 := Lib.hid hy8
  clear hu8 hx8 hy8 h7 u7 hk7 hv7 hva6 hg
  obtain ⟨e0, e1, e2⟩ := cells3 HX8.out
  obtain ⟨f0, f1, f2⟩ := cells3 HY8.out
  go_wp2_with (go_at_call 38; refine HP8.out.mono ?_; rintro e w9 ⟨rfl, u9⟩; have U9 := Lib.hid u9; clear u9)
  go_ret
  exact ⟨rfl, U8.out.trans U9.out⟩
end Go.Proofs.YtkahpkmofeglgaaDoor
