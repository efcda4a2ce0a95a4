/-
  PROVED HERE: the walk of the statement CodecCatalogue returns true. Conditions: the stack and the volumes can be read.
-/
import Derived.Test.YtkahpkmofeglgaaDoorCatG
import Derived.Test.YtkahpkmofeglgaaDoorCatR
import Derived.Test.YtkahpkmofeglgaaDoorCats
namespace Go.Proofs.YtkahpkmofeglgaaDoor
open Go.RowKit

theorem rputCat_any {w : World} {a a' : Option Addr} {cap cap' : Nat} {c : Cat} (hb : IsVols w a c.vols) (hb' : IsInts w a' c.stack) (hl : c.vols.length ≤ 9223372036854775807) (hl' : c.stack.length ≤ 9223372036854775807) :
    Calls Tryd.prog 41 #[catV c (.slice a c.vols.length cap) (.slice a' c.stack.length cap')] w fun e w' => PutOut w.heap.size (putCat c) e w' ∧ Upd [] w w' := by
  cases ho : okCat0 c
  · exact rputCat_no c ho hl hl'
  · exact rputCat_yes hb hb' ho
theorem getCat_ret {w : World} {B : Nat} {v : Value} {l : List Nat} (h : IsRet w B v l) :
    Calls Tryd.prog 42 #[v] w fun e w' => CatRes w.heap.size (getCat l) e w' ∧ Upd [] w w' := by
  obtain ⟨a, c, rfl, hb, hB', hc, hm⟩ := h.slice
  exact getCat_any hb hc hm
theorem catRes_none {B : Nat} {e : Ending} {w' : World} (h : CatRes B none e w') : ∃ a n c a' n' c', e = .returned (.tuple #[.agg #[.int .i64 0, .slice a n c, .slice a' n' c'], .bool false]) := by
  obtain ⟨v, u, rfl, hv, hu⟩ := h
  obtain ⟨a, c, rfl, _⟩ := hv.slice
  obtain ⟨a', c', rfl, _⟩ := hu.slice
  exact ⟨a, _, c, a', _, c', rfl⟩
theorem catRes_some {B : Nat} {n : Cat} {e : Ending} {w' : World} (hr : CatRes B (some n) e w') : ∃ a c a' c', e = .returned (.tuple #[.agg #[.int .i64 n.next, .slice a n.vols.length c, .slice a' n.stack.length c'], .bool true]) ∧ IsVols w' a n.vols ∧ IsInts w' a' n.stack := by
  obtain ⟨v, u, rfl, hv, hu⟩ := hr
  obtain ⟨a, c, rfl, hb⟩ := hv.slice
  obtain ⟨a', c', rfl, hb', _⟩ := hu.slice
  exact ⟨a, c, a', c', rfl, hb, hb'⟩
set_option maxRecDepth 100000 in
set_option maxHeartbeats 6400000 in
theorem codecCat_none {w : World} {a a' : Option Addr} {cap cap' : Nat} (n : Cat) (hb : IsVols w a n.vols) (hb' : IsInts w a' n.stack) (hl : n.vols.length ≤ 9223372036854775807) (hl' : n.stack.length ≤ 9223372036854775807) (ho : okCat n = false) :
    Calls Tryd.prog 10 #[catV n (.slice a n.vols.length cap) (.slice a' n.stack.length cap')] w fun e w' => e = .returned (.bool true) ∧ Upd [] w w' := by
  have HC := Lib.hid (heap_alloc_new w (.cells #[.int .i64 n.next, .slice a n.vols.length cap, .slice a' n.stack.length cap'] 75))
  have HB : Hid (∀ w', Upd [] w w' → IsVols w' a n.vols) := fun w' u => hb.upd u (by simp)
  have HB' : Hid (∀ w', Upd [] w w' → IsInts w' a' n.stack) := fun w' u => hb'.upd u (by simp)
  have hpn : putCat n = none := by unfold putCat; rw [ho]; simp
  have HPN := Lib.hid hpn
  have HGN := Lib.hid getCat_nil
  have HL := Lib.hid hl
  have HL' := Lib.hid hl'
  clear hb hb' ho hpn hl hl'
  rw [show catV n (.slice a n.vols.length cap) (.slice a' n.stack.length cap') = .agg #[.int .i64 n.next, .slice a n.vols.length cap, .slice a' n.stack.length cap'] from rfl]
  go_enter Tryd.func10, Tryd.ntmps10
  go_wp2_with fail
  refine (new_any _).mono ?_
  rintro e w1 ⟨t, rfl, htB, ht1, u1⟩
  simp at htB
  have HX1 := Lib.hid (u1.get HC.out (by simp))
  have HT1 := Lib.hid ht1
  have U1 := Lib.hid (((Upd.refl [] w).alloc _).trans u1)
  clear ht1 u1
  go_wp2_with fail
  refine (known_any HT1.out).mono ?_
  rintro e w2 ⟨rfl, ht2, u2⟩
  have HX2 := Lib.hid (u2.get HX1.out (by simp; omega))
  have U2 := Lib.hid (U1.out.step u2 (fun x hx => .inr (by simp at hx; omega)))
  clear ht2 u2 HX1 HT1
  go_wp2_with (refine wpList_load_all rfl 75 (.tmp 1) rfl w.heap.size 3 rfl _ _ _ _ HX2.out Tryd.underlying75 rfl infoCat rfl ?_)
  refine (putCat_any (c := n) (cap := cap) (cap' := cap') (HB.out _ U2.out) (HB'.out _ U2.out) HL.out HL'.out).mono ?_
  rintro e w3 ⟨hp3, u3⟩
  rw [HPN.out] at hp3
  obtain ⟨va, rfl, hva⟩ := hp3
  have HX3 := Lib.hid (u3.get HX2.out (by simp))
  have HVA := Lib.hid hva
  have U3 := Lib.hid (U2.out.trans u3)
  clear u3 hva HX2
  simp only [Option.isSome_none, Bool.false_eq_true, if_false, Option.getD_none] at HVA ⊢
  go_wp2_with (refine wpList_load_all rfl 75 (.tmp 1) rfl w.heap.size 3 rfl _ _ _ _ HX3.out Tryd.underlying75 rfl infoCat rfl ?_)
  refine (rputCat_any (c := n) (cap := cap) (cap' := cap') (HB.out _ U3.out) (HB'.out _ U3.out) HL.out HL'.out).mono ?_
  rintro e w4 ⟨hp, u4⟩
  rw [HPN.out] at hp
  obtain ⟨vb, rfl, hvb⟩ := hp
  have HVA4 := Lib.hid (HVA.out.upd u4 (by simp))
  have HVB := Lib.hid hvb
  have U4 := Lib.hid (U3.out.trans u4)
  clear u4 hvb HX3 HVA
  simp only [Option.isSome_none, Bool.false_eq_true, if_false, Option.getD_none] at HVB ⊢
  go_wp2_with (go_at_call 18; refine (same_ret HVA4.out HVB.out (by decide) (by decide)).mono ?_; rw [decide_eq_true rfl]; rintro e w6 ⟨rfl, u6⟩; have U6 := Lib.hid u6; clear u6)
  have hg := getCat_ret (HVA4.out.upd U6.out (by simp))
  rw [HGN.out] at hg
  refine hg.mono ?_
  rintro e w7 ⟨h7, u7⟩
  obtain ⟨a7, n7, c7, b7, m7, d7, rfl⟩ := catRes_none h7
  have U7 := Lib.hid ((U4.out.trans U6.out).trans u7)
  clear hg h7 u7
  go_wp2
  go_ret
  exact ⟨rfl, U7.out.alloc _⟩
set_option maxRecDepth 100000 in
set_option maxHeartbeats 6400000 in
theorem codecCat_some {w : World} {a a' : Option Addr} {cap cap' : Nat} (n : Cat) (hb : IsVols w a n.vols) (hb' : IsInts w a' n.stack) (ho : okCat n = true) :
    Calls Tryd.prog 10 #[catV n (.slice a n.vols.length cap) (.slice a' n.stack.length cap')] w fun e w' => e = .returned (.bool true) ∧ Upd [] w w' := by
  obtain ⟨h0, hp, hv⟩ := okCat_parts ho
  obtain ⟨_, h8, he⟩ := okCat0_parts h0
  have HC := Lib.hid (heap_alloc_new w (.cells #[.int .i64 n.next, .slice a n.vols.length cap, .slice a' n.stack.length cap'] 75))
  have HB : Hid (∀ w', Upd [] w w' → IsVols w' a n.vols) := fun w' u => hb.upd u (by simp)
  have HB' : Hid (∀ w', Upd [] w w' → IsInts w' a' n.stack) := fun w' u => hb'.upd u (by simp)
  have HPN := Lib.hid (putCat_some h0 hp hv)
  have hgn := getCat_of_put (c := n)
  rw [putCat_some h0 hp hv, ho, if_pos rfl, Option.getD_some] at hgn
  have HGN := Lib.hid hgn
  have hfl : (pad (catBytes n) 240).length = 240 := pad_len (by rw [catBytes_len h8 he]; decide)
  have HFL := Lib.hid hfl
  have HL := Lib.hid (show n.vols.length ≤ 9223372036854775807 by omega)
  have HL' := Lib.hid (show n.stack.length ≤ 9223372036854775807 by omega)
  clear hb hb' ho h0 hp hv he h8 hgn hfl
  generalize pad (catBytes n) 240 = m at HPN HGN HFL
  rw [show catV n (.slice a n.vols.length cap) (.slice a' n.stack.length cap') = .agg #[.int .i64 n.next, .slice a n.vols.length cap, .slice a' n.stack.length cap'] from rfl]
  go_enter Tryd.func10, Tryd.ntmps10
  go_wp2_with fail
  refine (new_any _).mono ?_
  rintro e w1 ⟨t, rfl, htB, ht1, u1⟩
  simp at htB
  have HX1 := Lib.hid (u1.get HC.out (by simp))
  have HT1 := Lib.hid ht1
  have U1 := Lib.hid (((Upd.refl [] w).alloc _).trans u1)
  clear ht1 u1
  go_wp2_with fail
  refine (known_any HT1.out).mono ?_
  rintro e w2 ⟨rfl, ht2, u2⟩
  have HX2 := Lib.hid (u2.get HX1.out (by simp; omega))
  have U2 := Lib.hid (U1.out.step u2 (fun x hx => .inr (by simp at hx; omega)))
  clear ht2 u2 HX1 HT1
  go_wp2_with (refine wpList_load_all rfl 75 (.tmp 1) rfl w.heap.size 3 rfl _ _ _ _ HX2.out Tryd.underlying75 rfl infoCat rfl ?_)
  refine (putCat_any (c := n) (cap := cap) (cap' := cap') (HB.out _ U2.out) (HB'.out _ U2.out) HL.out HL'.out).mono ?_
  rintro e w3 ⟨hp3, u3⟩
  rw [HPN.out] at hp3
  obtain ⟨va, rfl, hva⟩ := hp3
  have HX3 := Lib.hid (u3.get HX2.out (by simp))
  have HVA := Lib.hid hva
  have U3 := Lib.hid (U2.out.trans u3)
  clear u3 hva HX2
  simp only [Option.isSome_some, if_true, Option.getD_some] at HVA ⊢
  go_wp2_with (refine wpList_load_all rfl 75 (.tmp 1) rfl w.heap.size 3 rfl _ _ _ _ HX3.out Tryd.underlying75 rfl infoCat rfl ?_)
  refine (rputCat_any (c := n) (cap := cap) (cap' := cap') (HB.out _ U3.out) (HB'.out _ U3.out) HL.out HL'.out).mono ?_
  rintro e w4 ⟨hp, u4⟩
  rw [HPN.out] at hp
  obtain ⟨vb, rfl, hvb⟩ := hp
  have HX4 := Lib.hid (u4.get HX3.out (by simp))
  have HVA4 := Lib.hid (HVA.out.upd u4 (by simp))
  have HVB := Lib.hid hvb
  have U4 := Lib.hid (U3.out.trans u4)
  clear u4 hvb HX3 HVA
  simp only [Option.isSome_some, if_true, Option.getD_some] at HVB ⊢
  go_wp2_with (go_at_call 18; refine (same_ret HVA4.out HVB.out (by rw [HFL.out]; decide) (by rw [HFL.out]; decide)).mono ?_; rw [decide_eq_true rfl]; rintro e w6 ⟨rfl, u6⟩; have U6 := Lib.hid u6; clear u6)
  have HX6 := Lib.hid (U6.out.get HX4.out (by simp))
  have hva6 := HVA4.out.upd U6.out (by simp)
  have hg := getCat_ret hva6
  rw [HGN.out] at hg
  obtain ⟨aa, ca, rfl, _, _, _, _⟩ := hva6.slice
  rw [HFL.out] at hg ⊢
  refine hg.mono ?_
  rintro e w7 ⟨h7, u7⟩
  obtain ⟨a7, c7, b7, d7, rfl, hk7, hv7⟩ := catRes_some h7
  have hu8 := u7.alloc (.cells #[.int .i64 n.next, .slice a7 n.vols.length c7, .slice b7 n.stack.length d7] 75)
  have U8 := Lib.hid ((U4.out.trans U6.out).trans hu8)
  have hx8 := hu8.get HX6.out (by simp)
  have hy8 := heap_alloc_new w7 (.cells #[.int .i64 n.next, .slice a7 n.vols.length c7, .slice b7 n.stack.length d7] 75)
  have hp8 := (cats_any (c := n) (d := n) (cap := c7) (cap' := d7) (dap := cap) (dap' := cap') (hk7.upd ((Upd.refl [] w7).alloc (.cells #[.int .i64 n.next, .slice a7 n.vols.length c7, .slice b7 n.stack.length d7] 75)) (by simp)) (hv7.upd ((Upd.refl [] w7).alloc _) (by simp)) (HB.out _ U8.out) (HB'.out _ U8.out) HL.out HL'.out HL.out HL'.out)
  rw [decide_eq_true rfl] at hp8
  have HP8 := Lib.hid hp8
  clear hp8
  have HX8 := Lib.hid hx8
  have HY8 := Lib.hid hy8
  clear hu8 hx8 hy8 h7 u7 hk7 hv7 hva6 hg
  obtain ⟨e0, e1, e2⟩ := cells3 HX8.out
  obtain ⟨f0, f1, f2⟩ := cells3 HY8.out
  go_wp2_with (go_at_call 40; refine HP8.out.mono ?_; rintro e w9 ⟨rfl, u9⟩; have U9 := Lib.hid u9; clear u9)
  go_ret
  exact ⟨rfl, U8.out.trans U9.out⟩
end Go.Proofs.YtkahpkmofeglgaaDoor
