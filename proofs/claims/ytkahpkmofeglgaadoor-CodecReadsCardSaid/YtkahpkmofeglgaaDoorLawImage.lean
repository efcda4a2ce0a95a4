/-
  PROVED HERE: the walk of the statement CodecImage returns true. Conditions: the body can be read.
-/
import Derived.Test.YtkahpkmofeglgaaDoorImageG
import Derived.Test.YtkahpkmofeglgaaDoorLawSuper
namespace Go.Proofs.YtkahpkmofeglgaaDoor
open Go.RowKit

theorem pageDecF {k k' : Int} {l l' : List Nat} (h : ¬ k = k') : decide (k = k' ∧ l = l') = false := decide_eq_false fun e => h e.1
set_option maxRecDepth 100000 in
set_option maxHeartbeats 1600000 in
theorem pages_any {w : World} {a a' : Option Addr} {k k' : Int} {l l' : List Nat} {cap cap' : Nat} (hb : IsBytes w a l) (hb' : IsBytes w a' l') (hl : l.length ≤ 9223372036854775807) (hl' : l'.length ≤ 9223372036854775807) :
    Calls Tryd.prog 23 #[.agg #[.int .i64 k, .slice a l.length cap], .agg #[.int .i64 k', .slice a' l'.length cap']] w fun e w' => e = .returned (.bool (decide (k = k' ∧ l = l'))) ∧ Upd [] w w' := by
  have hu := ((Upd.refl [] w).alloc (.cells #[.int .i64 k, .slice a l.length cap] 37)).alloc (.cells #[.int .i64 k', .slice a' l'.length cap'] 37)
  have HU := Lib.hid hu
  have HS := Lib.hid (same_any (cap := cap) (cap' := cap') (hb.upd hu (by simp)) (hb'.upd hu (by simp)) hl hl')
  clear hb hb' hu
  by_cases hk : k = k'
  · subst hk
    go_enter Tryd.func23, Tryd.ntmps23
    go_wp2_with (go_at_call 18; refine HS.out.mono ?_; rintro e w1 ⟨rfl, u1⟩; have U1 := Lib.hid u1; clear u1)
    go_ret
    exact ⟨by simp, HU.out.trans U1.out⟩
  · have HD := Lib.hid (pageDecF (l := l) (l' := l') hk)
    have hk2 : (k == k') = false := by simpa using hk
    have hk3 : decide (k = k') = false := by simpa using hk
    clear hk
    go_enter Tryd.func23, Tryd.ntmps23
    go_wp2
    go_ret
    rw [HD.out]
    exact ⟨rfl, HU.out⟩
theorem getImage_ret {w : World} {t B : Nat} {v : Value} {l : List Nat} (ht : TabOk w t) (h : IsRet w B v l) (hB : t < B) :
    Calls Tryd.prog 22 #[pt t, v] w fun e w' => ImgRes w.heap.size (getImage l) e w' ∧ TabOk w' t ∧ Upd [t] w w' := by
  obtain ⟨a, c, rfl, hb, hB', hc, hm⟩ := h.slice
  exact getImage_any ht hb (fun b o e => by have := hB' b o e; omega) hc hm
theorem getImage_ret0 {w : World} {B : Nat} {v : Value} {l : List Nat} (h : IsRet w B v l) :
    Calls Tryd.prog 22 #[.pointer none, v] w fun e w' => ImgRes w.heap.size none e w' ∧ Upd [] w w' := by
  obtain ⟨a, c, rfl, hb, hB', hc, hm⟩ := h.slice
  exact getImage_none (by omega)
theorem imgRes_none {B : Nat} {e : Ending} {w' : World} (h : ImgRes B none e w') : ∃ a n c, e = .returned (.tuple #[.int .i64 0, .int .i64 0, .agg #[.int .i64 0, .int .i64 0, .slice a n c], .bool false]) := by
  obtain ⟨v, rfl, hv⟩ := h
  obtain ⟨a, c, rfl, _⟩ := hv.slice
  exact ⟨a, _, c, rfl⟩
theorem imgRes_some {B : Nat} {m n : Int} {x : Img} {e : Ending} {w' : World} (h : ImgRes B (some (m, n, x)) e w') : ∃ a c, e = .returned (.tuple #[.int .i64 m, .int .i64 n, .agg #[.int .i64 x.num, .int .i64 x.kind, .slice a x.body.length c], .bool true]) ∧ IsBytes w' a x.body ∧ (∀ b o, a = some ⟨b, o, none⟩ → B ≤ b) := by
  obtain ⟨v, rfl, hv⟩ := h
  obtain ⟨a, c, rfl, hb, hB, _⟩ := hv.slice
  exact ⟨a, c, rfl, hb, hB⟩
/-- A slot holds three cells. -/
theorem cells3 {w : World} {b : Nat} {x y z : Value} {t : TypeId} (h : w.heap[b]? = some (.cells #[x, y, z] t (0, 0))) : w.cell? ⟨b, 0, none⟩ = some x ∧ w.cell? ⟨b, 1, none⟩ = some y ∧ w.cell? ⟨b, 2, none⟩ = some z := by
  obtain ⟨k, _⟩ := cells_of h
  exact ⟨k 0, k 1, k 2⟩
set_option maxRecDepth 100000 in
set_option maxHeartbeats 6400000 in
theorem codecImage_no {w : World} {a : Option Addr} {cap : Nat} (m n : Int) (x : Img) (hb : IsBytes w a x.body) (hl : x.body.length ≤ 9223372036854775807) (ho : okImage m n x = false) :
    Calls Tryd.prog 4 #[imgV x (.slice a x.body.length cap), .int .i64 m, .int .i64 n] w fun e w' => e = .returned (.bool true) ∧ Upd [] w w' := by
  unfold imgV
  have HC := Lib.hid (heap_alloc_new w (.cells #[.int .i64 x.num, .int .i64 x.kind, .slice a x.body.length cap] 39))
  have HB : Hid (∀ w', Upd [] w w' → IsBytes w' a x.body) := fun w' u => hb.upd u (by simp)
  have HO := Lib.hid ho
  have HPN := Lib.hid (putImage_none ho)
  have HGN := Lib.hid getImage_nil
  clear hb ho
  go_enter Tryd.func4, Tryd.ntmps4
  go_wp2_with fail
  refine (new_any _).mono ?_
  rintro e w1 ⟨t, rfl, htB, ht1, u1⟩
  simp at htB
  have HX1 := Lib.hid (u1.get HC.out (by simp))
  have HT1 := Lib.hid ht1
  have U1 := Lib.hid (((Upd.refl [] w).alloc _).trans u1)
  clear ht1 u1
  go_wp2_with fail
  refine (known_any HT1.out).mono ?_
  rintro e w2 ⟨rfl, ht2, u2⟩
  have HX2 := Lib.hid (u2.get HX1.out (by simp; omega))
  have HT2 := Lib.hid ht2
  have U2 := Lib.hid (U1.out.step u2 (fun x hx => .inr (by simp at hx; omega)))
  clear ht2 u2 HX1 HT1
  go_wp2_with (refine wpList_load_all rfl 39 (.tmp 3) rfl w.heap.size 3 rfl _ _ _ _ HX2.out Tryd.underlying39 rfl infoImage rfl ?_)
  refine (putImage_no (t := some ⟨t, 0, none⟩) m n x (.inr ⟨t, rfl, HO.out⟩) hl).mono ?_
  rintro e w3 ⟨rfl, u3⟩
  have HX3 := Lib.hid (u3.get HX2.out (by simp))
  have HT3 := Lib.hid (HT2.out.upd u3 (by simp))
  have U3 := Lib.hid (U2.out.trans u3)
  clear u3 HX2 HT2
  go_wp2_with (refine wpList_load_all rfl 39 (.tmp 3) rfl w.heap.size 3 rfl _ _ _ _ HX3.out Tryd.underlying39 rfl infoImage rfl ?_)
  refine (rputImage_no m n x (HB.out _ U3.out) HO.out hl).mono ?_
  rintro e w4 ⟨hp, u4⟩
  rw [HPN.out] at hp
  obtain ⟨vb, rfl, hvb⟩ := hp
  have HX4 := Lib.hid (u4.get HX3.out (by simp))
  have HT4 := Lib.hid (HT3.out.upd u4 (by simp))
  have HVB := Lib.hid hvb
  have U4 := Lib.hid (U3.out.trans u4)
  clear u4 hvb HX3 HT3
  simp only [Option.isSome_none, Bool.false_eq_true, if_false, Option.getD_none] at HVB ⊢
  go_wp2_with (refine wpList_load_all rfl 39 (.tmp 3) rfl w.heap.size 3 rfl _ _ _ _ HX4.out Tryd.underlying39 rfl infoImage rfl ?_)
  refine (putImage_no (t := none) m n x (.inl rfl) hl).mono ?_
  rintro e w5 ⟨rfl, u5⟩
  have HT5 := Lib.hid (HT4.out.upd u5 (by simp))
  have HVB5 := Lib.hid (HVB.out.upd u5 (by simp))
  have U5 := Lib.hid (U4.out.trans u5)
  clear u5 HX4 HT4 HVB
  go_wp2_with (go_at_call 18; refine (same_ret (IsRet.nil _ 0) HVB5.out (by decide) (by decide)).mono ?_; rw [decide_eq_true rfl]; rintro e w6 ⟨rfl, u6⟩; have U6 := Lib.hid u6; clear u6)
  have HT6 := Lib.hid (HT5.out.upd U6.out (by simp))
  have hg := getImage_ret (B := t + 1) HT6.out (IsRet.nil _ _) (Nat.lt_succ_self t)
  rw [HGN.out] at hg
  refine hg.mono ?_
  rintro e w7 ⟨h7, ht7, u7⟩
  obtain ⟨a7, n7, c7, rfl⟩ := imgRes_none h7
  have U7 := Lib.hid (((U5.out.trans U6.out)).step u7 (fun x hx => .inr (by simp at hx; omega)))
  clear hg h7 ht7 u7
  go_wp2_with fail
  refine (getImage_ret0 (IsRet.nil _ 0)).mono ?_
  rintro e w8 ⟨h8, u8⟩
  obtain ⟨a8, n8, c8, rfl⟩ := imgRes_none h8
  have U8 := Lib.hid ((U7.out.alloc _).trans u8)
  clear h8 u8
  go_wp2
  go_ret
  exact ⟨rfl, U8.out.alloc _⟩
set_option maxRecDepth 100000 in
set_option maxHeartbeats 6400000 in
theorem codecImage_yes {w : World} {a : Option Addr} {cap : Nat} (m n : Int) (x : Img) (hb : IsBytes w a x.body) (ho : okImage m n x = true) :
    Calls Tryd.prog 4 #[imgV x (.slice a x.body.length cap), .int .i64 m, .int .i64 n] w fun e w' => e = .returned (.bool true) ∧ Upd [] w w' := by
  unfold imgV
  have hol : x.body.length = 240 := by
    unfold okImage at ho
    simp only [Bool.and_eq_true] at ho
    exact (okImg_parts ho.1).2.2.2.2
  have HL := Lib.hid hol
  have HC := Lib.hid (heap_alloc_new w (.cells #[.int .i64 x.num, .int .i64 x.kind, .slice a x.body.length cap] 39))
  have HB : Hid (∀ w', Upd [] w w' → IsBytes w' a x.body) := fun w' u => hb.upd u (by simp)
  have HO := Lib.hid ho
  have HPN := Lib.hid (putImage_some ho)
  have hgn := getImage_of_put (e := m) (s := n) hb.1
  rw [putImage_some ho, ho, if_pos rfl, Option.getD_some] at hgn
  have HGN := Lib.hid hgn
  have hfl : (frame (imageBytes m n x)).length = 256 := frame_len (by rw [imageBytes_len, hol]; decide)
  have HFL := Lib.hid hfl
  clear hb ho hol hgn hfl
  go_enter Tryd.func4, Tryd.ntmps4
  go_wp2_with fail
  refine (new_any _).mono ?_
  rintro e w1 ⟨t, rfl, htB, ht1, u1⟩
  simp at htB
  have HX1 := Lib.hid (u1.get HC.out (by simp))
  have HT1 := Lib.hid ht1
  have U1 := Lib.hid (((Upd.refl [] w).alloc _).trans u1)
  clear ht1 u1
  go_wp2_with fail
  refine (known_any HT1.out).mono ?_
  rintro e w2 ⟨rfl, ht2, u2⟩
  have HX2 := Lib.hid (u2.get HX1.out (by simp; omega))
  have HT2 := Lib.hid ht2
  have U2 := Lib.hid (U1.out.step u2 (fun x hx => .inr (by simp at hx; omega)))
  clear ht2 u2 HX1 HT1
  go_wp2_with (refine wpList_load_all rfl 39 (.tmp 3) rfl w.heap.size 3 rfl _ _ _ _ HX2.out Tryd.underlying39 rfl infoImage rfl ?_)
  have hts := HT2.out.lt
  refine (putImage_yes (cap := cap) HT2.out (HB.out _ U2.out) HO.out).mono ?_
  rintro e w3 ⟨⟨ba, rfl, hba, hbk⟩, ht3, u3⟩
  have HX3 := Lib.hid (u3.get HX2.out (by simp; omega))
  have HT3 := Lib.hid ht3
  have HVA := Lib.hid (hbk.ret (B := ba) (Nat.le_refl _) HFL.out (by decide))
  have U3 := Lib.hid (U2.out.step u3 (fun x hx => .inr (by simp at hx; omega)))
  have hbl := hbk.lt
  clear u3 ht3 hbk HX2 HT2
  go_wp2_with (refine wpList_load_all rfl 39 (.tmp 3) rfl w.heap.size 3 rfl _ _ _ _ HX3.out Tryd.underlying39 rfl infoImage rfl ?_)
  refine (rputImage_yes (cap := cap) (HB.out _ U3.out) HO.out).mono ?_
  rintro e w4 ⟨hp, u4⟩
  rw [HPN.out] at hp
  obtain ⟨vb, rfl, hvb⟩ := hp
  have HX4 := Lib.hid (u4.get HX3.out (by simp))
  have HT4 := Lib.hid (HT3.out.upd u4 (by simp))
  have HVA4 := Lib.hid (HVA.out.upd u4 (by simp))
  have HVB := Lib.hid hvb
  have U4 := Lib.hid (U3.out.trans u4)
  clear u4 hvb HX3 HT3 HVA
  simp only [Option.isSome_some, if_true, Option.getD_some] at HVB ⊢
  go_wp2_with (refine wpList_load_all rfl 39 (.tmp 3) rfl w.heap.size 3 rfl _ _ _ _ HX4.out Tryd.underlying39 rfl infoImage rfl ?_)
  refine (putImage_no (t := none) m n x (.inl rfl) (by rw [HL.out]; decide)).mono ?_
  rintro e w5 ⟨rfl, u5⟩
  have HX5 := Lib.hid (u5.get HX4.out (by simp))
  have HT5 := Lib.hid (HT4.out.upd u5 (by simp))
  have HVA5 := Lib.hid (HVA4.out.upd u5 (by simp))
  have HVB5 := Lib.hid (HVB.out.upd u5 (by simp))
  have U5 := Lib.hid (U4.out.trans u5)
  clear u5 HX4 HT4 HVB HVA4
  go_wp2_with (go_at_call 18; refine (same_ret HVA5.out HVB5.out (by rw [HFL.out]; decide) (by rw [HFL.out]; decide)).mono ?_; rw [decide_eq_true rfl]; rintro e w6 ⟨rfl, u6⟩; have U6 := Lib.hid u6; clear u6)
  have HX6 := Lib.hid (U6.out.get HX5.out (by simp))
  have HT6 := Lib.hid (HT5.out.upd U6.out (by simp))
  have HVA6 := Lib.hid (HVA5.out.upd U6.out (by simp))
  have hg := getImage_ret HT6.out HVA6.out (by omega)
  rw [HGN.out] at hg
  refine hg.mono ?_
  rintro e w7 ⟨h7, ht7, u7⟩
  obtain ⟨a7, c7, rfl, hb7, hB7⟩ := imgRes_some h7
  have HX7 := Lib.hid (u7.get HX6.out (by simp; omega))
  have HVA7 := Lib.hid (HVA6.out.upd u7 (by simp; omega))
  have HB7 := Lib.hid hb7
  have U7 := Lib.hid (((U5.out.trans U6.out)).step u7 (fun x hx => .inr (by simp at hx; omega)))
  clear hg h7 ht7 u7 hb7 HX5 HX6 HVA5 HVA6
  go_wp2_with fail
  refine (getImage_ret0 (HVA7.out.upd ((Upd.refl [] _).alloc _) (by simp))).mono ?_
  rintro e w8 ⟨h8, u8⟩
  obtain ⟨a8, n8, c8, rfl⟩ := imgRes_none h8
  have hu8 := ((Upd.refl [] w7).alloc (.cells #[.int .i64 x.num, .int .i64 x.kind, .slice a7 x.body.length c7] 39)).trans u8
  have hx8 := ((Upd.refl [] w8).alloc (.cells #[.int .i64 0, .int .i64 0, .slice a8 n8 c8] 39)).get (hu8.get HX7.out (by simp)) (by simp)
  have hy8 := ((Upd.refl [] w8).alloc (.cells #[.int .i64 0, .int .i64 0, .slice a8 n8 c8] 39)).get (u8.get (heap_alloc_new w7 _) (by simp)) (by simp)
  have U8 := Lib.hid ((U7.out.trans hu8).alloc (.cells #[.int .i64 0, .int .i64 0, .slice a8 n8 c8] 39))
  have HP8 := Lib.hid (pages_any (k := x.kind) (k' := x.kind) (cap := c7) (cap' := cap) (HB7.out.upd (hu8.alloc (.cells #[.int .i64 0, .int .i64 0, .slice a8 n8 c8] 39)) (by simp)) (HB.out _ U8.out) (by rw [HL.out]; decide) (by rw [HL.out]; decide))
  rw [decide_eq_true ⟨rfl, rfl⟩] at HP8
  obtain ⟨e0, e1, e2⟩ := cells3 hx8
  obtain ⟨f0, f1, f2⟩ := cells3 hy8
  clear hu8 hx8 hy8 h8 u8 HX7 HVA7 HB7 U7
  go_wp2_with (go_at_call 23; refine HP8.out.mono ?_; rintro e w9 ⟨rfl, u9⟩; have U9 := Lib.hid u9; clear u9)
  go_ret
  exact ⟨rfl, U8.out.trans U9.out⟩
end Go.Proofs.YtkahpkmofeglgaaDoor
