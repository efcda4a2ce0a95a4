/-
  PROVED HERE: the walk of the statement CodecPage returns true. Conditions: the body can be read.
-/
import Derived.Test.YtkahpkmofeglgaaDoorPageH
import Derived.Test.YtkahpkmofeglgaaDoorLawImage
namespace Go.Proofs.YtkahpkmofeglgaaDoor
open Go.RowKit

theorem getPage_any {w : World} {t : Nat} {a : Option Addr} {l : List Nat} {cap : Nat} (m : Int) (ht : TabOk w t) (hb : IsBytes w a l) (hsep : ∀ b o, a = some ⟨b, o, none⟩ → b ≠ t) (hc : l.length ≤ cap) (hm : cap ≤ 9223372036854775807) :
    Calls Tryd.prog 30 #[pt t, .slice a l.length cap, .int .i64 m] w fun e w' => PageRes w.heap.size (getPage l m) e w' ∧ TabOk w' t ∧ Upd [t] w w' := by
  cases hz : decide (l = zero256)
  · cases hs : soundL l [80, 80, 65, 71]
    · have hg : getPage l m = none := by
        unfold getPage
        rw [hz, hs, Bool.false_and]
        simp only [Bool.false_eq_true, if_false]
      rw [hg]
      exact getPage_unsound m ht hb hsep hc hm hz hs
    · exact getPage_sound m ht hb hsep hc hm hz hs
  · have hg : getPage l m = some (0, []) := by rw [of_decide_eq_true hz]; exact getPage_zero m
    rw [hg]
    exact (getPage_zeros m hb hz).mono fun e w' h => ⟨h.1, ht.upd h.2 (by simp), h.2.mono (by simp)⟩
theorem getPage_ret {w : World} {t B : Nat} {v : Value} {l : List Nat} (m : Int) (ht : TabOk w t) (h : IsRet w B v l) (hB : t < B) :
    Calls Tryd.prog 30 #[pt t, v, .int .i64 m] w fun e w' => PageRes w.heap.size (getPage l m) e w' ∧ TabOk w' t ∧ Upd [t] w w' := by
  obtain ⟨a, c, rfl, hb, hB', hc, hm⟩ := h.slice
  exact getPage_any m ht hb (fun b o e => by have := hB' b o e; omega) hc hm
theorem getPage_ret0 {w : World} {B : Nat} {v : Value} {l : List Nat} (m : Int) (h : IsRet w B v l) :
    Calls Tryd.prog 30 #[.pointer none, v, .int .i64 m] w fun e w' => PageRes w.heap.size none e w' ∧ Upd [] w w' := by
  obtain ⟨a, c, rfl, hb, hB', hc, hm⟩ := h.slice
  exact getPage_none m (by omega)
theorem getPage_new {w : World} {t : Nat} (m : Int) (_ht : TabOk w t) :
    Calls Tryd.prog 30 #[pt t, .slice (some ⟨w.heap.size, 0, none⟩) 256 256, .int .i64 m] (w.alloc (.cells (u8s zero256).toArray 5)) fun e w' => PageRes 0 (some (0, [])) e w' ∧ Upd [] (w.alloc (.cells (u8s zero256).toArray 5)) w' := by
  have := getPage_zeros (t := t) (cap := 256) m (isZero (w := w) []) (decide_eq_true rfl)
  rw [zeroLen] at this
  exact this.mono fun e w' ⟨⟨v, h1, h2⟩, hu⟩ => ⟨⟨v, h1, h2.base (Nat.zero_le _)⟩, hu⟩
theorem pageRes_none {B : Nat} {e : Ending} {w' : World} (h : PageRes B none e w') : ∃ a n c, e = .returned (.tuple #[.agg #[.int .i64 0, .slice a n c], .bool false]) := by
  obtain ⟨v, rfl, hv⟩ := h
  obtain ⟨a, c, rfl, _⟩ := hv.slice
  exact ⟨a, _, c, rfl⟩
theorem pageRes_some {B : Nat} {k : Int} {l : List Nat} {e : Ending} {w' : World} (h : PageRes B (some (k, l)) e w') : ∃ a c, e = .returned (.tuple #[.agg #[.int .i64 k, .slice a l.length c], .bool true]) ∧ IsBytes w' a l ∧ (∀ b o, a = some ⟨b, o, none⟩ → B ≤ b) := by
  obtain ⟨v, rfl, hv⟩ := h
  obtain ⟨a, c, rfl, hb, hB, _⟩ := hv.slice
  exact ⟨a, c, rfl, hb, hB⟩
theorem pageRes_if {B : Nat} {c : Bool} {k : Int} {l : List Nat} {e : Ending} {w' : World} (h : PageRes B (if c then some (k, l) else none) e w') : ∃ k' a n d, e = .returned (.tuple #[.agg #[.int .i64 k', .slice a n d], .bool c]) := by
  cases c
  · obtain ⟨a, n, d, rfl⟩ := pageRes_none h
    exact ⟨0, a, n, d, rfl⟩
  · obtain ⟨a, d, rfl, _⟩ := pageRes_some h
    exact ⟨k, a, _, d, rfl⟩
set_option maxRecDepth 100000 in
set_option maxHeartbeats 6400000 in
theorem codecPage_no {w : World} {a : Option Addr} {cap : Nat} (m : Int) (x : Img) (hb : IsBytes w a x.body) (hl : x.body.length ≤ 9223372036854775807) (ho : okImg x = false) :
    Calls Tryd.prog 6 #[imgV x (.slice a x.body.length cap), .int .i64 m] w fun e w' => e = .returned (.bool true) ∧ Upd [] w w' := by
  unfold imgV
  have HC := Lib.hid (heap_alloc_new w (.cells #[.int .i64 x.num, .int .i64 x.kind, .slice a x.body.length cap] 39))
  have HB : Hid (∀ w', Upd [] w w' → IsBytes w' a x.body) := fun w' u => hb.upd u (by simp)
  have HO := Lib.hid ho
  have HPN := Lib.hid (putPage_none ho)
  have HG1 := Lib.hid (getPage_nil x.num)
  have HG2 := Lib.hid (getPage_nil m)
  have hmk := make256
  clear hb ho
  go_enter Tryd.func6, Tryd.ntmps6
  go_wp2_with fail
  refine (new_any _).mono ?_
  rintro e w1 ⟨t, rfl, htB, ht1, u1⟩
  simp at htB
  have HX1 := Lib.hid (u1.get HC.out (by simp))
  have HT1 := Lib.hid ht1
  have U1 := Lib.hid (((Upd.refl [] w).alloc _).trans u1)
  clear ht1 u1
  go_wp2_with fail
  refine (known_any HT1.out).mono ?_
  rintro e w2 ⟨rfl, ht2, u2⟩
  have HX2 := Lib.hid (u2.get HX1.out (by simp <;> omega))
  have HT2 := Lib.hid ht2
  have U2 := Lib.hid (U1.out.step u2 (fun x hx => .inr (by simp at hx; omega)))
  have hts := ht2.lt
  clear ht2 u2 HX1 HT1
  go_wp2_with (refine wpList_load_all rfl 39 (.tmp 2) rfl w.heap.size 3 rfl _ _ _ _ HX2.out Tryd.underlying39 rfl infoImage rfl ?_)
  refine (putPage_no (t := some ⟨t, 0, none⟩) x (.inr ⟨t, rfl, HO.out⟩) hl).mono ?_
  rintro e w3 ⟨rfl, u3⟩
  have HX3 := Lib.hid (u3.get HX2.out (by simp))
  have HT3 := Lib.hid (HT2.out.upd u3 (by simp))
  have U3 := Lib.hid (U2.out.trans u3)
  clear u3 HX2 HT2
  go_wp2_with (refine wpList_load_all rfl 39 (.tmp 2) rfl w.heap.size 3 rfl _ _ _ _ HX3.out Tryd.underlying39 rfl infoImage rfl ?_)
  refine (rputPage_no x HO.out hl).mono ?_
  rintro e w4 ⟨hp, u4⟩
  rw [HPN.out] at hp
  obtain ⟨vb, rfl, hvb⟩ := hp
  have HX4 := Lib.hid (u4.get HX3.out (by simp))
  have HT4 := Lib.hid (HT3.out.upd u4 (by simp))
  have HVA4 := Lib.hid (IsRet.nil w4 (t + 1))
  have HVB := Lib.hid hvb
  have U4 := Lib.hid (U3.out.trans u4)
  clear u4 hvb HX3 HT3
  simp only [Option.isSome_none, Bool.false_eq_true, if_false, Option.getD_none] at HVB ⊢
  go_wp2_with (refine wpList_load_all rfl 39 (.tmp 2) rfl w.heap.size 3 rfl _ _ _ _ HX4.out Tryd.underlying39 rfl infoImage rfl ?_)
  refine (putPage_no (t := none) x (.inl rfl) hl).mono ?_
  rintro e w5 ⟨rfl, u5⟩
  have HX5 := Lib.hid (u5.get HX4.out (by simp))
  have HT5 := Lib.hid (HT4.out.upd u5 (by simp))
  have HVA5 := Lib.hid (HVA4.out.upd u5 (by simp))
  have HVB5 := Lib.hid (HVB.out.upd u5 (by simp))
  have U5 := Lib.hid (U4.out.trans u5)
  obtain ⟨e0, e1, e2⟩ := cells3 HX5.out
  have HS5 := Lib.hid (same_ret HVA5.out HVB5.out (by decide) (by decide))
  rw [decide_eq_true rfl] at HS5
  have HX6 : Hid (∀ w', Upd [] w5 w' → w'.cell? ⟨w.heap.size, 0, none⟩ = some (.int .i64 x.num)) := fun w' u => (cells3 (u.get HX5.out (by simp))).1
  clear u5 HX4 HT4 HVB HVA4 e1 e2
  go_wp2_with (go_at_call 18; refine HS5.out.mono ?_; rintro e w6 ⟨rfl, u6⟩; have U6 := Lib.hid u6; have e0 := HX6.out w6 u6; clear u6)
  have HXX := Lib.hid (U6.out.get HX5.out (by simp))
  have HT6 := Lib.hid (HT5.out.upd U6.out (by simp))
  have HVA6 := Lib.hid (HVA5.out.upd U6.out (by simp))
  have hg := getPage_ret x.num HT6.out HVA6.out (by omega)
  rw [HG1.out] at hg
  refine hg.mono ?_
  rintro e w7 ⟨h7, ht7, u7⟩
  obtain ⟨a7, n7, c7, rfl⟩ := pageRes_none h7
  have HX7 := Lib.hid (((Upd.refl [] w7).alloc (.cells #[.int .i64 0, .slice a7 n7 c7] 37)).get (u7.get HXX.out (by simp <;> omega)) (by simp))
  have HT7 := Lib.hid (ht7.upd ((Upd.refl [] w7).alloc (.cells #[.int .i64 0, .slice a7 n7 c7] 37)) (by simp))
  have HVA7 := Lib.hid ((HVA6.out.upd u7 (by simp <;> omega)).upd ((Upd.refl [] w7).alloc (.cells #[.int .i64 0, .slice a7 n7 c7] 37)) (by simp))
  have U7 := Lib.hid ((((U5.out.trans U6.out)).step u7 (fun x hx => .inr (by simp at hx; omega))).alloc (.cells #[.int .i64 0, .slice a7 n7 c7] 37))
  have HY7 := Lib.hid (heap_alloc_new w7 (.cells #[.int .i64 0, .slice a7 n7 c7] 37))
  have hs7 := ht7.lt
  have HTL := Lib.hid HT6.out.lt
  clear hg h7 ht7 u7 HXX HT6 HVA6 e0
  go_wp2_with fail
  have hg8 := getPage_ret m HT7.out HVA7.out (by omega)
  rw [HG2.out] at hg8
  refine hg8.mono ?_
  rintro e w8 ⟨h8, ht8, u8⟩
  obtain ⟨a8, n8, c8, rfl⟩ := pageRes_none h8
  have hx8 := ((Upd.refl [] w8).alloc (.cells #[.int .i64 0, .slice a8 n8 c8] 37)).get (u8.get HX7.out (by simp <;> omega)) (by simp)
  have hy8 := ((Upd.refl [] w8).alloc (.cells #[.int .i64 0, .slice a8 n8 c8] 37)).get (u8.get HY7.out (by simp <;> omega)) (by simp)
  have HT8 := Lib.hid (ht8.upd ((Upd.refl [] w8).alloc (.cells #[.int .i64 0, .slice a8 n8 c8] 37)) (by simp))
  have HVA8 := Lib.hid ((HVA7.out.upd u8 (by simp <;> omega)).upd ((Upd.refl [] w8).alloc (.cells #[.int .i64 0, .slice a8 n8 c8] 37)) (by simp))
  have U8 := Lib.hid ((U7.out.step u8 (fun x hx => .inr (by simp at hx; omega))).alloc (.cells #[.int .i64 0, .slice a8 n8 c8] 37))
  have U78 := Lib.hid (u8.alloc (.cells #[.int .i64 0, .slice a8 n8 c8] 37))
  have HX8 := Lib.hid hx8
  have HY8 := Lib.hid hy8
  obtain ⟨e0, e1, e2⟩ := cells3 hx8
  clear hg8 h8 ht8 u8 hx8 hy8 e1 e2
  go_wp2_with fail
  refine (getPage_ret0 x.num HVA8.out).mono ?_
  rintro e w9 ⟨h9, u9⟩
  obtain ⟨a9, n9, c9, rfl⟩ := pageRes_none h9
  have HX9 := Lib.hid (((Upd.refl [] w9).alloc (.cells #[.int .i64 0, .slice a9 n9 c9] 37)).get (u9.get HX8.out (by simp)) (by simp))
  have HY9 := Lib.hid (((Upd.refl [] w9).alloc (.cells #[.int .i64 0, .slice a9 n9 c9] 37)).get (u9.get HY8.out (by simp)) (by simp))
  have HT9 := Lib.hid ((HT8.out.upd u9 (by simp)).upd ((Upd.refl [] w9).alloc (.cells #[.int .i64 0, .slice a9 n9 c9] 37)) (by simp))
  have U9 := Lib.hid ((U8.out.trans u9).alloc (.cells #[.int .i64 0, .slice a9 n9 c9] 37))
  have U79 := Lib.hid (u9.alloc (.cells #[.int .i64 0, .slice a9 n9 c9] 37))
  clear h9 u9 e0
  go_wp2_with fail
  have hg10 := getPage_new m HT9.out
  simp only [World.size_alloc] at hg10
  refine hg10.mono ?_
  rintro e w10 ⟨h10, u10⟩
  obtain ⟨a10, c10, rfl, hb10, hB10⟩ := pageRes_some h10
  simp only [List.length_nil]
  have U10 := Lib.hid (((U9.out.alloc (.cells (u8s zero256).toArray 5)).trans u10).alloc (.cells #[.int .i64 0, .slice a10 0 c10] 37))
  clear hg10 h10 u10 hb10 hB10
  go_wp2
  go_ret
  exact ⟨rfl, U10.out⟩
set_option maxRecDepth 100000 in
set_option maxHeartbeats 6400000 in
theorem codecPage_yes {w : World} {a : Option Addr} {cap : Nat} (m : Int) (x : Img) (hb : IsBytes w a x.body) (hl : x.body.length ≤ 9223372036854775807) (ho : okImg x = true) :
    Calls Tryd.prog 6 #[imgV x (.slice a x.body.length cap), .int .i64 m] w fun e w' => e = .returned (.bool true) ∧ Upd [] w w' := by
  unfold imgV
  have hol : x.body.length = 240 := (okImg_parts ho).2.2.2.2
  have HL := Lib.hid hol
  have HC := Lib.hid (heap_alloc_new w (.cells #[.int .i64 x.num, .int .i64 x.kind, .slice a x.body.length cap] 39))
  have HB : Hid (∀ w', Upd [] w w' → IsBytes w' a x.body) := fun w' u => hb.upd u (by simp)
  have HO := Lib.hid ho
  have HPN := Lib.hid (putPage_some ho)
  have HG1 := Lib.hid (getPage_put ho x.num)
  have HG2 := Lib.hid (getPage_put ho m)
  rw [decide_eq_true rfl, if_pos rfl] at HG1
  have HFL := Lib.hid (show (frame (pageBytes x)).length = 256 from frame_len (by rw [pageBytes_len, hol]; decide))
  have hmk := make256
  clear hb ho hol
  go_enter Tryd.func6, Tryd.ntmps6
  go_wp2_with fail
  refine (new_any _).mono ?_
  rintro e w1 ⟨t, rfl, htB, ht1, u1⟩
  simp at htB
  have HX1 := Lib.hid (u1.get HC.out (by simp))
  have HT1 := Lib.hid ht1
  have U1 := Lib.hid (((Upd.refl [] w).alloc _).trans u1)
  clear ht1 u1
  go_wp2_with fail
  refine (known_any HT1.out).mono ?_
  rintro e w2 ⟨rfl, ht2, u2⟩
  have HX2 := Lib.hid (u2.get HX1.out (by simp <;> omega))
  have HT2 := Lib.hid ht2
  have U2 := Lib.hid (U1.out.step u2 (fun x hx => .inr (by simp at hx; omega)))
  have hts := ht2.lt
  clear ht2 u2 HX1 HT1
  go_wp2_with (refine wpList_load_all rfl 39 (.tmp 2) rfl w.heap.size 3 rfl _ _ _ _ HX2.out Tryd.underlying39 rfl infoImage rfl ?_)
  refine (putPage_yes (cap := cap) HT2.out (HB.out _ U2.out) HO.out).mono ?_
  rintro e w3 ⟨⟨ba, rfl, hba, hbk⟩, ht3, u3⟩
  have HX3 := Lib.hid (u3.get HX2.out (by simp <;> omega))
  have HT3 := Lib.hid ht3
  have HVA := Lib.hid (hbk.ret (B := ba) (Nat.le_refl _) HFL.out (by decide))
  have U3 := Lib.hid (U2.out.step u3 (fun x hx => .inr (by simp at hx; omega)))
  clear u3 ht3 hbk HX2 HT2
  go_wp2_with (refine wpList_load_all rfl 39 (.tmp 2) rfl w.heap.size 3 rfl _ _ _ _ HX3.out Tryd.underlying39 rfl infoImage rfl ?_)
  refine (rputPage_yes (cap := cap) (HB.out _ U3.out) HO.out).mono ?_
  rintro e w4 ⟨hp, u4⟩
  rw [HPN.out] at hp
  obtain ⟨vb, rfl, hvb⟩ := hp
  have HX4 := Lib.hid (u4.get HX3.out (by simp))
  have HT4 := Lib.hid (HT3.out.upd u4 (by simp))
  have HVA4 := Lib.hid (HVA.out.upd u4 (by simp))
  have HVB := Lib.hid hvb
  have U4 := Lib.hid (U3.out.trans u4)
  clear u4 hvb HX3 HT3 HVA
  simp only [Option.isSome_some, if_true, Option.getD_some] at HVB ⊢
  go_wp2_with (refine wpList_load_all rfl 39 (.tmp 2) rfl w.heap.size 3 rfl _ _ _ _ HX4.out Tryd.underlying39 rfl infoImage rfl ?_)
  refine (putPage_no (t := none) x (.inl rfl) hl).mono ?_
  rintro e w5 ⟨rfl, u5⟩
  have HX5 := Lib.hid (u5.get HX4.out (by simp))
  have HT5 := Lib.hid (HT4.out.upd u5 (by simp))
  have HVA5 := Lib.hid (HVA4.out.upd u5 (by simp))
  have HVB5 := Lib.hid (HVB.out.upd u5 (by simp))
  have U5 := Lib.hid (U4.out.trans u5)
  obtain ⟨e0, e1, e2⟩ := cells3 HX5.out
  have HS5 := Lib.hid (same_ret HVA5.out HVB5.out (by rw [HFL.out]; decide) (by rw [HFL.out]; decide))
  rw [decide_eq_true rfl] at HS5
  have HX6 : Hid (∀ w', Upd [] w5 w' → w'.cell? ⟨w.heap.size, 0, none⟩ = some (.int .i64 x.num)) := fun w' u => (cells3 (u.get HX5.out (by simp))).1
  clear u5 HX4 HT4 HVB HVA4 e1 e2
  go_wp2_with (go_at_call 18; refine HS5.out.mono ?_; rintro e w6 ⟨rfl, u6⟩; have U6 := Lib.hid u6; have e0 := HX6.out w6 u6; clear u6)
  have HXX := Lib.hid (U6.out.get HX5.out (by simp))
  have HT6 := Lib.hid (HT5.out.upd U6.out (by simp))
  have HVA6 := Lib.hid (HVA5.out.upd U6.out (by simp))
  have hg := getPage_ret x.num HT6.out HVA6.out (by omega)
  rw [HG1.out] at hg
  refine hg.mono ?_
  rintro e w7 ⟨h7, ht7, u7⟩
  obtain ⟨a7, c7, rfl, hb7, hB7⟩ := pageRes_some h7
  have HB7 := Lib.hid hb7
  have HX7 := Lib.hid (((Upd.refl [] w7).alloc (.cells #[.int .i64 x.kind, .slice a7 x.body.length c7] 37)).get (u7.get HXX.out (by simp <;> omega)) (by simp))
  have HT7 := Lib.hid (ht7.upd ((Upd.refl [] w7).alloc (.cells #[.int .i64 x.kind, .slice a7 x.body.length c7] 37)) (by simp))
  have HVA7 := Lib.hid ((HVA6.out.upd u7 (by simp <;> omega)).upd ((Upd.refl [] w7).alloc (.cells #[.int .i64 x.kind, .slice a7 x.body.length c7] 37)) (by simp))
  have U7 := Lib.hid ((((U5.out.trans U6.out)).step u7 (fun x hx => .inr (by simp at hx; omega))).alloc (.cells #[.int .i64 x.kind, .slice a7 x.body.length c7] 37))
  have HY7 := Lib.hid (heap_alloc_new w7 (.cells #[.int .i64 x.kind, .slice a7 x.body.length c7] 37))
  have hs7 := ht7.lt
  have HTL := Lib.hid HT6.out.lt
  clear hg h7 ht7 u7 HXX HT6 HVA6 e0
  go_wp2_with fail
  have hg8 := getPage_ret m HT7.out HVA7.out (by omega)
  rw [HG2.out] at hg8
  refine hg8.mono ?_
  rintro e w8 ⟨h8, ht8, u8⟩
  obtain ⟨k8, a8, n8, c8, rfl⟩ := pageRes_if h8
  have hx8 := ((Upd.refl [] w8).alloc (.cells #[.int .i64 k8, .slice a8 n8 c8] 37)).get (u8.get HX7.out (by simp <;> omega)) (by simp)
  have hy8 := ((Upd.refl [] w8).alloc (.cells #[.int .i64 k8, .slice a8 n8 c8] 37)).get (u8.get HY7.out (by simp <;> omega)) (by simp)
  have HT8 := Lib.hid (ht8.upd ((Upd.refl [] w8).alloc (.cells #[.int .i64 k8, .slice a8 n8 c8] 37)) (by simp))
  have HVA8 := Lib.hid ((HVA7.out.upd u8 (by simp <;> omega)).upd ((Upd.refl [] w8).alloc (.cells #[.int .i64 k8, .slice a8 n8 c8] 37)) (by simp))
  have U8 := Lib.hid ((U7.out.step u8 (fun x hx => .inr (by simp at hx; omega))).alloc (.cells #[.int .i64 k8, .slice a8 n8 c8] 37))
  have U78 := Lib.hid (u8.alloc (.cells #[.int .i64 k8, .slice a8 n8 c8] 37))
  have HX8 := Lib.hid hx8
  have HY8 := Lib.hid hy8
  obtain ⟨e0, e1, e2⟩ := cells3 hx8
  clear hg8 h8 ht8 u8 hx8 hy8 e1 e2
  go_wp2_with fail
  refine (getPage_ret0 x.num HVA8.out).mono ?_
  rintro e w9 ⟨h9, u9⟩
  obtain ⟨a9, n9, c9, rfl⟩ := pageRes_none h9
  have HX9 := Lib.hid (((Upd.refl [] w9).alloc (.cells #[.int .i64 0, .slice a9 n9 c9] 37)).get (u9.get HX8.out (by simp)) (by simp))
  have HY9 := Lib.hid (((Upd.refl [] w9).alloc (.cells #[.int .i64 0, .slice a9 n9 c9] 37)).get (u9.get HY8.out (by simp)) (by simp))
  have HT9 := Lib.hid ((HT8.out.upd u9 (by simp)).upd ((Upd.refl [] w9).alloc (.cells #[.int .i64 0, .slice a9 n9 c9] 37)) (by simp))
  have U9 := Lib.hid ((U8.out.trans u9).alloc (.cells #[.int .i64 0, .slice a9 n9 c9] 37))
  have U79 := Lib.hid (u9.alloc (.cells #[.int .i64 0, .slice a9 n9 c9] 37))
  clear h9 u9 e0
  go_wp2_with fail
  have hg10 := getPage_new m HT9.out
  simp only [World.size_alloc] at hg10
  refine hg10.mono ?_
  rintro e w10 ⟨h10, u10⟩
  obtain ⟨a10, c10, rfl, hb10, hB10⟩ := pageRes_some h10
  simp only [List.length_nil]
  have U10 := Lib.hid (((U9.out.alloc (.cells (u8s zero256).toArray 5)).trans u10).alloc (.cells #[.int .i64 0, .slice a10 0 c10] 37))
  have U710 := Lib.hid ((((U78.out.trans (U79.out.mono (by simp))).alloc (.cells (u8s zero256).toArray 5)).trans (u10.mono (by simp))).alloc (.cells #[.int .i64 0, .slice a10 0 c10] 37))
  have hx10 := ((Upd.refl [] w10).alloc (.cells #[.int .i64 0, .slice a10 0 c10] 37)).get (u10.get (((Upd.refl [] _).alloc (.cells (u8s zero256).toArray 5)).get HX9.out (by simp)) (by simp)) (by simp)
  have hy10 := ((Upd.refl [] w10).alloc (.cells #[.int .i64 0, .slice a10 0 c10] 37)).get (u10.get (((Upd.refl [] _).alloc (.cells (u8s zero256).toArray 5)).get HY9.out (by simp)) (by simp)) (by simp)
  obtain ⟨e0, e1, e2⟩ := cells3 hx10
  have HXF : Hid (∀ w', Upd [] (w10.alloc (.cells #[.int .i64 0, .slice a10 0 c10] 37)) w' → w'.cell? ⟨w.heap.size, 0, none⟩ = some (.int .i64 x.num)) := fun w' u => (cells3 (u.get hx10 (by simp))).1
  obtain ⟨y, _⟩ := cells_of hy10
  have y0 := y 0
  have y1 := y 1
  simp only [List.getElem?_toArray, List.getElem?_cons_zero, List.getElem?_cons_succ] at y0 y1
  have hb7f := (HB7.out.upd ((Upd.refl [] w7).alloc (.cells #[.int .i64 x.kind, .slice a7 x.body.length c7] 37)) (by simp)).upd U710.out (fun b o e hx => by have := hB7 b o e; have := HTL.out; simp at hx; omega)
  have HP := Lib.hid (pages_any (k := x.kind) (k' := x.kind) (cap := c7) (cap' := cap) hb7f (HB.out _ U10.out) (by rw [HL.out]; decide) (by rw [HL.out]; decide))
  rw [decide_eq_true ⟨rfl, rfl⟩] at HP
  have hbq : (m == x.num) = decide (m = x.num) := by rw [Bool.eq_iff_iff]; simp
  generalize decide (m = x.num) = q at hbq ⊢
  clear hg10 h10 u10 hb10 hB10 hx10 hy10 y hb7f hB7
  go_wp2_with (go_at_call 23; refine HP.out.mono ?_; rintro e w11 ⟨rfl, u11⟩; have U11 := Lib.hid u11; have f0 := HXF.out _ u11; clear u11)
  go_ret
  exact ⟨rfl, U10.out.trans U11.out⟩
end Go.Proofs.YtkahpkmofeglgaaDoor
