/-
  PROVED HERE: GetPage of package codec, of any bytes. Conditions: the bytes can be read; the table may be used, and does not hold them.
-/
import Derived.Test.YtkahpkmofeglgaaDoorPageG
namespace Go.Proofs.YtkahpkmofeglgaaDoor
open Go.RowKit

theorem zeroLen : zero256.length = 256 := List.length_replicate
set_option maxRecDepth 100000 in
set_option maxHeartbeats 1600000 in
theorem getPage_zeros {w : World} {t : Nat} {a : Option Addr} {l : List Nat} {cap : Nat} (m : Int) (hb : IsBytes w a l) (hz : decide (l = zero256) = true) :
    Calls Tryd.prog 30 #[pt t, .slice a l.length cap, .int .i64 m] w fun e w' => PageRes w.heap.size (some (0, [])) e w' ∧ Upd [] w w' := by
  have hu := ((Upd.refl [] w).alloc (.cells #[.int .i64 0, .slice none 0 0] 37)).alloc (.cells (u8s zero256).toArray 5)
  have HX := Lib.hid (((Upd.refl [] _).alloc (.cells (u8s zero256).toArray 5)).get (heap_alloc_new w (.cells #[.int .i64 0, .slice none 0 0] 37)) (by simp))
  have heq := equal_any (cap := cap) (cap' := 256) (hb.upd hu (by simp)) (isZero (w := w.alloc (.cells #[.int .i64 0, .slice none 0 0] 37)) [])
  rw [hz, zeroLen, show (w.alloc (.cells #[.int .i64 0, .slice none 0 0] 37)).heap.size = w.heap.size + 1 by simp] at heq
  have HEQ := Lib.hid heq
  have HU := Lib.hid hu
  have hmk := make256
  have hbd := buildPg0
  clear hb hz hu heq
  go_enter Tryd.func30, Tryd.ntmps30
  go_wp2_with (first
    | (go_at_call 66; (with_reducible refine HEQ.out.mono ?_); rintro e w1 ⟨rfl, rfl⟩)
    | (refine wpList_store_all rfl 37 (.tmp 6) (.tmp 18) rfl w.heap.size _ rfl rfl _ _ HX.out infoPage rfl (by kernel_rfl) ?_; intro w2 hg2 hu2 _; have G2 := Lib.hid hg2; have U2 := Lib.hid hu2; clear hg2 hu2))
  refine bodyPost_ret (results_block_tmp Tryd.results30 _ _ w.heap.size 2 _ _ _ _ rfl G2.out Tryd.underlying37 rfl infoPage rfl) rfl ⟨PageRes.zero _ _, HU.out.step U2.out (fun x hx => .inr (by simp at hx; omega))⟩
set_option maxRecDepth 100000 in
set_option maxHeartbeats 1600000 in
theorem getPage_unsound {w : World} {t : Nat} {a : Option Addr} {l : List Nat} {cap : Nat} (m : Int) (ht : TabOk w t) (hb : IsBytes w a l) (hsep : ∀ b o, a = some ⟨b, o, none⟩ → b ≠ t) (hc : l.length ≤ cap) (hm : cap ≤ 9223372036854775807) (hz : decide (l = zero256) = false) (hs : soundL l [80, 80, 65, 71] = false) :
    Calls Tryd.prog 30 #[pt t, .slice a l.length cap, .int .i64 m] w fun e w' => PageRes w.heap.size none e w' ∧ TabOk w' t ∧ Upd [t] w w' := by
  have hu := ((Upd.refl [] w).alloc (.cells #[.int .i64 0, .slice none 0 0] 37)).alloc (.cells (u8s zero256).toArray 5)
  have HX := Lib.hid (((Upd.refl [] _).alloc (.cells (u8s zero256).toArray 5)).get (heap_alloc_new w (.cells #[.int .i64 0, .slice none 0 0] 37)) (by simp))
  have heq := equal_any (cap := cap) (cap' := 256) (hb.upd hu (by simp)) (isZero (w := w.alloc (.cells #[.int .i64 0, .slice none 0 0] 37)) [])
  rw [hz, zeroLen, show (w.alloc (.cells #[.int .i64 0, .slice none 0 0] 37)).heap.size = w.heap.size + 1 by simp] at heq
  have HEQ := Lib.hid heq
  have HSD := Lib.hid (sound_false (s := ⟨#[80, 80, 65, 71]⟩) (ht.upd hu (by simp)) (hb.upd hu (by simp)) hsep hc hm hs)
  have HU := Lib.hid (hu.mono (T := [t]) (by simp))
  have hlt := Lib.hid ht.lt
  have hmk := make256
  have hbd := buildPg0
  clear hb hz hu heq ht hsep hs
  go_enter Tryd.func30, Tryd.ntmps30
  go_wp2_with (first
    | (go_at_call 66; (with_reducible refine HEQ.out.mono ?_); rintro e w1 ⟨rfl, rfl⟩)
    | (go_at_call 59; refine HSD.out.mono ?_; rintro e w1 ⟨rfl, t1, u1⟩; have T1 := Lib.hid t1; have U1 := Lib.hid u1; clear t1 u1)
    | (refine wpList_store_all rfl 37 (.tmp 6) (.tmp 27) rfl w.heap.size _ rfl rfl _ _ (((Upd.refl [] _).alloc _).get (U1.out.get HX.out (by have := hlt.out; simp; omega)) (by simp)) infoPage rfl (by kernel_rfl) ?_; intro w2 hg2 hu2 _; have G2 := Lib.hid hg2; have U2 := Lib.hid hu2; clear hg2 hu2))
  refine bodyPost_ret (results_block_tmp Tryd.results30 _ _ w.heap.size 2 _ _ _ _ rfl G2.out Tryd.underlying37 rfl infoPage rfl) rfl ⟨PageRes.no _ _, (T1.out.upd ((Upd.refl [] _).alloc _) (by simp)).upd U2.out (by have := hlt.out; simp; omega), ((HU.out.trans U1.out).alloc _).step U2.out (fun x hx => .inr (by simp at hx; omega))⟩
/-- The tests of a page, one behind the other. -/
theorem pageTest_cases (l : List Nat) (n : Int) :
    (pageTest l n = true ∧ decide (numi (seg l 4 1) < 1) = false ∧ decide (5 < numi (seg l 4 1)) = false ∧ inB n 1023 = true ∧ (numi (seg l 5 4) != n) = false ∧ (numi (seg l 9 3) != 0) = false) ∨
    (pageTest l n = false ∧ ((decide (numi (seg l 4 1) < 1) = true) ∨ (decide (numi (seg l 4 1) < 1) = false ∧ decide (5 < numi (seg l 4 1)) = true) ∨ (decide (numi (seg l 4 1) < 1) = false ∧ decide (5 < numi (seg l 4 1)) = false ∧ inB n 1023 = false))) ∨
    (pageTest l n = false ∧ decide (numi (seg l 4 1) < 1) = false ∧ decide (5 < numi (seg l 4 1)) = false ∧ inB n 1023 = true ∧ (numi (seg l 5 4) != n) = true) ∨
    (pageTest l n = false ∧ decide (numi (seg l 4 1) < 1) = false ∧ decide (5 < numi (seg l 4 1)) = false ∧ inB n 1023 = true ∧ (numi (seg l 5 4) != n) = false ∧ (numi (seg l 9 3) != 0) = true) := by
  unfold pageTest
  by_cases h1 : numi (seg l 4 1) < 1
  · refine .inr (.inl ⟨by rw [decide_eq_false (by omega), Bool.false_and], .inl (decide_eq_true h1)⟩)
  by_cases h2 : 5 < numi (seg l 4 1)
  · refine .inr (.inl ⟨by rw [decide_eq_false (by omega), Bool.false_and], .inr (.inl ⟨decide_eq_false h1, decide_eq_true h2⟩)⟩)
  rw [decide_eq_true (show 1 ≤ numi (seg l 4 1) ∧ numi (seg l 4 1) ≤ 5 by omega), Bool.true_and]
  cases h3 : inB n 1023
  · exact .inr (.inl ⟨Bool.false_and _, .inr (.inr ⟨decide_eq_false h1, decide_eq_false h2, rfl⟩)⟩)
  rw [Bool.true_and]
  by_cases h4 : numi (seg l 5 4) = n
  · by_cases h5 : numi (seg l 9 3) = 0
    · exact .inl ⟨by rw [decide_eq_true h4, decide_eq_true h5, Bool.true_and], decide_eq_false h1, decide_eq_false h2, rfl, by simpa using h4, by simpa using h5⟩
    · exact .inr (.inr (.inr ⟨by rw [decide_eq_false h5, Bool.and_false], decide_eq_false h1, decide_eq_false h2, rfl, by simpa using h4, by simpa using h5⟩))
  · exact .inr (.inr (.inl ⟨by rw [decide_eq_false h4, Bool.false_and], decide_eq_false h1, decide_eq_false h2, rfl, by simpa using h4⟩))
set_option maxRecDepth 100000 in
set_option maxHeartbeats 6400000 in
theorem getPage_sound {w : World} {t : Nat} {a : Option Addr} {l : List Nat} {cap : Nat} (m : Int) (ht : TabOk w t) (hb : IsBytes w a l) (hsep : ∀ b o, a = some ⟨b, o, none⟩ → b ≠ t) (hc : l.length ≤ cap) (hm : cap ≤ 9223372036854775807) (hz : decide (l = zero256) = false) (hs : soundL l [80, 80, 65, 71] = true) :
    Calls Tryd.prog 30 #[pt t, .slice a l.length cap, .int .i64 m] w fun e w' => PageRes w.heap.size (getPage l m) e w' ∧ TabOk w' t ∧ Upd [t] w w' := by
  have hgp : getPage l m = if pageTest l m then some (numi (seg l 4 1), seg l 12 240) else none := by
    unfold getPage
    rw [hz, hs, Bool.true_and]
    simp only [Bool.false_eq_true, if_false]
  have HGP := Lib.hid hgp
  have hu := ((Upd.refl [] w).alloc (.cells #[.int .i64 0, .slice none 0 0] 37)).alloc (.cells (u8s zero256).toArray 5)
  have HX := Lib.hid (((Upd.refl [] _).alloc (.cells (u8s zero256).toArray 5)).get (heap_alloc_new w (.cells #[.int .i64 0, .slice none 0 0] 37)) (by simp))
  have heq := equal_any (cap := cap) (cap' := 256) (hb.upd hu (by simp)) (isZero (w := w.alloc (.cells #[.int .i64 0, .slice none 0 0] 37)) [])
  rw [hz, zeroLen, show (w.alloc (.cells #[.int .i64 0, .slice none 0 0] 37)).heap.size = w.heap.size + 1 by simp] at heq
  have HEQ := Lib.hid heq
  have hl : l.length = 256 := by unfold soundL at hs; simp only [decide_eq_true_eq] at hs; exact hs.1
  obtain ⟨b, o, rfl, hsd⟩ := sound_true (s := ⟨#[80, 80, 65, 71]⟩) (ht.upd hu (by simp)) (hb.upd hu (by simp)) hsep hc hm hs
  have hne := hsep b o rfl
  have hbl : b < w.heap.size := World.block_lt_of_cell? _ _ (hb.at 0 (by omega))
  have HL := Lib.hid hl
  have HSD := Lib.hid hsd
  have HB := Lib.hid hb
  have HNE := Lib.hid hne
  have HBL := Lib.hid hbl
  have HU := Lib.hid (hu.mono (T := [t]) (by simp))
  have hlt := Lib.hid ht.lt
  have hmk := make256
  have hbd := fun a w => buildRd a 248 (cap - 4) w
  clear hb hz hu heq ht hsep hs hsd hl hne hbl hgp
  go_enter Tryd.func30, Tryd.ntmps30
  go_wp2_with (go_at_call 66; (with_reducible refine HEQ.out.mono ?_); rintro e w1 ⟨rfl, rfl⟩)
  refine HSD.out.mono ?_
  rintro e w1 ⟨rfl, t1, u1⟩
  have hu1 := HU.out.trans u1
  have hx1 := u1.get HX.out (by have := hlt.out; simp; omega)
  have hlw := lt_of_block hx1
  have hb1 := ((HB.out.upd hu1 (by rintro b' o' ⟨⟩; simpa using HNE.out)).drop 4).sub 248
  have hlen : ((l.drop 4).take 248).length = 248 := by rw [List.length_take, List.length_drop, HL.out]; rfl
  have hR : IsRd (w1.alloc (.cells #[.slice (some ⟨b, o + 4, none⟩) 248 (cap - 4)] 117)) w1.heap.size (some b) ((l.drop 4).take 248) :=
    ⟨⟨some ⟨b, o + 4, none⟩, cap - 4, by rw [hlen]; exact heap_alloc_new w1 _, hb1.upd ((Upd.refl [] w1).alloc _) (by simp), by rw [hlen]; have := HL.out; omega, by unfold maxLen; omega, by rintro b' o' ⟨⟩; rfl⟩, by intro e; simp only [Option.some.injEq] at e; have := HBL.out; omega⟩
  have HR := Lib.hid hR
  have HLEN := Lib.hid hlen
  have HX1 := Lib.hid hx1
  have T1 := Lib.hid t1
  have U1 := Lib.hid hu1
  have HRA := Lib.hid ((Upd.refl [] w1).alloc (.cells #[.slice (some ⟨b, o + 4, none⟩) 248 (cap - 4)] 117))
  clear t1 u1 hu1 hx1 hb1 hlen hR
  have hsg : ∀ i k, 4 + i + k ≤ 252 → (((l.drop 4).take 248).drop i).take k = seg l (4 + i) k := fun i k h => by
    rw [seg_take (4 + i) k 252 h (by rw [HL.out]; decide), show (l.drop 4).take 248 = (l.take 252).drop 4 by rw [List.drop_take], List.drop_drop]
  have HSG := Lib.hid hsg
  clear hsg
  go_wp2_with fail
  refine (get_k 1 1 rfl HR.out (by decide) (by rw [HLEN.out]; decide)).mono ?_
  rintro e w2 ⟨rfl, r2, u2⟩
  rw [show ((l.drop 4).take 248).take 1 = seg l 4 1 from HSG.out 0 1 (by decide)]
  have hu2 := HRA.out.step u2 (fun x hx => .inr (by simp at hx; omega))
  have R2 := Lib.hid (r2.upd ((Upd.refl [] w2).alloc (.cells #[.int .i64 (numi (seg l 4 1)), .slice none 0 0] 37)) (by simp) (by simp))
  have U2 := Lib.hid (hu2.alloc (.cells #[.int .i64 (numi (seg l 4 1)), .slice none 0 0] 37))
  have HP2 := Lib.hid (heap_alloc_new w2 (.cells #[.int .i64 (numi (seg l 4 1)), .slice none 0 0] 37))
  have HR2 := Lib.hid (show w1.heap.size < w2.heap.size from Nat.lt_of_lt_of_le (Nat.lt_succ_self _) (by have := u2.size; simpa using this))
  have hu2w := hu2
  clear r2 u2 hu2
  have hb1 := buildPg1 (numi (seg l 4 1))
  have hu12 := hu2w
  have HX2 := Lib.hid (((Upd.refl [] w2).alloc (.cells #[.int .i64 (numi (seg l 4 1)), .slice none 0 0] 37)).get (hu12.get HX1.out (by simp)) (by simp))
  have T2 := Lib.hid ((T1.out.upd hu12 (by simp)).upd ((Upd.refl [] w2).alloc (.cells #[.int .i64 (numi (seg l 4 1)), .slice none 0 0] 37)) (by simp))
  clear hu12 hu2w
  have hbd0 := buildPg0
  rcases pageTest_cases l m with ⟨hp, d1, d2, d3, d4, d5⟩ | ⟨hp, hd⟩ | ⟨hp, d1, d2, d3, d4⟩ | ⟨hp, d1, d2, d3, d4, d5⟩
  · have HP := Lib.hid (HGP.out.trans (by rw [hp, if_pos rfl]))
    clear hp
    go_wp2_with (go_at_call 52; refine (in_b _ _ _).mono ?_; rintro e w' ⟨rfl, rfl⟩)
    refine (get_k 4 4 rfl R2.out (by decide) (by rw [List.length_drop, HLEN.out]; decide)).mono ?_
    rintro e w3 ⟨rfl, r3, u3⟩
    rw [show (((l.drop 4).take 248).drop 1).take 4 = seg l 5 4 from HSG.out 1 4 (by decide)]
    rw [List.drop_drop] at r3
    have R3 := Lib.hid r3
    have u3b := U2.out.step u3 (fun x hx => .inr (by simp at hx; omega))
    have U3 := Lib.hid u3b
    have HX3 := Lib.hid (u3.get HX2.out (by simp; omega))
    have HP3 := Lib.hid (u3.get HP2.out (by have := HR2.out; simp; omega))
    have T3 := Lib.hid (T2.out.upd u3 (by have := hlt.out; simp; omega))
    clear r3 u3 u3b
    go_wp2_with fail
    refine (get_k 3 3 rfl R3.out (by decide) (by rw [List.length_drop, HLEN.out]; decide)).mono ?_
    rintro e w4 ⟨rfl, r4, u4⟩
    rw [show (((l.drop 4).take 248).drop (1 + 4)).take 3 = seg l 9 3 from HSG.out 5 3 (by decide)]
    rw [List.drop_drop] at r4
    have u4b := U3.out.step u4 (fun x hx => .inr (by simp at hx; omega))
    have U4 := Lib.hid u4b
    have HX4 := Lib.hid (u4.get HX3.out (by simp; omega))
    have HP4 := Lib.hid (u4.get HP3.out (by have := HR2.out; simp; omega))
    have T4 := Lib.hid (T3.out.upd u4 (by have := hlt.out; simp; omega))
    obtain ⟨⟨ar, cr, hrb, hry, hrc, hrm, hrq⟩, hrn⟩ := r4
    have hlen5 : (((l.drop 4).take 248).drop (1 + 4 + 3)).length = 240 := by rw [List.length_drop, HLEN.out]
    have hrcell := (cells_of hrb).1 0
    rw [hlen5] at hrcell
    simp only [List.getElem?_toArray, List.getElem?_cons_zero] at hrcell
    have hsg : ((l.drop 4).take 248).drop (1 + 4 + 3) = seg l 12 240 := by
      rw [← HSG.out 8 240 (by decide)]
      exact (List.take_of_length_le (by rw [hlen5]; exact Nat.le_refl _)).symm
    have hcl := clone_any (cap := cr) hry (by rw [hlen5]; decide) (by rw [hlen5]; decide)
    rw [hlen5, hsg] at hcl
    have HCL := Lib.hid hcl
    clear hrb hry hrc hrm hrq hrn hcl hsg hlen5 u4 u4b
    go_wp2_with fail
    refine HCL.out.mono ?_
    rintro e w5 ⟨⟨v5, rfl, g5⟩, u5⟩
    obtain ⟨a5, c5, rfl, hby5, hbk5, hm5⟩ := g5.slice
    have hsl : (seg l 12 240).length = 240 := seg_len l 12 240
    rw [hsl] at g5 hbk5 ⊢
    have G5 := Lib.hid g5
    have U5 := Lib.hid (U4.out.trans u5)
    have HX5 := Lib.hid (u5.get HX4.out (by simp))
    have hp5 := u5.get HP4.out (by simp)
    have T5 := Lib.hid (T4.out.upd u5 (by simp))
    have HW4 := Lib.hid (lt_of_block HX4.out)
    have HP4L := Lib.hid (lt_of_block HP4.out)
    have hst := heap_setCell_same w5 w2.heap.size 1 _ _ (.slice a5 240 c5) hp5
    have hk := (cells_of hp5).1 1
    have hz := (cells_of hp5).2 1
    simp only [List.getElem?_toArray, List.getElem?_cons_zero, List.getElem?_cons_succ] at hk
    have hu6 : Upd [w2.heap.size] w5 (w5.setCell ⟨w2.heap.size, 1, none⟩ (.slice a5 240 c5)) := (Upd.refl _ _).setCell (.inl (by simp)) _
    have HST := Lib.hid (show (w5.setCell ⟨w2.heap.size, 1, none⟩ (.slice a5 240 c5)).heap[w2.heap.size]? = some (.cells #[.int .i64 (numi (seg l 4 1)), .slice a5 240 c5] 37 (0, 0)) from hst)
    have HX6 := Lib.hid (hu6.get HX5.out (by have := HR2.out; simp; omega))
    have U6 := Lib.hid (U5.out.step hu6 (fun x hx => .inr (by have := HR2.out; simp at hx; omega)))
    have T6 := Lib.hid (T5.out.upd hu6 (by have := hlt.out; have := HR2.out; simp; omega))
    have G6 := Lib.hid (g5.ret.upd hu6 (fun b hb => by have := HP4L.out; simp at hb; omega))
    clear g5 hby5 hbk5 u5 hm5 hst hp5 hu6
    go_wp2_with (first
      | (refine wpList_load_all rfl 37 (.tmp 10) rfl w2.heap.size 2 rfl _ _ _ _ HST.out Tryd.underlying37 rfl infoPage rfl ?_)
      | (refine wpList_store_all rfl 37 (.tmp 6) (.tmp 57) rfl w.heap.size _ rfl rfl _ _ HX6.out infoPage (by simp only [List.size_toArray, List.length_cons, List.length_nil]) rfl ?_; intro w7 hg7 hu7 _; have G7 := Lib.hid hg7; have U7 := Lib.hid hu7; clear hg7 hu7))
    refine bodyPost_ret (results_block_tmp Tryd.results30 _ _ w.heap.size 2 _ _ _ _ rfl G7.out Tryd.underlying37 rfl infoPage rfl) rfl ⟨?_, T6.out.upd U7.out (by have := hlt.out; simp; omega) |> .inr, (U1.out.trans (U6.out.mono (by simp))).step U7.out (fun x hx => .inr (by simp at hx; omega))⟩
    rw [HP.out]
    exact ⟨_, rfl, (G6.out.upd U7.out (fun b hb => by have := HW4.out; simp at hb; omega)).base (by have := HW4.out; omega)⟩
  · have HP := Lib.hid (HGP.out.trans (by rw [hp, if_neg Bool.false_ne_true]))
    clear hp
    rcases hd with d1 | ⟨d1, d2⟩ | ⟨d1, d2, d3⟩
    all_goals
      go_wp2_with (first
        | (go_at_call 52; refine (in_b _ _ _).mono ?_; rintro e w' ⟨rfl, rfl⟩)
        | (refine wpList_store_all rfl 37 (.tmp 6) (.tmp 52) rfl w.heap.size _ rfl rfl _ _ HX2.out infoPage rfl (by kernel_rfl) ?_; intro w6 hg6 hu6 _; have G6 := Lib.hid hg6; have U6 := Lib.hid hu6; clear hg6 hu6))
      refine bodyPost_ret (results_block_tmp Tryd.results30 _ _ w.heap.size 2 _ _ _ _ rfl G6.out Tryd.underlying37 rfl infoPage rfl) rfl ⟨by rw [HP.out]; exact PageRes.no _ _, .inr (T2.out.upd U6.out (by have := hlt.out; simp; omega)), (U1.out.trans (U2.out.mono (by simp))).step U6.out (fun x hx => .inr (by simp at hx; omega))⟩
  · have HP := Lib.hid (HGP.out.trans (by rw [hp, if_neg Bool.false_ne_true]))
    clear hp
    go_wp2_with (go_at_call 52; refine (in_b _ _ _).mono ?_; rintro e w' ⟨rfl, rfl⟩)
    refine (get_k 4 4 rfl R2.out (by decide) (by rw [List.length_drop, HLEN.out]; decide)).mono ?_
    rintro e w3 ⟨rfl, r3, u3⟩
    rw [show (((l.drop 4).take 248).drop 1).take 4 = seg l 5 4 from HSG.out 1 4 (by decide)]
    have U3 := Lib.hid (U2.out.step u3 (fun x hx => .inr (by simp at hx; omega)))
    have HX3 := Lib.hid (u3.get HX2.out (by simp; omega))
    have T3 := Lib.hid (T2.out.upd u3 (by have := hlt.out; simp; omega))
    clear r3 u3
    go_wp2_with (refine wpList_store_all rfl 37 (.tmp 6) (.tmp 52) rfl w.heap.size _ rfl rfl _ _ HX3.out infoPage rfl (by kernel_rfl) ?_; intro w6 hg6 hu6 _; have G6 := Lib.hid hg6; have U6 := Lib.hid hu6; clear hg6 hu6)
    refine bodyPost_ret (results_block_tmp Tryd.results30 _ _ w.heap.size 2 _ _ _ _ rfl G6.out Tryd.underlying37 rfl infoPage rfl) rfl ⟨by rw [HP.out]; exact PageRes.no _ _, .inr (T3.out.upd U6.out (by have := hlt.out; simp; omega)), (U1.out.trans (U3.out.mono (by simp))).step U6.out (fun x hx => .inr (by simp at hx; omega))⟩
  · have HP := Lib.hid (HGP.out.trans (by rw [hp, if_neg Bool.false_ne_true]))
    clear hp
    go_wp2_with (go_at_call 52; refine (in_b _ _ _).mono ?_; rintro e w' ⟨rfl, rfl⟩)
    refine (get_k 4 4 rfl R2.out (by decide) (by rw [List.length_drop, HLEN.out]; decide)).mono ?_
    rintro e w3 ⟨rfl, r3, u3⟩
    rw [show (((l.drop 4).take 248).drop 1).take 4 = seg l 5 4 from HSG.out 1 4 (by decide)]
    rw [List.drop_drop] at r3
    have R3 := Lib.hid r3
    have U3 := Lib.hid (U2.out.step u3 (fun x hx => .inr (by simp at hx; omega)))
    have HX3 := Lib.hid (u3.get HX2.out (by simp; omega))
    have T3 := Lib.hid (T2.out.upd u3 (by have := hlt.out; simp; omega))
    clear r3 u3
    go_wp2_with fail
    refine (get_k 3 3 rfl R3.out (by decide) (by rw [List.length_drop, HLEN.out]; decide)).mono ?_
    rintro e w4 ⟨rfl, r4, u4⟩
    rw [show (((l.drop 4).take 248).drop (1 + 4)).take 3 = seg l 9 3 from HSG.out 5 3 (by decide)]
    have U4 := Lib.hid (U3.out.step u4 (fun x hx => .inr (by simp at hx; omega)))
    have HX4 := Lib.hid (u4.get HX3.out (by simp; omega))
    have T4 := Lib.hid (T3.out.upd u4 (by have := hlt.out; simp; omega))
    clear r4 u4
    go_wp2_with (refine wpList_store_all rfl 37 (.tmp 6) (.tmp 52) rfl w.heap.size _ rfl rfl _ _ HX4.out infoPage rfl (by kernel_rfl) ?_; intro w6 hg6 hu6 _; have G6 := Lib.hid hg6; have U6 := Lib.hid hu6; clear hg6 hu6)
    refine bodyPost_ret (results_block_tmp Tryd.results30 _ _ w.heap.size 2 _ _ _ _ rfl G6.out Tryd.underlying37 rfl infoPage rfl) rfl ⟨by rw [HP.out]; exact PageRes.no _ _, .inr (T4.out.upd U6.out (by have := hlt.out; simp; omega)), (U1.out.trans (U4.out.mono (by simp))).step U6.out (fun x hx => .inr (by simp at hx; omega))⟩
end Go.Proofs.YtkahpkmofeglgaaDoor
