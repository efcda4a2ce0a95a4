/-
  PROVED HERE: the walk of the statement CodecApart returns true. Conditions: the arguments can be read.
-/
import Derived.Test.YtkahpkmofeglgaaDoorLawHead
import Derived.Test.YtkahpkmofeglgaaDoorLawCat
namespace Go.Proofs.YtkahpkmofeglgaaDoor
open Go.RowKit

theorem alloc_size6 (w : World) (o : Obj) : (w.alloc o).heap.size = w.heap.size + 1 := by simp
theorem six_blocks (w : World) (o0 o1 o2 o3 o4 o5 : Obj) : (((((((w.alloc o0).alloc o1).alloc o2).alloc o3).alloc o4).alloc o5).heap[w.heap.size]? = some o0 ∧ ((((((w.alloc o0).alloc o1).alloc o2).alloc o3).alloc o4).alloc o5).heap[w.heap.size + 1]? = some o1 ∧ ((((((w.alloc o0).alloc o1).alloc o2).alloc o3).alloc o4).alloc o5).heap[w.heap.size + 2]? = some o2 ∧
    ((((((w.alloc o0).alloc o1).alloc o2).alloc o3).alloc o4).alloc o5).heap[w.heap.size + 3]? = some o3 ∧ ((((((w.alloc o0).alloc o1).alloc o2).alloc o3).alloc o4).alloc o5).heap[w.heap.size + 4]? = some o4 ∧ ((((((w.alloc o0).alloc o1).alloc o2).alloc o3).alloc o4).alloc o5).heap[w.heap.size + 5]? = some o5) := by
  have h1 := heap_alloc_new (w.alloc o0) o1
  have h2 := heap_alloc_new ((w.alloc o0).alloc o1) o2
  have h3 := heap_alloc_new (((w.alloc o0).alloc o1).alloc o2) o3
  have h4 := heap_alloc_new ((((w.alloc o0).alloc o1).alloc o2).alloc o3) o4
  have h5 := heap_alloc_new (((((w.alloc o0).alloc o1).alloc o2).alloc o3).alloc o4) o5
  simp only [alloc_size6, Nat.add_assoc, Nat.reduceAdd] at h1 h2 h3 h4 h5
  exact ⟨((((((Upd.refl [] _).alloc o1).alloc o2).alloc o3).alloc o4).alloc o5).get (heap_alloc_new w o0) (by simp), (((((Upd.refl [] _).alloc o2).alloc o3).alloc o4).alloc o5).get h1 (by simp), ((((Upd.refl [] _).alloc o3).alloc o4).alloc o5).get h2 (by simp), (((Upd.refl [] _).alloc o4).alloc o5).get h3 (by simp), ((Upd.refl [] _).alloc o5).get h4 (by simp), h5⟩
theorem putSuper_inj {s s' : List Int} (h7 : s.length = 7) (h7' : s'.length = 7) (ho : okSuper s = true) (ho' : okSuper s' = true) : decide (frame (superBytes s) = frame (superBytes s')) = decide (s = s') := by
  by_cases h : s = s'
  · subst h; rw [decide_eq_true rfl, decide_eq_true rfl]
  · rw [decide_eq_false h, decide_eq_false]
    intro e
    have := getSuper_put h7 ho
    rw [e, getSuper_put h7' ho'] at this
    exact h (Option.some.inj this).symm
theorem putHead_inj {s s' : Hd} (h : s.sum < 4294967296) (h' : s'.sum < 4294967296) (ho : okHead s = true) (ho' : okHead s' = true) : decide (frame (headBytes s) = frame (headBytes s')) = decide (s = s') := by
  by_cases h : s = s'
  · subst h; rw [decide_eq_true rfl, decide_eq_true rfl]
  · rw [decide_eq_false h, decide_eq_false]
    intro e
    have := getHead_put ho (by assumption)
    rw [e, getHead_put ho' h'] at this
    exact h (Option.some.inj this).symm
theorem putCat_inj {s s' : Cat} (ho : okCat s = true) (ho' : okCat s' = true) : decide (pad (catBytes s) 240 = pad (catBytes s') 240) = decide (s = s') := by
  by_cases h : s = s'
  · subst h; rw [decide_eq_true rfl, decide_eq_true rfl]
  · rw [decide_eq_false h, decide_eq_false]
    intro e
    have := getCat_put ho
    rw [e, getCat_put ho'] at this
    exact h (Option.some.inj this).symm
set_option maxRecDepth 100000 in
set_option maxHeartbeats 6400000 in
theorem codecApart_any {w : World} (x0 x1 x2 x3 x4 x5 x6 y0 y1 y2 y3 y4 y5 y6 : Int) {ca da ea ea' fa fa' : Option Addr} {cc dc ec ec' fc fc' : Nat} (c d : Hd) (e f : Cat)
    (hc : IsInts w ca c.pages) (hd : IsInts w da d.pages) (he : IsVols w ea e.vols) (he' : IsInts w ea' e.stack) (hf : IsVols w fa f.vols) (hf' : IsInts w fa' f.stack)
    (lc : c.pages.length ≤ 9223372036854775807) (ld : d.pages.length ≤ 9223372036854775807) (le : e.vols.length ≤ 9223372036854775807) (le' : e.stack.length ≤ 9223372036854775807) (lf : f.vols.length ≤ 9223372036854775807) (lf' : f.stack.length ≤ 9223372036854775807) (sc : c.sum < 4294967296) (sd : d.sum < 4294967296) :
    Calls Tryd.prog 9 #[.agg #[.int .i64 x0, .int .i64 x1, .int .i64 x2, .int .i64 x3, .int .i64 x4, .int .i64 x5, .int .i64 x6], .agg #[.int .i64 y0, .int .i64 y1, .int .i64 y2, .int .i64 y3, .int .i64 y4, .int .i64 y5, .int .i64 y6], .agg #[.int .i64 c.epoch, .int .i64 c.seq, .slice ca c.pages.length cc, .int .u32 (c.sum : Int)], .agg #[.int .i64 d.epoch, .int .i64 d.seq, .slice da d.pages.length dc, .int .u32 (d.sum : Int)], .agg #[.int .i64 e.next, .slice ea e.vols.length ec, .slice ea' e.stack.length ec'], .agg #[.int .i64 f.next, .slice fa f.vols.length fc, .slice fa' f.stack.length fc']] w fun e w' => e = .returned (.bool true) ∧ Upd [] w w' := by
  have hb6 := six_blocks w (.cells #[.int .i64 x0, .int .i64 x1, .int .i64 x2, .int .i64 x3, .int .i64 x4, .int .i64 x5, .int .i64 x6] 23) (.cells #[.int .i64 y0, .int .i64 y1, .int .i64 y2, .int .i64 y3, .int .i64 y4, .int .i64 y5, .int .i64 y6] 23) (.cells #[.int .i64 c.epoch, .int .i64 c.seq, .slice ca c.pages.length cc, .int .u32 (c.sum : Int)] 59) (.cells #[.int .i64 d.epoch, .int .i64 d.seq, .slice da d.pages.length dc, .int .u32 (d.sum : Int)] 59) (.cells #[.int .i64 e.next, .slice ea e.vols.length ec, .slice ea' e.stack.length ec'] 75) (.cells #[.int .i64 f.next, .slice fa f.vols.length fc, .slice fa' f.stack.length fc'] 75)
  obtain ⟨b0, b1, b2, b3, b4, b5⟩ := hb6
  have hu6 : Upd [] w ((((((w.alloc (.cells #[.int .i64 x0, .int .i64 x1, .int .i64 x2, .int .i64 x3, .int .i64 x4, .int .i64 x5, .int .i64 x6] 23)).alloc (.cells #[.int .i64 y0, .int .i64 y1, .int .i64 y2, .int .i64 y3, .int .i64 y4, .int .i64 y5, .int .i64 y6] 23)).alloc (.cells #[.int .i64 c.epoch, .int .i64 c.seq, .slice ca c.pages.length cc, .int .u32 (c.sum : Int)] 59)).alloc (.cells #[.int .i64 d.epoch, .int .i64 d.seq, .slice da d.pages.length dc, .int .u32 (d.sum : Int)] 59)).alloc (.cells #[.int .i64 e.next, .slice ea e.vols.length ec, .slice ea' e.stack.length ec'] 75)).alloc (.cells #[.int .i64 f.next, .slice fa f.vols.length fc, .slice fa' f.stack.length fc'] 75)) := ((((((Upd.refl [] w).alloc _).alloc _).alloc _).alloc _).alloc _).alloc _
  have hk0 : ∀ w', Upd [] ((((((w.alloc (.cells #[.int .i64 x0, .int .i64 x1, .int .i64 x2, .int .i64 x3, .int .i64 x4, .int .i64 x5, .int .i64 x6] 23)).alloc (.cells #[.int .i64 y0, .int .i64 y1, .int .i64 y2, .int .i64 y3, .int .i64 y4, .int .i64 y5, .int .i64 y6] 23)).alloc (.cells #[.int .i64 c.epoch, .int .i64 c.seq, .slice ca c.pages.length cc, .int .u32 (c.sum : Int)] 59)).alloc (.cells #[.int .i64 d.epoch, .int .i64 d.seq, .slice da d.pages.length dc, .int .u32 (d.sum : Int)] 59)).alloc (.cells #[.int .i64 e.next, .slice ea e.vols.length ec, .slice ea' e.stack.length ec'] 75)).alloc (.cells #[.int .i64 f.next, .slice fa f.vols.length fc, .slice fa' f.stack.length fc'] 75)) w' → w'.heap[w.heap.size]? = some (.cells #[.int .i64 x0, .int .i64 x1, .int .i64 x2, .int .i64 x3, .int .i64 x4, .int .i64 x5, .int .i64 x6] 23 (0, 0)) := fun w' u => u.get b0 (by simp)
  have hk1 : ∀ w', Upd [] ((((((w.alloc (.cells #[.int .i64 x0, .int .i64 x1, .int .i64 x2, .int .i64 x3, .int .i64 x4, .int .i64 x5, .int .i64 x6] 23)).alloc (.cells #[.int .i64 y0, .int .i64 y1, .int .i64 y2, .int .i64 y3, .int .i64 y4, .int .i64 y5, .int .i64 y6] 23)).alloc (.cells #[.int .i64 c.epoch, .int .i64 c.seq, .slice ca c.pages.length cc, .int .u32 (c.sum : Int)] 59)).alloc (.cells #[.int .i64 d.epoch, .int .i64 d.seq, .slice da d.pages.length dc, .int .u32 (d.sum : Int)] 59)).alloc (.cells #[.int .i64 e.next, .slice ea e.vols.length ec, .slice ea' e.stack.length ec'] 75)).alloc (.cells #[.int .i64 f.next, .slice fa f.vols.length fc, .slice fa' f.stack.length fc'] 75)) w' → w'.heap[w.heap.size + 1]? = some (.cells #[.int .i64 y0, .int .i64 y1, .int .i64 y2, .int .i64 y3, .int .i64 y4, .int .i64 y5, .int .i64 y6] 23 (0, 0)) := fun w' u => u.get b1 (by simp)
  have hk2 : ∀ w', Upd [] ((((((w.alloc (.cells #[.int .i64 x0, .int .i64 x1, .int .i64 x2, .int .i64 x3, .int .i64 x4, .int .i64 x5, .int .i64 x6] 23)).alloc (.cells #[.int .i64 y0, .int .i64 y1, .int .i64 y2, .int .i64 y3, .int .i64 y4, .int .i64 y5, .int .i64 y6] 23)).alloc (.cells #[.int .i64 c.epoch, .int .i64 c.seq, .slice ca c.pages.length cc, .int .u32 (c.sum : Int)] 59)).alloc (.cells #[.int .i64 d.epoch, .int .i64 d.seq, .slice da d.pages.length dc, .int .u32 (d.sum : Int)] 59)).alloc (.cells #[.int .i64 e.next, .slice ea e.vols.length ec, .slice ea' e.stack.length ec'] 75)).alloc (.cells #[.int .i64 f.next, .slice fa f.vols.length fc, .slice fa' f.stack.length fc'] 75)) w' → w'.heap[w.heap.size + 2]? = some (.cells #[.int .i64 c.epoch, .int .i64 c.seq, .slice ca c.pages.length cc, .int .u32 (c.sum : Int)] 59 (0, 0)) := fun w' u => u.get b2 (by simp)
  have hk3 : ∀ w', Upd [] ((((((w.alloc (.cells #[.int .i64 x0, .int .i64 x1, .int .i64 x2, .int .i64 x3, .int .i64 x4, .int .i64 x5, .int .i64 x6] 23)).alloc (.cells #[.int .i64 y0, .int .i64 y1, .int .i64 y2, .int .i64 y3, .int .i64 y4, .int .i64 y5, .int .i64 y6] 23)).alloc (.cells #[.int .i64 c.epoch, .int .i64 c.seq, .slice ca c.pages.length cc, .int .u32 (c.sum : Int)] 59)).alloc (.cells #[.int .i64 d.epoch, .int .i64 d.seq, .slice da d.pages.length dc, .int .u32 (d.sum : Int)] 59)).alloc (.cells #[.int .i64 e.next, .slice ea e.vols.length ec, .slice ea' e.stack.length ec'] 75)).alloc (.cells #[.int .i64 f.next, .slice fa f.vols.length fc, .slice fa' f.stack.length fc'] 75)) w' → w'.heap[w.heap.size + 3]? = some (.cells #[.int .i64 d.epoch, .int .i64 d.seq, .slice da d.pages.length dc, .int .u32 (d.sum : Int)] 59 (0, 0)) := fun w' u => u.get b3 (by simp)
  have hk4 : ∀ w', Upd [] ((((((w.alloc (.cells #[.int .i64 x0, .int .i64 x1, .int .i64 x2, .int .i64 x3, .int .i64 x4, .int .i64 x5, .int .i64 x6] 23)).alloc (.cells #[.int .i64 y0, .int .i64 y1, .int .i64 y2, .int .i64 y3, .int .i64 y4, .int .i64 y5, .int .i64 y6] 23)).alloc (.cells #[.int .i64 c.epoch, .int .i64 c.seq, .slice ca c.pages.length cc, .int .u32 (c.sum : Int)] 59)).alloc (.cells #[.int .i64 d.epoch, .int .i64 d.seq, .slice da d.pages.length dc, .int .u32 (d.sum : Int)] 59)).alloc (.cells #[.int .i64 e.next, .slice ea e.vols.length ec, .slice ea' e.stack.length ec'] 75)).alloc (.cells #[.int .i64 f.next, .slice fa f.vols.length fc, .slice fa' f.stack.length fc'] 75)) w' → w'.heap[w.heap.size + 4]? = some (.cells #[.int .i64 e.next, .slice ea e.vols.length ec, .slice ea' e.stack.length ec'] 75 (0, 0)) := fun w' u => u.get b4 (by simp)
  have hk5 : ∀ w', Upd [] ((((((w.alloc (.cells #[.int .i64 x0, .int .i64 x1, .int .i64 x2, .int .i64 x3, .int .i64 x4, .int .i64 x5, .int .i64 x6] 23)).alloc (.cells #[.int .i64 y0, .int .i64 y1, .int .i64 y2, .int .i64 y3, .int .i64 y4, .int .i64 y5, .int .i64 y6] 23)).alloc (.cells #[.int .i64 c.epoch, .int .i64 c.seq, .slice ca c.pages.length cc, .int .u32 (c.sum : Int)] 59)).alloc (.cells #[.int .i64 d.epoch, .int .i64 d.seq, .slice da d.pages.length dc, .int .u32 (d.sum : Int)] 59)).alloc (.cells #[.int .i64 e.next, .slice ea e.vols.length ec, .slice ea' e.stack.length ec'] 75)).alloc (.cells #[.int .i64 f.next, .slice fa f.vols.length fc, .slice fa' f.stack.length fc'] 75)) w' → w'.heap[w.heap.size + 5]? = some (.cells #[.int .i64 f.next, .slice fa f.vols.length fc, .slice fa' f.stack.length fc'] 75 (0, 0)) := fun w' u => u.get b5 (by simp)
  obtain ⟨W, hW⟩ : ∃ W, ((((((w.alloc (.cells #[.int .i64 x0, .int .i64 x1, .int .i64 x2, .int .i64 x3, .int .i64 x4, .int .i64 x5, .int .i64 x6] 23)).alloc (.cells #[.int .i64 y0, .int .i64 y1, .int .i64 y2, .int .i64 y3, .int .i64 y4, .int .i64 y5, .int .i64 y6] 23)).alloc (.cells #[.int .i64 c.epoch, .int .i64 c.seq, .slice ca c.pages.length cc, .int .u32 (c.sum : Int)] 59)).alloc (.cells #[.int .i64 d.epoch, .int .i64 d.seq, .slice da d.pages.length dc, .int .u32 (d.sum : Int)] 59)).alloc (.cells #[.int .i64 e.next, .slice ea e.vols.length ec, .slice ea' e.stack.length ec'] 75)).alloc (.cells #[.int .i64 f.next, .slice fa f.vols.length fc, .slice fa' f.stack.length fc'] 75)) = W := ⟨_, rfl⟩
  rw [hW] at hu6 hk0 hk1 hk2 hk3 hk4 hk5
  have hsz : w.heap.size + 6 = W.heap.size := by rw [← hW]; simp
  have K0 := Lib.hid hk0
  have K1 := Lib.hid hk1
  have K2 := Lib.hid hk2
  have K3 := Lib.hid hk3
  have K4 := Lib.hid hk4
  have K5 := Lib.hid hk5
  have HU6 := Lib.hid hu6
  have HSZ := Lib.hid hsz
  have HC : Hid (∀ w', Upd [] W w' → IsInts w' ca c.pages) := fun w' u => hc.upd (hu6.trans u) (by simp)
  have HD : Hid (∀ w', Upd [] W w' → IsInts w' da d.pages) := fun w' u => hd.upd (hu6.trans u) (by simp)
  have HE : Hid (∀ w', Upd [] W w' → IsVols w' ea e.vols) := fun w' u => he.upd (hu6.trans u) (by simp)
  have HE' : Hid (∀ w', Upd [] W w' → IsInts w' ea' e.stack) := fun w' u => he'.upd (hu6.trans u) (by simp)
  have HF : Hid (∀ w', Upd [] W w' → IsVols w' fa f.vols) := fun w' u => hf.upd (hu6.trans u) (by simp)
  have HF' : Hid (∀ w', Upd [] W w' → IsInts w' fa' f.stack) := fun w' u => hf'.upd (hu6.trans u) (by simp)
  have LC := Lib.hid lc
  have LD := Lib.hid ld
  have LE := Lib.hid le
  have LE' := Lib.hid le'
  have LF := Lib.hid lf
  have LF' := Lib.hid lf'
  have SC := Lib.hid sc
  have SD := Lib.hid sd
  have HEQ := Lib.hid (eqSuper x0 x1 x2 x3 x4 x5 x6 y0 y1 y2 y3 y4 y5 y6)
  clear b0 b1 b2 b3 b4 b5 hu6 hk0 hk1 hk2 hk3 hk4 hk5 hsz hc hd he he' hf hf' lc ld le le' lf lf' sc sd
  have HWE := Lib.hid hW
  clear hW
  go_enter Tryd.func9, Tryd.ntmps9
  go_wp2_with fail
  rw [HWE.out]
  refine (new_any _).mono ?_
  rintro en w1 ⟨t, rfl, htB, ht1, u1⟩
  have htw := HSZ.out
  have HT1 := Lib.hid ht1
  have U1 := Lib.hid u1
  clear ht1 u1 HWE
  go_wp2_with fail
  refine (known_any HT1.out).mono ?_
  rintro en w2 ⟨rfl, ht2, u2⟩
  have HT2 := Lib.hid ht2
  have U2 := Lib.hid (U1.out.step u2 (fun x hx => .inr (by simp at hx; omega)))
  clear ht2 u2 HT1
  have hx := K0.out _ U2.out
  go_wp2_with (refine wpList_load_all rfl 23 (.tmp 6) rfl (w.heap.size) 7 rfl _ _ _ _ hx Tryd.underlying23 rfl infoSuper rfl ?_)
  refine (putSuper_any HT2.out x0 x1 x2 x3 x4 x5 x6).mono ?_
  rintro en w3 ⟨⟨v3, rfl, hv⟩, ht, u⟩
  have HT3 := Lib.hid ht
  have U3 := Lib.hid (U2.out.step u (fun x hx => .inr (by simp at hx; omega)))
  have HV3 := Lib.hid (hv.base (C := t + 1) (Nat.succ_le_of_lt HT2.out.lt))
  have HX3 := Lib.hid u
  obtain ⟨E3, hE3⟩ : ∃ E, (if (putSuper [x0, x1, x2, x3, x4, x5, x6]).isSome = true then (0 : Int) else 1) = E := ⟨_, rfl⟩
  rw [hE3]
  have HE3 := Lib.hid hE3
  clear ht u hv hx hE3
  have hx := K1.out _ U3.out
  go_wp2_with (refine wpList_load_all rfl 23 (.tmp 7) rfl (w.heap.size + 1) 7 rfl _ _ _ _ hx Tryd.underlying23 rfl infoSuper rfl ?_)
  refine (putSuper_any HT3.out y0 y1 y2 y3 y4 y5 y6).mono ?_
  rintro en w4 ⟨⟨v4, rfl, hv⟩, ht, u⟩
  have HT4 := Lib.hid ht
  have U4 := Lib.hid (U3.out.step u (fun x hx => .inr (by simp at hx; omega)))
  have HV4 := Lib.hid (hv.base (C := t + 1) (Nat.succ_le_of_lt HT3.out.lt))
  have HX4 := Lib.hid u
  obtain ⟨E4, hE4⟩ : ∃ E, (if (putSuper [y0, y1, y2, y3, y4, y5, y6]).isSome = true then (0 : Int) else 1) = E := ⟨_, rfl⟩
  rw [hE4]
  have HE4 := Lib.hid hE4
  clear ht u hv hx hE4
  have HV3b := Lib.hid (HV3.out.upd HX4.out (by simp))
  go_upto_region 6 with fail
  go_cut [48] (fun v wx => v = .bool false ∧ TabOk wx t ∧ Upd [] W wx)
  case first =>
    have hq3 := HE3.out
    have hq4 := HE4.out
    cases ho : okSuper [x0, x1, x2, x3, x4, x5, x6]
    · rw [show putSuper [x0, x1, x2, x3, x4, x5, x6] = none by unfold putSuper; rw [ho]; simp] at hq3
      simp only [Option.isSome_none, Bool.false_eq_true, if_false] at hq3
      subst hq3
      go_quiet (fail)
      go_wp2_with fail
      go_meet
      exact ⟨rfl, HT4.out.upd (S := []) ⟨rfl, rfl, rfl, Nat.le_refl _, fun _ _ _ => rfl⟩ (by simp), U4.out.trans ⟨rfl, rfl, rfl, Nat.le_refl _, fun _ _ _ => rfl⟩⟩
    · cases ho' : okSuper [y0, y1, y2, y3, y4, y5, y6]
      · rw [show putSuper [x0, x1, x2, x3, x4, x5, x6] = some (frame (superBytes [x0, x1, x2, x3, x4, x5, x6])) by unfold putSuper; rw [ho]; rfl] at hq3
        rw [show putSuper [y0, y1, y2, y3, y4, y5, y6] = none by unfold putSuper; rw [ho']; simp] at hq4
        simp only [Option.isSome_none, Option.isSome_some, if_true, Bool.false_eq_true, if_false] at hq3 hq4
        subst hq3
        subst hq4
        go_quiet (fail)
        go_wp2_with fail
        go_meet
        exact ⟨rfl, HT4.out.upd (S := []) ⟨rfl, rfl, rfl, Nat.le_refl _, fun _ _ _ => rfl⟩ (by simp), U4.out.trans ⟨rfl, rfl, rfl, Nat.le_refl _, fun _ _ _ => rfl⟩⟩
      · have hva := HV3b.out
        have hvb := HV4.out
        have hinj := putSuper_inj (s := [x0, x1, x2, x3, x4, x5, x6]) (s' := [y0, y1, y2, y3, y4, y5, y6]) rfl rfl ho ho'
        rw [show putSuper [x0, x1, x2, x3, x4, x5, x6] = some (frame (superBytes [x0, x1, x2, x3, x4, x5, x6])) by unfold putSuper; rw [ho]; rfl] at hva hq3
        rw [show putSuper [y0, y1, y2, y3, y4, y5, y6] = some (frame (superBytes [y0, y1, y2, y3, y4, y5, y6])) by unfold putSuper; rw [ho']; rfl] at hvb hq4
        simp only [Option.isSome_some, if_true, Option.getD_some] at hva hvb hq3 hq4
        subst hq3
        subst hq4
        have hsame := same_ret (hva.upd (Upd.refl [] w4).drew (by simp)) (hvb.upd (Upd.refl [] w4).drew (by simp)) (by rw [frame_len (by rw [superBytes_len]; simp only [List.length_cons, List.length_nil]; decide)]; decide) (by rw [frame_len (by rw [superBytes_len]; simp only [List.length_cons, List.length_nil]; decide)]; decide)
        rw [hinj] at hsame
        have heq := HEQ.out
        generalize decide ([x0, x1, x2, x3, x4, x5, x6] = [y0, y1, y2, y3, y4, y5, y6]) = D at hsame heq
        have HSAME := Lib.hid hsame
        clear hva hvb hinj hsame ho ho'
        have hE0 : (w4.drew.cell? ⟨w.heap.size, 0, none⟩ = some (.int .i64 x0) ∧ w4.drew.cell? ⟨w.heap.size, 1, none⟩ = some (.int .i64 x1) ∧ w4.drew.cell? ⟨w.heap.size, 2, none⟩ = some (.int .i64 x2) ∧ w4.drew.cell? ⟨w.heap.size, 3, none⟩ = some (.int .i64 x3) ∧ w4.drew.cell? ⟨w.heap.size, 4, none⟩ = some (.int .i64 x4) ∧ w4.drew.cell? ⟨w.heap.size, 5, none⟩ = some (.int .i64 x5) ∧ w4.drew.cell? ⟨w.heap.size, 6, none⟩ = some (.int .i64 x6)) ∧ (w4.drew.cell? ⟨w.heap.size + 1, 0, none⟩ = some (.int .i64 y0) ∧ w4.drew.cell? ⟨w.heap.size + 1, 1, none⟩ = some (.int .i64 y1) ∧ w4.drew.cell? ⟨w.heap.size + 1, 2, none⟩ = some (.int .i64 y2) ∧ w4.drew.cell? ⟨w.heap.size + 1, 3, none⟩ = some (.int .i64 y3) ∧ w4.drew.cell? ⟨w.heap.size + 1, 4, none⟩ = some (.int .i64 y4) ∧ w4.drew.cell? ⟨w.heap.size + 1, 5, none⟩ = some (.int .i64 y5) ∧ w4.drew.cell? ⟨w.heap.size + 1, 6, none⟩ = some (.int .i64 y6)) := ⟨by obtain ⟨k, _⟩ := cells_of (K0.out _ U4.out.drew); exact ⟨k 0, k 1, k 2, k 3, k 4, k 5, k 6⟩, by obtain ⟨k, _⟩ := cells_of (K1.out _ U4.out.drew); exact ⟨k 0, k 1, k 2, k 3, k 4, k 5, k 6⟩⟩
        cases D
        all_goals
          first | (go_region_held (fun w' => (w'.cell? ⟨w.heap.size, 0, none⟩ = some (.int .i64 x0) ∧ w'.cell? ⟨w.heap.size, 1, none⟩ = some (.int .i64 x1) ∧ w'.cell? ⟨w.heap.size, 2, none⟩ = some (.int .i64 x2) ∧ w'.cell? ⟨w.heap.size, 3, none⟩ = some (.int .i64 x3) ∧ w'.cell? ⟨w.heap.size, 4, none⟩ = some (.int .i64 x4) ∧ w'.cell? ⟨w.heap.size, 5, none⟩ = some (.int .i64 x5) ∧ w'.cell? ⟨w.heap.size, 6, none⟩ = some (.int .i64 x6)) ∧ (w'.cell? ⟨w.heap.size + 1, 0, none⟩ = some (.int .i64 y0) ∧ w'.cell? ⟨w.heap.size + 1, 1, none⟩ = some (.int .i64 y1) ∧ w'.cell? ⟨w.heap.size + 1, 2, none⟩ = some (.int .i64 y2) ∧ w'.cell? ⟨w.heap.size + 1, 3, none⟩ = some (.int .i64 y3) ∧ w'.cell? ⟨w.heap.size + 1, 4, none⟩ = some (.int .i64 y4) ∧ w'.cell? ⟨w.heap.size + 1, 5, none⟩ = some (.int .i64 y5) ∧ w'.cell? ⟨w.heap.size + 1, 6, none⟩ = some (.int .i64 y6))) (first | exact hE0 | exact hE1) (first
            | (go_at_call 18; (with_reducible refine HSAME.out.mono ?_); rintro en w5 ⟨rfl, u5⟩; have U5 := Lib.hid ((Upd.refl [] w4).drew.trans u5); have hE1 : (w5.cell? ⟨w.heap.size, 0, none⟩ = some (.int .i64 x0) ∧ w5.cell? ⟨w.heap.size, 1, none⟩ = some (.int .i64 x1) ∧ w5.cell? ⟨w.heap.size, 2, none⟩ = some (.int .i64 x2) ∧ w5.cell? ⟨w.heap.size, 3, none⟩ = some (.int .i64 x3) ∧ w5.cell? ⟨w.heap.size, 4, none⟩ = some (.int .i64 x4) ∧ w5.cell? ⟨w.heap.size, 5, none⟩ = some (.int .i64 x5) ∧ w5.cell? ⟨w.heap.size, 6, none⟩ = some (.int .i64 x6)) ∧ (w5.cell? ⟨w.heap.size + 1, 0, none⟩ = some (.int .i64 y0) ∧ w5.cell? ⟨w.heap.size + 1, 1, none⟩ = some (.int .i64 y1) ∧ w5.cell? ⟨w.heap.size + 1, 2, none⟩ = some (.int .i64 y2) ∧ w5.cell? ⟨w.heap.size + 1, 3, none⟩ = some (.int .i64 y3) ∧ w5.cell? ⟨w.heap.size + 1, 4, none⟩ = some (.int .i64 y4) ∧ w5.cell? ⟨w.heap.size + 1, 5, none⟩ = some (.int .i64 y5) ∧ w5.cell? ⟨w.heap.size + 1, 6, none⟩ = some (.int .i64 y6)) := ⟨by obtain ⟨k, _⟩ := cells_of (K0.out _ (U4.out.drew.trans u5)); exact ⟨k 0, k 1, k 2, k 3, k 4, k 5, k 6⟩, by obtain ⟨k, _⟩ := cells_of (K1.out _ (U4.out.drew.trans u5)); exact ⟨k 0, k 1, k 2, k 3, k 4, k 5, k 6⟩⟩; clear u5))) | fail
          all_goals
            clear hE0 hE1
            go_wp2_with fail
            go_meet
            exact ⟨rfl, HT4.out.upd U5.out (by simp), U4.out.trans U5.out⟩
  case rest =>
  obtain ⟨rfl, ht5, hu5⟩ := hcut
  obtain ⟨w5, rfl⟩ : ∃ w5 : World, w5 = wc := ⟨_, rfl⟩
  have HT5 := Lib.hid ht5
  have U5 := Lib.hid hu5
  clear ht5 hu5 HT2 HT3 HT4 HV3 HV4 HV3b HX3 HX4 HEQ K0 K1 U1 U2 U3 U4
  have hx := K2.out _ U5.out
  go_wp2_with (refine wpList_load_all rfl 59 (.tmp 8) rfl (w.heap.size + 2) 4 rfl _ _ _ _ hx Tryd.underlying59 rfl infoHead rfl ?_)
  refine (putHead_any (h := c) (cap := cc) HT5.out (HC.out _ U5.out) LC.out SC.out).mono ?_
  rintro en w6 ⟨⟨v6, rfl, hv⟩, ht, u⟩
  have HT6 := Lib.hid ht
  have U6 := Lib.hid (U5.out.step u (fun x hx => .inr (by simp at hx; omega)))
  have HV6 := Lib.hid (hv.base (C := t + 1) (Nat.succ_le_of_lt HT5.out.lt))
  have HX6 := Lib.hid u
  obtain ⟨E6, hE6⟩ : ∃ E, (if (putHead c).isSome = true then (0 : Int) else 1) = E := ⟨_, rfl⟩
  rw [hE6]
  have HE6 := Lib.hid hE6
  clear ht u hv hx hE6
  have hx := K3.out _ U6.out
  go_wp2_with (refine wpList_load_all rfl 59 (.tmp 9) rfl (w.heap.size + 3) 4 rfl _ _ _ _ hx Tryd.underlying59 rfl infoHead rfl ?_)
  refine (putHead_any (h := d) (cap := dc) HT6.out (HD.out _ U6.out) LD.out SD.out).mono ?_
  rintro en w7 ⟨⟨v7, rfl, hv⟩, ht, u⟩
  have HT7 := Lib.hid ht
  have U7 := Lib.hid (U6.out.step u (fun x hx => .inr (by simp at hx; omega)))
  have HV7 := Lib.hid (hv.base (C := t + 1) (Nat.succ_le_of_lt HT6.out.lt))
  have HX7 := Lib.hid u
  obtain ⟨E7, hE7⟩ : ∃ E, (if (putHead d).isSome = true then (0 : Int) else 1) = E := ⟨_, rfl⟩
  rw [hE7]
  have HE7 := Lib.hid hE7
  clear ht u hv hx hE7
  have HV6b := Lib.hid (HV6.out.upd HX7.out (by simp))
  go_upto_region 10 with fail
  go_cut [75] (fun v wx => v = .bool false ∧ TabOk wx t ∧ Upd [] W wx)
  case first =>
    have hq6 := HE6.out
    have hq7 := HE7.out
    cases ho : okHead c
    · rw [show putHead c = none by unfold putHead; rw [ho]; simp] at hq6
      simp only [Option.isSome_none, Bool.false_eq_true, if_false] at hq6
      subst hq6
      go_quiet (fail)
      go_wp2_with fail
      go_meet
      exact ⟨rfl, HT7.out.upd (S := []) ⟨rfl, rfl, rfl, Nat.le_refl _, fun _ _ _ => rfl⟩ (by simp), U7.out.trans ⟨rfl, rfl, rfl, Nat.le_refl _, fun _ _ _ => rfl⟩⟩
    · cases ho' : okHead d
      · rw [show putHead c = some (frame (headBytes c)) by unfold putHead; rw [ho]; rfl] at hq6
        rw [show putHead d = none by unfold putHead; rw [ho']; simp] at hq7
        simp only [Option.isSome_none, Option.isSome_some, if_true, Bool.false_eq_true, if_false] at hq6 hq7
        subst hq6
        subst hq7
        go_quiet (fail)
        go_wp2_with fail
        go_meet
        exact ⟨rfl, HT7.out.upd (S := []) ⟨rfl, rfl, rfl, Nat.le_refl _, fun _ _ _ => rfl⟩ (by simp), U7.out.trans ⟨rfl, rfl, rfl, Nat.le_refl _, fun _ _ _ => rfl⟩⟩
      · have hva := HV6b.out
        have hvb := HV7.out
        have hinj := putHead_inj SC.out SD.out ho ho'
        have hl1 : (frame (headBytes c)).length ≤ 9223372036854775807 := by
          rw [frame_len (by rw [headBytes_len]; have := (okHead0_parts (okHead_parts ho).1).2.2.2; omega)]; decide
        have hl2 : (frame (headBytes d)).length ≤ 9223372036854775807 := by
          rw [frame_len (by rw [headBytes_len]; have := (okHead0_parts (okHead_parts ho').1).2.2.2; omega)]; decide
        rw [show putHead c = some (frame (headBytes c)) by unfold putHead; rw [ho]; rfl] at hva hq6
        rw [show putHead d = some (frame (headBytes d)) by unfold putHead; rw [ho']; rfl] at hvb hq7
        simp only [Option.isSome_some, if_true, Option.getD_some] at hva hvb hq6 hq7
        subst hq6
        subst hq7
        have hsame := same_ret (hva.upd (Upd.refl [] w7).drew (by simp)) (hvb.upd (Upd.refl [] w7).drew (by simp)) hl1 hl2
        rw [hinj] at hsame
        obtain ⟨D, hDD⟩ : ∃ D, decide (c = d) = D := ⟨_, rfl⟩
        rw [hDD] at hsame
        have HDD := Lib.hid hDD
        have HSAME := Lib.hid hsame
        clear hva hvb hinj hsame ho ho' hl1 hl2 hDD
        have hE0 : (w7.drew.cell? ⟨w.heap.size + 2, 0, none⟩ = some (.int .i64 c.epoch) ∧ w7.drew.cell? ⟨w.heap.size + 2, 1, none⟩ = some (.int .i64 c.seq) ∧ w7.drew.cell? ⟨w.heap.size + 2, 2, none⟩ = some (.slice ca c.pages.length cc) ∧ w7.drew.cell? ⟨w.heap.size + 2, 3, none⟩ = some (.int .u32 (c.sum : Int))) ∧ (w7.drew.cell? ⟨w.heap.size + 3, 0, none⟩ = some (.int .i64 d.epoch) ∧ w7.drew.cell? ⟨w.heap.size + 3, 1, none⟩ = some (.int .i64 d.seq) ∧ w7.drew.cell? ⟨w.heap.size + 3, 2, none⟩ = some (.slice da d.pages.length dc) ∧ w7.drew.cell? ⟨w.heap.size + 3, 3, none⟩ = some (.int .u32 (d.sum : Int))) := ⟨cells4 (K2.out _ U7.out.drew), cells4 (K3.out _ U7.out.drew)⟩
        cases D
        all_goals
          first | (go_region_held (fun w' => (w'.cell? ⟨w.heap.size + 2, 0, none⟩ = some (.int .i64 c.epoch) ∧ w'.cell? ⟨w.heap.size + 2, 1, none⟩ = some (.int .i64 c.seq) ∧ w'.cell? ⟨w.heap.size + 2, 2, none⟩ = some (.slice ca c.pages.length cc) ∧ w'.cell? ⟨w.heap.size + 2, 3, none⟩ = some (.int .u32 (c.sum : Int))) ∧ (w'.cell? ⟨w.heap.size + 3, 0, none⟩ = some (.int .i64 d.epoch) ∧ w'.cell? ⟨w.heap.size + 3, 1, none⟩ = some (.int .i64 d.seq) ∧ w'.cell? ⟨w.heap.size + 3, 2, none⟩ = some (.slice da d.pages.length dc) ∧ w'.cell? ⟨w.heap.size + 3, 3, none⟩ = some (.int .u32 (d.sum : Int)))) (first | exact hE0 | exact hE1 | exact hE2) (first
            | (go_at_call 18; (with_reducible refine HSAME.out.mono ?_); rintro en w8 ⟨rfl, u8⟩; have U8 := Lib.hid ((Upd.refl [] w7).drew.trans u8); have hE1 : (w8.cell? ⟨w.heap.size + 2, 0, none⟩ = some (.int .i64 c.epoch) ∧ w8.cell? ⟨w.heap.size + 2, 1, none⟩ = some (.int .i64 c.seq) ∧ w8.cell? ⟨w.heap.size + 2, 2, none⟩ = some (.slice ca c.pages.length cc) ∧ w8.cell? ⟨w.heap.size + 2, 3, none⟩ = some (.int .u32 (c.sum : Int))) ∧ (w8.cell? ⟨w.heap.size + 3, 0, none⟩ = some (.int .i64 d.epoch) ∧ w8.cell? ⟨w.heap.size + 3, 1, none⟩ = some (.int .i64 d.seq) ∧ w8.cell? ⟨w.heap.size + 3, 2, none⟩ = some (.slice da d.pages.length dc) ∧ w8.cell? ⟨w.heap.size + 3, 3, none⟩ = some (.int .u32 (d.sum : Int))) := ⟨cells4 (K2.out _ (U7.out.drew.trans u8)), cells4 (K3.out _ (U7.out.drew.trans u8))⟩; have hh := heads_any (h := c) (h' := d) (cap := cc) (cap' := dc) (HC.out _ (U7.out.drew.trans u8)) (HD.out _ (U7.out.drew.trans u8)) LC.out LD.out; rw [HDD.out] at hh; unfold headV at hh; have HH := Lib.hid hh; clear u8 hh)
            | (go_at_call 34; (with_reducible refine HH.out.mono ?_); rintro en w9 ⟨rfl, u9⟩; have U9 := Lib.hid (U8.out.trans u9); have hE2 : (w9.cell? ⟨w.heap.size + 2, 0, none⟩ = some (.int .i64 c.epoch) ∧ w9.cell? ⟨w.heap.size + 2, 1, none⟩ = some (.int .i64 c.seq) ∧ w9.cell? ⟨w.heap.size + 2, 2, none⟩ = some (.slice ca c.pages.length cc) ∧ w9.cell? ⟨w.heap.size + 2, 3, none⟩ = some (.int .u32 (c.sum : Int))) ∧ (w9.cell? ⟨w.heap.size + 3, 0, none⟩ = some (.int .i64 d.epoch) ∧ w9.cell? ⟨w.heap.size + 3, 1, none⟩ = some (.int .i64 d.seq) ∧ w9.cell? ⟨w.heap.size + 3, 2, none⟩ = some (.slice da d.pages.length dc) ∧ w9.cell? ⟨w.heap.size + 3, 3, none⟩ = some (.int .u32 (d.sum : Int))) := ⟨cells4 (K2.out _ ((U7.out.trans U8.out).trans u9)), cells4 (K3.out _ ((U7.out.trans U8.out).trans u9))⟩; clear u9))) | fail
          all_goals
            clear hE0 hE1 hE2
            go_wp2_with fail
            go_meet
            exact ⟨rfl, HT7.out.upd U9.out (by simp), U7.out.trans U9.out⟩
  case rest =>
  obtain ⟨rfl, ht8, hu8⟩ := hcut
  obtain ⟨w8, rfl⟩ : ∃ w8 : World, w8 = wc := ⟨_, rfl⟩
  have HT8 := Lib.hid ht8
  have U8 := Lib.hid hu8
  clear ht8 hu8 HT5 HT6 HT7 HV6 HV7 HV6b HX6 HX7 K2 K3 U5 U6 U7
  have hx := K4.out _ U8.out
  go_wp2_with (refine wpList_load_all rfl 75 (.tmp 10) rfl (w.heap.size + 4) 3 rfl _ _ _ _ hx Tryd.underlying75 rfl infoCat rfl ?_)
  refine (putCat_any (c := e) (cap := ec) (cap' := ec') (HE.out _ U8.out) (HE'.out _ U8.out) LE.out LE'.out).mono ?_
  rintro en w9 ⟨⟨v9, rfl, hv⟩, u⟩
  have U9 := Lib.hid (U8.out.trans u)
  have HV9 := Lib.hid hv
  have HX9 := Lib.hid u
  obtain ⟨E9, hE9⟩ : ∃ E, (if (putCat e).isSome = true then (0 : Int) else 1) = E := ⟨_, rfl⟩
  rw [hE9]
  have HE9 := Lib.hid hE9
  clear u hv hx hE9
  have hx := K5.out _ U9.out
  go_wp2_with (refine wpList_load_all rfl 75 (.tmp 11) rfl (w.heap.size + 5) 3 rfl _ _ _ _ hx Tryd.underlying75 rfl infoCat rfl ?_)
  refine (putCat_any (c := f) (cap := fc) (cap' := fc') (HF.out _ U9.out) (HF'.out _ U9.out) LF.out LF'.out).mono ?_
  rintro en w10 ⟨⟨v10, rfl, hv⟩, u⟩
  have U10 := Lib.hid (U9.out.trans u)
  have HV10 := Lib.hid hv
  have HX10 := Lib.hid u
  obtain ⟨E10, hE10⟩ : ∃ E, (if (putCat f).isSome = true then (0 : Int) else 1) = E := ⟨_, rfl⟩
  rw [hE10]
  have HE10 := Lib.hid hE10
  clear u hv hx hE10
  have HV9b := Lib.hid (HV9.out.upd HX10.out (by simp))
  have hq9 := HE9.out
  have hq10 := HE10.out
  cases ho : okCat e
  · rw [show putCat e = none by unfold putCat; rw [ho]; simp] at hq9
    simp only [Option.isSome_none, Bool.false_eq_true, if_false] at hq9
    subst hq9
    go_wp2_with fail
    go_quiet (fail)
    go_wp2
    go_ret
    exact ⟨rfl, HU6.out.trans (U10.out.trans ⟨rfl, rfl, rfl, Nat.le_refl _, fun _ _ _ => rfl⟩)⟩
  · cases ho' : okCat f
    · rw [show putCat e = some (pad (catBytes e) 240) by unfold putCat; rw [ho]; rfl] at hq9
      rw [show putCat f = none by unfold putCat; rw [ho']; simp] at hq10
      simp only [Option.isSome_none, Option.isSome_some, if_true, Bool.false_eq_true, if_false] at hq9 hq10
      subst hq9
      subst hq10
      go_wp2_with fail
      go_quiet (fail)
      go_wp2
      go_ret
      exact ⟨rfl, HU6.out.trans (U10.out.trans ⟨rfl, rfl, rfl, Nat.le_refl _, fun _ _ _ => rfl⟩)⟩
    · have hva := HV9b.out
      have hvb := HV10.out
      have hinj := putCat_inj ho ho'
      have hl : ∀ c, okCat c = true → (pad (catBytes c) 240).length ≤ 9223372036854775807 := fun c h => by
        obtain ⟨_, h8, he⟩ := okCat0_parts (okCat_parts h).1
        rw [pad_len (by rw [catBytes_len h8 he]; decide)]; decide
      have hl1 := hl _ ho
      have hl2 := hl _ ho'
      rw [show putCat e = some (pad (catBytes e) 240) by unfold putCat; rw [ho]; rfl] at hva hq9
      rw [show putCat f = some (pad (catBytes f) 240) by unfold putCat; rw [ho']; rfl] at hvb hq10
      simp only [Option.isSome_some, if_true, Option.getD_some] at hva hvb hq9 hq10
      subst hq9
      subst hq10
      have hsame := same_ret (hva.upd (Upd.refl [] w10).drew (by simp)) (hvb.upd (Upd.refl [] w10).drew (by simp)) hl1 hl2
      rw [hinj] at hsame
      obtain ⟨D, hDD⟩ : ∃ D, decide (e = f) = D := ⟨_, rfl⟩
      rw [hDD] at hsame
      have HDD := Lib.hid hDD
      have HSAME := Lib.hid hsame
      clear hva hvb hinj hsame ho ho' hl hl1 hl2 hDD
      have hE0 : (w10.drew.cell? ⟨w.heap.size + 4, 0, none⟩ = some (.int .i64 e.next) ∧ w10.drew.cell? ⟨w.heap.size + 4, 1, none⟩ = some (.slice ea e.vols.length ec) ∧ w10.drew.cell? ⟨w.heap.size + 4, 2, none⟩ = some (.slice ea' e.stack.length ec')) ∧ (w10.drew.cell? ⟨w.heap.size + 5, 0, none⟩ = some (.int .i64 f.next) ∧ w10.drew.cell? ⟨w.heap.size + 5, 1, none⟩ = some (.slice fa f.vols.length fc) ∧ w10.drew.cell? ⟨w.heap.size + 5, 2, none⟩ = some (.slice fa' f.stack.length fc')) := ⟨cells3 (K4.out _ U10.out.drew), cells3 (K5.out _ U10.out.drew)⟩
      go_wp2_with fail
      cases D
      all_goals
        first | (go_region_held (fun w' => (w'.cell? ⟨w.heap.size + 4, 0, none⟩ = some (.int .i64 e.next) ∧ w'.cell? ⟨w.heap.size + 4, 1, none⟩ = some (.slice ea e.vols.length ec) ∧ w'.cell? ⟨w.heap.size + 4, 2, none⟩ = some (.slice ea' e.stack.length ec')) ∧ (w'.cell? ⟨w.heap.size + 5, 0, none⟩ = some (.int .i64 f.next) ∧ w'.cell? ⟨w.heap.size + 5, 1, none⟩ = some (.slice fa f.vols.length fc) ∧ w'.cell? ⟨w.heap.size + 5, 2, none⟩ = some (.slice fa' f.stack.length fc'))) (first | exact hE0 | exact hE1 | exact hE2) (first
          | (go_at_call 18; (with_reducible refine HSAME.out.mono ?_); rintro en w11 ⟨rfl, u11⟩; have U11 := Lib.hid ((Upd.refl [] w10).drew.trans u11); have hE1 : (w11.cell? ⟨w.heap.size + 4, 0, none⟩ = some (.int .i64 e.next) ∧ w11.cell? ⟨w.heap.size + 4, 1, none⟩ = some (.slice ea e.vols.length ec) ∧ w11.cell? ⟨w.heap.size + 4, 2, none⟩ = some (.slice ea' e.stack.length ec')) ∧ (w11.cell? ⟨w.heap.size + 5, 0, none⟩ = some (.int .i64 f.next) ∧ w11.cell? ⟨w.heap.size + 5, 1, none⟩ = some (.slice fa f.vols.length fc) ∧ w11.cell? ⟨w.heap.size + 5, 2, none⟩ = some (.slice fa' f.stack.length fc')) := ⟨cells3 (K4.out _ (U10.out.drew.trans u11)), cells3 (K5.out _ (U10.out.drew.trans u11))⟩; have hh := cats_any (c := e) (d := f) (cap := ec) (cap' := ec') (dap := fc) (dap' := fc') (HE.out _ (U10.out.drew.trans u11)) (HE'.out _ (U10.out.drew.trans u11)) (HF.out _ (U10.out.drew.trans u11)) (HF'.out _ (U10.out.drew.trans u11)) LE.out LE'.out LF.out LF'.out; rw [HDD.out] at hh; unfold catV at hh; have HH := Lib.hid hh; clear u11 hh)
          | (go_at_call 40; (with_reducible refine HH.out.mono ?_); rintro en w12 ⟨rfl, u12⟩; have U12 := Lib.hid (U11.out.trans u12); have hE2 : (w12.cell? ⟨w.heap.size + 4, 0, none⟩ = some (.int .i64 e.next) ∧ w12.cell? ⟨w.heap.size + 4, 1, none⟩ = some (.slice ea e.vols.length ec) ∧ w12.cell? ⟨w.heap.size + 4, 2, none⟩ = some (.slice ea' e.stack.length ec')) ∧ (w12.cell? ⟨w.heap.size + 5, 0, none⟩ = some (.int .i64 f.next) ∧ w12.cell? ⟨w.heap.size + 5, 1, none⟩ = some (.slice fa f.vols.length fc) ∧ w12.cell? ⟨w.heap.size + 5, 2, none⟩ = some (.slice fa' f.stack.length fc')) := ⟨cells3 (K4.out _ ((U10.out.trans U11.out).trans u12)), cells3 (K5.out _ ((U10.out.trans U11.out).trans u12))⟩; clear u12))) | fail
        all_goals
          clear hE0 hE1 hE2
          go_wp2
          go_ret
          exact ⟨rfl, HU6.out.trans (U10.out.trans U12.out)⟩
end Go.Proofs.YtkahpkmofeglgaaDoor
