/-
  PROVED HERE: the walk of the statement CodecErrors returns true. Conditions: the arguments can be read.
-/
import Derived.Test.YtkahpkmofeglgaaDoorLawHead
import Derived.Test.YtkahpkmofeglgaaDoorSpoilt
import Derived.Test.YtkahpkmofeglgaaDoorOpenAgg
namespace Go.Proofs.YtkahpkmofeglgaaDoor
open Go.RowKit

theorem alloc_size (w : World) (o : Obj) : (w.alloc o).heap.size = w.heap.size + 1 := by simp
theorem three_blocks (w : World) (o0 o1 o2 : Obj) : ((((w.alloc o0).alloc o1).alloc o2).heap[w.heap.size]? = some o0 ∧ (((w.alloc o0).alloc o1).alloc o2).heap[w.heap.size + 1]? = some o1 ∧ (((w.alloc o0).alloc o1).alloc o2).heap[w.heap.size + 2]? = some o2) := by
  have h1 := heap_alloc_new (w.alloc o0) o1
  have h2 := heap_alloc_new ((w.alloc o0).alloc o1) o2
  simp only [alloc_size, Nat.add_assoc, Nat.reduceAdd] at h1 h2
  exact ⟨((Upd.refl [] _).alloc o1 |>.alloc o2).get (heap_alloc_new w o0) (by simp), ((Upd.refl [] _).alloc o2).get h1 (by simp), h2⟩
theorem superV_any (l : List Nat) : ∃ y0 y1 y2 y3 y4 y5 y6 : Int, superV ((getSuper l).getD superNone) = .agg #[.int .i64 y0, .int .i64 y1, .int .i64 y2, .int .i64 y3, .int .i64 y4, .int .i64 y5, .int .i64 y6] := by
  have h7 : ((getSuper l).getD superNone).length = 7 := by
    unfold getSuper
    split
    · exact superOf_len l
    · rfl
  obtain ⟨a, b, c, d, e, f, g, h⟩ := seven _ h7
  exact ⟨a, b, c, d, e, f, g, by rw [h]; rfl⟩
theorem putPage_any {t : Nat} {w : World} {a : Option Addr} {cap : Nat} {x : Img} (ht : TabOk w t) (hb : IsBytes w a x.body) (hl : x.body.length ≤ 9223372036854775807) :
    Calls Tryd.prog 28 #[pt t, imgV x (.slice a x.body.length cap)] w fun e w' => PutOut w.heap.size (putPage x) e w' ∧ TabOk w' t ∧ Upd [t] w w' := by
  cases ho : okImg x
  · rw [show putPage x = none by unfold putPage; rw [ho]; rfl]
    exact (putPage_no (t := some ⟨t, 0, none⟩) x (.inr ⟨t, rfl, ho⟩) hl).mono fun e w' ⟨h1, h2⟩ => by subst h1; exact ⟨PutOut.no _ _, ht.upd h2 (by simp), h2.mono (by simp)⟩
  · rw [show putPage x = some (frame (pageBytes x)) by unfold putPage; rw [ho]; rfl]
    refine (putPage_yes ht hb ho).mono fun e w' ⟨⟨b, h1, h2, h3⟩, h4, h5⟩ => ?_
    subst h1
    exact ⟨PutOut.yes (h3.ret h2 (frame_len (by rw [pageBytes_len, (okImg_parts ho).2.2.2.2]; decide)) (by decide)), h4, h5⟩
theorem spoilR_super {s : List Int} (h7 : s.length = 7) (pos : Int) (ch : Nat) : ((putSuper s).getD [] = [] ∨ ((putSuper s).getD []).length = 256) ∧ ((putSuper s).isSome && ((spoilR ((putSuper s).getD []) pos ch).2 && (getSuper (spoilR ((putSuper s).getD []) pos ch).1).isSome)) = false := by
  cases ho : okSuper s
  · rw [show putSuper s = none by unfold putSuper; rw [ho]; rfl]
    exact ⟨.inl rfl, rfl⟩
  · have hlen : (frame (superBytes s)).length = 256 := frame_len (by rw [superBytes_len, h7]; decide)
    have hsd : soundL (frame (superBytes s)) [80, 83, 85, 80] = true := by
      have := getSuper_put h7 ho
      cases h : soundL (frame (superBytes s)) [80, 83, 85, 80]
      · unfold getSuper at this; rw [h] at this; simp at this
      · rfl
    rw [show putSuper s = some (frame (superBytes s)) by unfold putSuper; rw [ho]; rfl]
    refine ⟨.inr hlen, ?_⟩
    simp only [Option.getD_some, Option.isSome_some, Bool.true_and]
    unfold spoilR
    rw [if_neg (fun e => by rw [e] at hlen; simp at hlen)]
    cases ht : (spoil (frame (superBytes s)) (bitOf pos) ch 32).2
    · rfl
    · have := spoil_unsound (frame_ok (superBytes_ok s)) hsd (word' := [80, 83, 85, 80]) (Nat.le_of_lt (bitOf_lt pos)) ht
      unfold getSuper
      rw [this]; rfl
theorem spoilR_head {s : Hd} (hs : s.sum < 4294967296) (pos : Int) (ch : Nat) : ((putHead s).getD [] = [] ∨ ((putHead s).getD []).length = 256) ∧ ((putHead s).isSome && ((spoilR ((putHead s).getD []) pos ch).2 && (getHead (spoilR ((putHead s).getD []) pos ch).1).isSome)) = false := by
  cases ho : okHead s
  · rw [show putHead s = none by unfold putHead; rw [ho]; rfl]
    exact ⟨.inl rfl, rfl⟩
  · have hlen : (frame (headBytes s)).length = 256 := frame_len (by rw [headBytes_len]; have := (okHead0_parts (okHead_parts ho).1).2.2.2; omega)
    have hsd : soundL (frame (headBytes s)) [80, 76, 79, 71] = true := by
      have := getHead_put ho hs
      cases h : soundL (frame (headBytes s)) [80, 76, 79, 71]
      · unfold getHead at this; rw [h] at this; simp at this
      · rfl
    rw [show putHead s = some (frame (headBytes s)) by unfold putHead; rw [ho]; rfl]
    refine ⟨.inr hlen, ?_⟩
    simp only [Option.getD_some, Option.isSome_some, Bool.true_and]
    unfold spoilR
    rw [if_neg (fun e => by rw [e] at hlen; simp at hlen)]
    cases ht : (spoil (frame (headBytes s)) (bitOf pos) ch 32).2
    · rfl
    · have := spoil_unsound (frame_ok (headBytes_ok s)) hsd (word' := [80, 76, 79, 71]) (Nat.le_of_lt (bitOf_lt pos)) ht
      unfold getHead
      rw [this]; rfl
theorem spoilR_page {x : Img} (hb : BytesOk x.body) (pos : Int) (ch : Nat) : ((putPage x).getD [] = [] ∨ ((putPage x).getD []).length = 256) ∧ ((putPage x).isSome && ((spoilR ((putPage x).getD []) pos ch).2 && (getPage (spoilR ((putPage x).getD []) pos ch).1 x.num).isSome)) = false := by
  cases ho : okImg x
  · rw [show putPage x = none by unfold putPage; rw [ho]; rfl]
    exact ⟨.inl rfl, rfl⟩
  · have hlen : (frame (pageBytes x)).length = 256 := frame_len (by rw [pageBytes_len, (okImg_parts ho).2.2.2.2]; decide)
    have hsd : soundL (frame (pageBytes x)) [80, 80, 65, 71] = true := by
      have := getPage_put ho x.num
      rw [decide_eq_true rfl, if_pos rfl] at this
      cases h : soundL (frame (pageBytes x)) [80, 80, 65, 71]
      · unfold getPage at this
        rw [h, decide_eq_false (frame_page_ne x)] at this
        simp at this
      · rfl
    rw [show putPage x = some (frame (pageBytes x)) by unfold putPage; rw [ho]; rfl]
    refine ⟨.inr hlen, ?_⟩
    simp only [Option.getD_some, Option.isSome_some, Bool.true_and]
    unfold spoilR
    rw [if_neg (fun e => by rw [e] at hlen; simp at hlen)]
    cases ht : (spoil (frame (pageBytes x)) (bitOf pos) ch 32).2
    · rfl
    · have h1 := spoil_unsound (frame_ok (pageBytes_ok hb)) hsd (word' := [80, 80, 65, 71]) (Nat.le_of_lt (bitOf_lt pos)) ht
      have h2 := page_not_zero ho hb (bitOf pos) ch
      unfold getPage
      rw [h1, decide_eq_false h2]; rfl
set_option maxRecDepth 100000 in
set_option maxHeartbeats 6400000 in
theorem codecErrors_any {w : World} (x0 x1 x2 x3 x4 x5 x6 : Int) {ca ma : Option Addr} {cc mc : Nat} (c : Hd) (m : Img) (pos : Int) (ch : Nat) (hc : IsInts w ca c.pages) (hm : IsBytes w ma m.body) (lc : c.pages.length ≤ 9223372036854775807) (sc : c.sum < 4294967296) (lm : m.body.length ≤ 9223372036854775807)
    (hch : ch < 4294967296) (hp : -9223372036854775808 ≤ pos ∧ pos ≤ 9223372036854775807) :
    Calls Tryd.prog 11 #[.agg #[.int .i64 x0, .int .i64 x1, .int .i64 x2, .int .i64 x3, .int .i64 x4, .int .i64 x5, .int .i64 x6], .agg #[.int .i64 c.epoch, .int .i64 c.seq, .slice ca c.pages.length cc, .int .u32 (c.sum : Int)], .agg #[.int .i64 m.num, .int .i64 m.kind, .slice ma m.body.length mc], .int .i64 pos, .int .u32 (ch : Int)] w fun e w' => e = .returned (.bool true) ∧ Upd [] w w' := by
  have hb6 := three_blocks w (.cells #[.int .i64 x0, .int .i64 x1, .int .i64 x2, .int .i64 x3, .int .i64 x4, .int .i64 x5, .int .i64 x6] 23) (.cells #[.int .i64 c.epoch, .int .i64 c.seq, .slice ca c.pages.length cc, .int .u32 (c.sum : Int)] 59) (.cells #[.int .i64 m.num, .int .i64 m.kind, .slice ma m.body.length mc] 39)
  obtain ⟨b0, b1, b2⟩ := hb6
  have hu6 : Upd [] w (((w.alloc (.cells #[.int .i64 x0, .int .i64 x1, .int .i64 x2, .int .i64 x3, .int .i64 x4, .int .i64 x5, .int .i64 x6] 23)).alloc (.cells #[.int .i64 c.epoch, .int .i64 c.seq, .slice ca c.pages.length cc, .int .u32 (c.sum : Int)] 59)).alloc (.cells #[.int .i64 m.num, .int .i64 m.kind, .slice ma m.body.length mc] 39)) := (((Upd.refl [] w).alloc _).alloc _).alloc _
  have hk0 : ∀ w', Upd [] (((w.alloc (.cells #[.int .i64 x0, .int .i64 x1, .int .i64 x2, .int .i64 x3, .int .i64 x4, .int .i64 x5, .int .i64 x6] 23)).alloc (.cells #[.int .i64 c.epoch, .int .i64 c.seq, .slice ca c.pages.length cc, .int .u32 (c.sum : Int)] 59)).alloc (.cells #[.int .i64 m.num, .int .i64 m.kind, .slice ma m.body.length mc] 39)) w' → w'.heap[w.heap.size]? = some (.cells #[.int .i64 x0, .int .i64 x1, .int .i64 x2, .int .i64 x3, .int .i64 x4, .int .i64 x5, .int .i64 x6] 23 (0, 0)) := fun w' u => u.get b0 (by simp)
  have hk1 : ∀ w', Upd [] (((w.alloc (.cells #[.int .i64 x0, .int .i64 x1, .int .i64 x2, .int .i64 x3, .int .i64 x4, .int .i64 x5, .int .i64 x6] 23)).alloc (.cells #[.int .i64 c.epoch, .int .i64 c.seq, .slice ca c.pages.length cc, .int .u32 (c.sum : Int)] 59)).alloc (.cells #[.int .i64 m.num, .int .i64 m.kind, .slice ma m.body.length mc] 39)) w' → w'.heap[w.heap.size + 1]? = some (.cells #[.int .i64 c.epoch, .int .i64 c.seq, .slice ca c.pages.length cc, .int .u32 (c.sum : Int)] 59 (0, 0)) := fun w' u => u.get b1 (by simp)
  have hk2 : ∀ w', Upd [] (((w.alloc (.cells #[.int .i64 x0, .int .i64 x1, .int .i64 x2, .int .i64 x3, .int .i64 x4, .int .i64 x5, .int .i64 x6] 23)).alloc (.cells #[.int .i64 c.epoch, .int .i64 c.seq, .slice ca c.pages.length cc, .int .u32 (c.sum : Int)] 59)).alloc (.cells #[.int .i64 m.num, .int .i64 m.kind, .slice ma m.body.length mc] 39)) w' → w'.heap[w.heap.size + 2]? = some (.cells #[.int .i64 m.num, .int .i64 m.kind, .slice ma m.body.length mc] 39 (0, 0)) := fun w' u => u.get b2 (by simp)
  obtain ⟨W, hW⟩ : ∃ W, (((w.alloc (.cells #[.int .i64 x0, .int .i64 x1, .int .i64 x2, .int .i64 x3, .int .i64 x4, .int .i64 x5, .int .i64 x6] 23)).alloc (.cells #[.int .i64 c.epoch, .int .i64 c.seq, .slice ca c.pages.length cc, .int .u32 (c.sum : Int)] 59)).alloc (.cells #[.int .i64 m.num, .int .i64 m.kind, .slice ma m.body.length mc] 39)) = W := ⟨_, rfl⟩
  rw [hW] at hu6 hk0 hk1 hk2
  have hsz : w.heap.size + 3 = W.heap.size := by rw [← hW]; simp
  have K0 := Lib.hid hk0
  have K1 := Lib.hid hk1
  have K2 := Lib.hid hk2
  obtain ⟨ls, es⟩ := spoilR_super (s := [x0, x1, x2, x3, x4, x5, x6]) rfl pos ch
  obtain ⟨lh, eh⟩ := spoilR_head sc pos ch
  obtain ⟨lp, ep⟩ := spoilR_page hm.1 pos ch
  have LS := Lib.hid ls
  have ES := Lib.hid es
  have LH := Lib.hid lh
  have EH := Lib.hid eh
  have LP := Lib.hid lp
  have EP := Lib.hid ep
  have HU6 := Lib.hid hu6
  have HSZ := Lib.hid hsz
  have HC : Hid (∀ w', Upd [] W w' → IsInts w' ca c.pages) := fun w' u => hc.upd (hu6.trans u) (by simp)
  have HM : Hid (∀ w', Upd [] W w' → IsBytes w' ma m.body) := fun w' u => hm.upd (hu6.trans u) (by simp)
  have LC := Lib.hid lc
  have LM := Lib.hid lm
  have SC := Lib.hid sc
  clear b0 b1 b2 hu6 hk0 hk1 hk2 hsz hc hm lc lm sc ls es lh eh lp ep
  have HWE := Lib.hid hW
  clear hW
  go_enter Tryd.func11, Tryd.ntmps11
  go_wp2_with fail
  rw [HWE.out]
  refine (new_any _).mono ?_
  rintro en w1 ⟨t, rfl, htB, ht1, u1⟩
  have htw := HSZ.out
  have HT1 := Lib.hid ht1
  have U1 := Lib.hid u1
  clear ht1 u1 HWE
  go_wp2_with fail
  refine (known_any HT1.out).mono ?_
  rintro en w2 ⟨rfl, ht2, u2⟩
  have HT2 := Lib.hid ht2
  have U2 := Lib.hid (U1.out.step u2 (fun x hx => .inr (by simp at hx; omega)))
  clear ht2 u2 HT1
  have hx := K0.out _ U2.out
  go_wp2_with (refine wpList_load_all rfl 23 (.tmp 5) rfl (w.heap.size) 7 rfl _ _ _ _ hx Tryd.underlying23 rfl infoSuper rfl ?_)
  refine (putSuper_any HT2.out x0 x1 x2 x3 x4 x5 x6).mono ?_
  rintro en w3 ⟨⟨v3, rfl, hv⟩, ht, u⟩
  have HT3 := Lib.hid ht
  have U3 := Lib.hid (U2.out.step u (fun x hx => .inr (by simp at hx; omega)))
  have HV3 := Lib.hid hv
  obtain ⟨E3, hE3⟩ : ∃ E, (if (putSuper [x0, x1, x2, x3, x4, x5, x6]).isSome = true then (0 : Int) else 1) = E := ⟨_, rfl⟩
  rw [hE3]
  have HE3 := Lib.hid hE3
  clear ht u hv hx hE3
  go_wp2_with fail
  refine (spoilt_ret pos ch hch hp HV3.out LS.out).mono ?_
  rintro en w4 ⟨⟨v4, rfl, hv⟩, u⟩
  have U4 := Lib.hid (U3.out.trans u)
  have HT4 := Lib.hid (HT3.out.upd u (by simp))
  have HV4 := Lib.hid (hv.base (C := t + 1) (Nat.succ_le_of_lt HT3.out.lt))
  clear u hv
  go_wp2_with fail
  refine (getSuper_ret HT4.out HV4.out (Nat.lt_succ_self t)).mono ?_
  rintro en w5 ⟨rfl, ht, u⟩
  have HT5 := Lib.hid ht
  have U5 := Lib.hid (U4.out.step u (fun x hx => .inr (by simp at hx; omega)))
  clear ht u
  obtain ⟨y0, y1, y2, y3, y4, y5, y6, hy⟩ := superV_any (spoilR ((putSuper [x0, x1, x2, x3, x4, x5, x6]).getD []) pos ch).1
  rw [hy]
  clear hy
  have hE := ES.out
  have hq := HE3.out
  generalize (putSuper [x0, x1, x2, x3, x4, x5, x6]).isSome = F0 at hE hq
  generalize (spoilR ((putSuper [x0, x1, x2, x3, x4, x5, x6]).getD []) pos ch).2 = F1 at hE ⊢
  generalize (getSuper (spoilR ((putSuper [x0, x1, x2, x3, x4, x5, x6]).getD []) pos ch).1).isSome = F2 at hE ⊢
  go_upto_region 7 with fail
  go_cut [48] (fun v wx => v = .bool false ∧ TabOk wx t ∧ Upd [] W wx)
  case first =>
    cases F0 <;> cases F1 <;> cases F2
    all_goals first | (cases hE; done) | skip
    all_goals
      simp only [if_true, Bool.false_eq_true, if_false] at hq
      subst hq
      go_wp2_with fail
      go_meet
      exact ⟨rfl, HT5.out.upd ((Upd.refl [] _).alloc _) (by simp), U5.out.alloc _⟩
  case rest =>
  obtain ⟨rfl, ht, hu⟩ := hcut
  obtain ⟨w6, rfl⟩ : ∃ w6 : World, w6 = wc := ⟨_, rfl⟩
  have HT6 := Lib.hid ht
  have U6 := Lib.hid hu
  clear ht hu hE hq
  have hx := K1.out _ U6.out
  go_wp2_with (refine wpList_load_all rfl 59 (.tmp 6) rfl (w.heap.size + 1) 4 rfl _ _ _ _ hx Tryd.underlying59 rfl infoHead rfl ?_)
  refine (putHead_any (h := c) (cap := cc) HT6.out (HC.out _ U6.out) LC.out SC.out).mono ?_
  rintro en w7 ⟨⟨v7, rfl, hv⟩, ht, u⟩
  have HT7 := Lib.hid ht
  have U7 := Lib.hid (U6.out.step u (fun x hx => .inr (by simp at hx; omega)))
  have HV7 := Lib.hid hv
  obtain ⟨E7, hE7⟩ : ∃ E, (if (putHead c).isSome = true then (0 : Int) else 1) = E := ⟨_, rfl⟩
  rw [hE7]
  have HE7 := Lib.hid hE7
  clear ht u hv hx hE7
  go_wp2_with fail
  refine (spoilt_ret pos ch hch hp HV7.out LH.out).mono ?_
  rintro en w8 ⟨⟨v8, rfl, hv⟩, u⟩
  have U8 := Lib.hid (U7.out.trans u)
  have HT8 := Lib.hid (HT7.out.upd u (by simp))
  have HV8 := Lib.hid (hv.base (C := t + 1) (Nat.succ_le_of_lt HT7.out.lt))
  clear u hv
  go_wp2_with fail
  refine (getHead_ret HT8.out HV8.out (Nat.lt_succ_self t)).mono ?_
  rintro en w9 ⟨⟨vh, rfl, _⟩, ht, u⟩
  have HT9 := Lib.hid ht
  have U9 := Lib.hid (U8.out.step u (fun x hx => .inr (by simp at hx; omega)))
  clear ht u
  have hE := EH.out
  have hq := HE7.out
  generalize (putHead c).isSome = F0 at hE hq
  generalize (spoilR ((putHead c).getD []) pos ch).2 = F1 at hE ⊢
  generalize (getHead (spoilR ((putHead c).getD []) pos ch).1).isSome = F2 at hE ⊢
  go_upto_region 12 with fail
  go_cut [75] (fun v wx => v = .bool false ∧ TabOk wx t ∧ Upd [] W wx)
  case first =>
    cases F0 <;> cases F1 <;> cases F2
    all_goals first | (cases hE; done) | skip
    all_goals
      simp only [if_true, Bool.false_eq_true, if_false] at hq
      subst hq
      go_wp2_with fail
      go_meet
      exact ⟨rfl, HT9.out, U9.out⟩
  case rest =>
  obtain ⟨rfl, ht, hu⟩ := hcut
  obtain ⟨w10, rfl⟩ : ∃ w10 : World, w10 = wc := ⟨_, rfl⟩
  have HT10 := Lib.hid ht
  have U10 := Lib.hid hu
  clear ht hu hE hq
  have hx := K2.out _ U10.out
  go_wp2_with (refine wpList_load_all rfl 39 (.tmp 7) rfl (w.heap.size + 2) 3 rfl _ _ _ _ hx Tryd.underlying39 rfl infoImage rfl ?_)
  refine (putPage_any (x := m) (cap := mc) HT10.out (HM.out _ U10.out) LM.out).mono ?_
  rintro en w11 ⟨⟨v11, rfl, hv⟩, ht, u⟩
  have HT11 := Lib.hid ht
  have U11 := Lib.hid (U10.out.step u (fun x hx => .inr (by simp at hx; omega)))
  have HV11 := Lib.hid hv
  obtain ⟨E11, hE11⟩ : ∃ E, (if (putPage m).isSome = true then (0 : Int) else 1) = E := ⟨_, rfl⟩
  rw [hE11]
  have HE11 := Lib.hid hE11
  clear ht u hv hx hE11
  go_wp2_with fail
  refine (spoilt_ret pos ch hch hp HV11.out LP.out).mono ?_
  rintro en w12 ⟨⟨v12, rfl, hv⟩, u⟩
  have U12 := Lib.hid (U11.out.trans u)
  have HT12 := Lib.hid (HT11.out.upd u (by simp))
  have HV12 := Lib.hid (hv.base (C := t + 1) (Nat.succ_le_of_lt HT11.out.lt))
  clear u hv
  obtain ⟨q0, _, _⟩ := cells3 (K2.out _ U12.out)
  go_wp2_with fail
  refine (getPage_ret m.num HT12.out HV12.out (Nat.lt_succ_self t)).mono ?_
  rintro en w13 ⟨⟨vh, rfl, _⟩, ht, u⟩
  have HT13 := Lib.hid ht
  have U13 := Lib.hid (U12.out.step u (fun x hx => .inr (by simp at hx; omega)))
  clear ht u q0
  have hE := EP.out
  have hq := HE11.out
  generalize (putPage m).isSome = F0 at hE hq
  generalize (spoilR ((putPage m).getD []) pos ch).2 = F1 at hE ⊢
  generalize (getPage (spoilR ((putPage m).getD []) pos ch).1 m.num).isSome = F2 at hE ⊢
  cases F0 <;> cases F1 <;> cases F2
  all_goals first | (cases hE; done) | skip
  all_goals
    simp only [if_true, Bool.false_eq_true, if_false] at hq
    subst hq
    go_wp2
    go_ret
    exact ⟨rfl, HU6.out.trans U13.out⟩
end Go.Proofs.YtkahpkmofeglgaaDoor
