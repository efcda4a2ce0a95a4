/-
  PROVED HERE: the document's GetPage, of any bytes. Conditions: the bytes can be read.
-/
import Derived.Test.YtkahpkmofeglgaaDoorLawPage
import Derived.Test.YtkahpkmofeglgaaDoorNodeG
namespace Go.Proofs.YtkahpkmofeglgaaDoor
open Go.RowKit

/-- Bytes more, as a step of a region that draws its order. -/
theorem step_pushes {w : World} {ops : Array Oper} {o : Oper} {a : Act} {K : Act → World → Prop} {Q : Exit → Act → World → Prop} {E : Prop} (hgd : o.guard = none) (s x : Operand)
    (ho : o.op = .call { callee := .builtin .append, args := #[s, x], argTypes := #[27, 27] }) (hty : o.type = 27) {B : Nat} {v : Value} {l p : List Nat} (hs : a.eval s = v) (hown : IsOut w B v l)
    (ad : Addr) (n c : Nat) (hn : n = p.length) (hx : a.eval x = .slice (some ad) n c) (hc : ∀ j u, (u8s p)[j]? = some u → w.cell? (ad.add j) = some u) (hp : BytesOk p) (hm : 0 < p.length) (hr : l.length + p.length ≤ 100000000000000) (hB : B ≤ w.heap.size)
    (h : ∀ a' c' w', IsOut w' B (.slice a' (l ++ p).length c') (l ++ p) → Mine v w (.slice a' (l ++ p).length c') w' → K (a.put o.dst (.slice a' (l ++ p).length c')) w') :
    if Region.wanted o (yielded ops a.tmps) = true then Oper.wp Tryd.prog o a w K Q else E := by
  have hw : Region.wanted o (yielded ops a.tmps) = true := by simp [Region.wanted, hgd]
  rw [if_pos hw]
  subst hn
  obtain ⟨v', w', hrun, h2, h3⟩ := run_append_out hown hp hm hr ad c hc hB
  obtain ⟨a', c', e, _⟩ := h2.slice
  subst e
  have hk := h a' c' w' h2 h3
  generalize (l ++ p).length = n' at h2 h3 hrun hk
  unfold Oper.wp
  simp [execOp, ho, hty, resolve, invoke, builtin, hs, hx, hrun, Result.andThen]
  exact hk
theorem isOut_low {w : World} {B : Nat} {v : Value} {l : List Nat} (h : IsOut w B v l) : ∀ x ∈ v.ownBlock.toList, B ≤ x := by
  intro x hx
  obtain ⟨⟨hl, ⟨rfl, h0⟩ | ⟨g, cap, cur, rfl, hg, hb, r⟩⟩ | ⟨g, cs, ty, fr, rfl, hg, hb, r⟩, ok⟩ := h
  · simp [Value.ownBlock] at hx
  · obtain rfl : x = g := by simpa [Value.ownBlock] using hx
    exact hg
  · obtain rfl : x = g := by simpa [Value.ownBlock] using hx
    exact hg
theorem rputPage_any {w : World} {a : Option Addr} {cap : Nat} {x : Img} (hb : IsBytes w a x.body) (hl : x.body.length ≤ 9223372036854775807) :
    Calls Tryd.prog 29 #[imgV x (.slice a x.body.length cap)] w fun e w' => PutOut w.heap.size (putPage x) e w' ∧ Upd [] w w' := by
  cases ho : okImg x
  · exact rputPage_no x ho hl
  · exact rputPage_yes hb ho
set_option maxRecDepth 100000 in
set_option maxHeartbeats 3200000 in
theorem rgetPage_any {w : World} {a : Option Addr} {l : List Nat} {cap : Nat} (m : Int) (hb : IsBytes w a l) (hc : l.length ≤ cap) (hm : cap ≤ 9223372036854775807) :
    Calls Tryd.prog 46 #[.slice a l.length cap, .int .i64 m] w fun e w' => PageRes w.heap.size (refPage l m) e w' ∧ Upd [] w w' := by
  have HB0 : Hid (∀ w', Upd [] w w' → IsBytes w' a l) := fun w' u => hb.upd u (by simp)
  have hX0 := heap_alloc_new w (.cells #[.int .i64 0, .slice none 0 0] 37)
  have hU0 := (Upd.refl [] w).alloc (.cells #[.int .i64 0, .slice none 0 0] 37)
  have hfil := filled_any (n := 256) (v := .slice none 0 0) (l := []) (B := w.heap.size + 1) (w := w.alloc (.cells #[.int .i64 0, .slice none 0 0] 37)) (IsOut.nil _ _) (by simp) (by decide) (by decide)
  have HFIL := Lib.hid hfil
  have HX0 := Lib.hid hX0
  have HU0 := Lib.hid hU0
  have HOK := Lib.hid hb.1
  have hrf : refPage l m = if decide (l = zero256) then some (0, []) else if decide (l.length = 256) && (okImg (pageImg l m) && decide (frame (pageBytes (pageImg l m)) = l)) then some (numi (seg l 4 1), seg l 12 240) else none := rfl
  have HRF := Lib.hid hrf
  have hbd0 := buildPg0
  clear hb hX0 hU0 hfil hrf
  go_enter Tryd.func46, Tryd.ntmps46
  go_wp2_with fail
  refine HFIL.out.mono ?_
  rintro e w1 ⟨v1, rfl, h1, m1⟩
  have hu1 := HU0.out.step m1.upd (fun x hx => by simp [Value.ownBlock] at hx)
  obtain ⟨a1, c1, rfl, hb1, _⟩ := h1.slice
  rw [show pad [] 256 = zero256 from rfl] at hb1 ⊢
  have hsm := same_any (cap := cap) (cap' := c1) (HB0.out _ hu1) hb1 (by omega) (by rw [show zero256.length = 256 from List.length_replicate]; decide)
  have HX1 := Lib.hid (m1.upd.get HX0.out (by simp [Value.ownBlock]))
  have U1 := Lib.hid hu1
  clear h1 m1 hb1 hu1 HFIL
  rw [show zero256.length = 256 from List.length_replicate] at hsm ⊢
  cases hz : decide (l = zero256)
  rotate_left
  · rw [hz] at hsm HRF
    simp only [if_true] at HRF
    have HS := Lib.hid hsm
    clear hsm hz
    go_wp2_with (first
      | (go_at_call 18; (with_reducible refine HS.out.mono ?_); rintro e w2 ⟨rfl, u2⟩; have U2 := Lib.hid u2; clear u2)
      | (refine wpList_store_all rfl 37 (.tmp 4) (.tmp 12) rfl w.heap.size _ rfl rfl _ _ (U2.out.get HX1.out (by simp)) infoPage rfl (by kernel_rfl) ?_; intro w3 hg3 hu3 _; have G3 := Lib.hid hg3; have U3 := Lib.hid hu3; clear hg3 hu3))
    refine bodyPost_ret (results_block_tmp Tryd.results46 _ _ w.heap.size 2 _ _ _ _ rfl G3.out Tryd.underlying37 rfl infoPage rfl) rfl ⟨by rw [HRF.out]; exact PageRes.zero _ _, (U1.out.trans U2.out).step U3.out (fun x hx => .inr (by simp at hx; omega))⟩
  rw [hz] at hsm HRF
  simp only [Bool.false_eq_true, if_false] at HRF
  have HS := Lib.hid hsm
  clear hsm hz
  by_cases h256 : l.length = 256
  rotate_left
  · have d1 : ((l.length : Int) != 256) = true := by rw [bne_iff_ne]; omega
    rw [decide_eq_false h256, Bool.false_and] at HRF
    simp only [Bool.false_eq_true, if_false] at HRF
    clear h256
    go_wp2_with (first
      | (go_at_call 18; (with_reducible refine HS.out.mono ?_); rintro e w2 ⟨rfl, u2⟩; have U2 := Lib.hid u2; clear u2)
      | (refine wpList_store_all rfl 37 (.tmp 4) (.tmp 16) rfl w.heap.size _ rfl rfl _ _ (U2.out.get HX1.out (by simp)) infoPage rfl (by kernel_rfl) ?_; intro w3 hg3 hu3 _; have G3 := Lib.hid hg3; have U3 := Lib.hid hu3; clear hg3 hu3))
    refine bodyPost_ret (results_block_tmp Tryd.results46 _ _ w.heap.size 2 _ _ _ _ rfl G3.out Tryd.underlying37 rfl infoPage rfl) rfl ⟨by rw [HRF.out]; exact PageRes.no _ _, (U1.out.trans U2.out).step U3.out (fun x hx => .inr (by simp at hx; omega))⟩
  rw [decide_eq_true h256, Bool.true_and] at HRF
  obtain ⟨b, o, ha, hcx⟩ := (HB0.out w (Upd.refl _ _)).2 0 (by omega)
  subst ha
  clear hcx
  rw [h256] at hc HS ⊢
  have HL := Lib.hid h256
  clear h256
  have h252 : (252 : Int) ≤ cap := by omega
  have hne12 : ¬ cap = 12 := by omega
  have hbp := buildPg1
  have hbi := fun m k a n c w => buildImg m k a n c w
  go_wp2_with fail
  refine HS.out.mono ?_
  rintro e w2 ⟨rfl, u2⟩
  have U2 := Lib.hid (U1.out.trans u2)
  have HX2 := Lib.hid (u2.get HX1.out (by simp))
  have hnb := number_i (cap := cap) 4 1 (HB0.out _ U2.out) (by have := HL.out; omega) (by decide) (by decide) (by decide) (by decide)
  rw [show seg l (Int.toNat 4) (Int.toNat 1) = seg l 4 1 from rfl, HL.out] at hnb
  obtain ⟨K, hK⟩ : ∃ K, numi (seg l 4 1) = K := ⟨_, rfl⟩
  rw [hK] at hnb
  have HK := Lib.hid hK
  have HNB := Lib.hid hnb
  clear u2 hnb hK HX1 HS
  go_upto_region 6 with (go_at_call 69; (with_reducible refine HNB.out.mono ?_); rintro e w' ⟨rfl, rfl⟩)
  have hp3 := heap_alloc_new w2 (.cells #[.int .i64 m, .int .i64 K, .slice none 0 0] 39)
  have hx3 := ((Upd.refl [] w2).alloc (.cells #[.int .i64 m, .int .i64 K, .slice none 0 0] 39)).get HX2.out (by simp)
  have hu3 := U2.out.alloc (.cells #[.int .i64 m, .int .i64 K, .slice none 0 0] 39)
  have hlw := lt_of_block HX2.out
  generalize w2.alloc (.cells #[.int .i64 m, .int .i64 K, .slice none 0 0] 39) = w3 at hp3 hx3 hu3 ⊢
  generalize w2.heap.size = ib at hp3 hlw ⊢
  have hnews := (((HB0.out _ hu3.drew).drop 12).sub 240).news
  rw [← seg_eq (by have := HL.out; omega)] at hnews
  have hcel : ∀ wx, Upd [] w3 wx → wx.cell? ⟨ib, 2, none⟩ = some (.slice none 0 0) ∧ wx.frozen? ⟨ib, 2, none⟩ = false := fun wx u => by
    obtain ⟨k1, k2⟩ := cells_of (u.get hp3 (by simp))
    exact ⟨k1 2, k2 2⟩
  obtain ⟨p0, f0⟩ := hcel w3 (Upd.refl _ _)
  have hsz := lt_of_block hp3
  have HNEWS := Lib.hid hnews
  have HCEL := Lib.hid hcel
  have HP3 := Lib.hid hp3
  have HX3 := Lib.hid hx3
  have U3 := Lib.hid hu3
  have HSO := Lib.hid (seg_ok HOK.out 12 240)
  have HSL := Lib.hid (seg_len l 12 240)
  clear hnews hcel hp3 hx3 hu3 HNB
  go_region_law (refine step_pushes rfl (.tmp 24) (.tmp 26) rfl rfl (B := ib + 1) (v := .slice none 0 0) (l := []) (p := seg l 12 240) rfl (IsOut.nil _ _) ⟨b, o + 12, none⟩ 240 (cap - 12) (by rw [HSL.out]) rfl HNEWS.out HSO.out (by rw [HSL.out]; decide) (by rw [HSL.out]; decide) hsz ?_; intro a7 c7 w7 hn7 hm7; rw [List.nil_append, HSL.out] at hn7 hm7 ⊢; have N7 := Lib.hid hn7; have M7 := Lib.hid hm7; have U7 := Lib.hid ((Upd.refl [] w3).drew.trans hm7.upd); obtain ⟨p1, f1⟩ := HCEL.out _ U7.out; have hsz7 := Nat.lt_of_lt_of_le hsz U7.out.size; clear hn7 hm7)
  all_goals
    have h2 := heap_setCell_same w7 ib 2 _ _ (.slice a7 240 c7) (U7.out.get HP3.out (by simp))
    have us : Upd [ib] w7 (w7.setCell ⟨ib, 2, none⟩ (.slice a7 240 c7)) := (Upd.refl _ _).setCell (.inl (by simp)) _
    have hu9 := (U3.out.trans U7.out).step us (fun y hy => .inr (by simp at hy; omega))
    have hx9 := us.get (U7.out.get HX3.out (by simp)) (by simp; omega)
    have hlo := isOut_low N7.out
    have hn9 := N7.out.upd us (fun y hy hy2 => by have := hlo y hy; simp at hy2; omega)
    clear p0 f0 p1 f1 hsz hsz7 us
    generalize w7.setCell ⟨ib, 2, none⟩ (.slice a7 240 c7) = w9 at h2 hu9 hx9 hn9 ⊢
    obtain ⟨ax, cx, ex, hbx, _⟩ := hn9.slice
    injection ex with e1 e2 e3
    subst e1
    subst e3
    have hrp := rputPage_any (x := pageImg l m) (cap := c7) (show IsBytes w9 a7 (pageImg l m).body from hbx) (by rw [show (pageImg l m).body = seg l 12 240 from rfl, HSL.out]; decide)
    have hiv : imgV (pageImg l m) (.slice a7 (pageImg l m).body.length c7) = .agg #[.int .i64 m, .int .i64 K, .slice a7 240 c7] := by
      rw [show (pageImg l m).body = seg l 12 240 from rfl, HSL.out]
      unfold imgV pageImg
      rw [HK.out]
    rw [hiv] at hrp
    have HRP := Lib.hid hrp
    have HB9 := Lib.hid (show w9.heap[ib]? = some (.cells #[.int .i64 m, .int .i64 K, .slice a7 240 c7] 39 (0, 0)) from h2)
    have HX9 := Lib.hid hx9
    have U9 := Lib.hid hu9
    have N9 := Lib.hid hn9
    have hwi := hlw
    have hbi9 := lt_of_block h2
    have hfl : okImg (pageImg l m) = true → (frame (pageBytes (pageImg l m))).length ≤ 9223372036854775807 := fun h => by
      rw [frame_len (by rw [pageBytes_len, (okImg_parts h).2.2.2.2]; decide)]; decide
    have HFL := Lib.hid hfl
    clear h2 hu9 hx9 hn9 hbx hrp hiv hfl hlo e2
    go_wp2_with (refine wpList_load_all rfl 39 (.tmp 6) rfl ib 3 rfl _ _ _ _ HB9.out Tryd.underlying39 rfl infoImage rfl ?_)
    refine HRP.out.mono ?_
    rintro e y1 ⟨⟨vp, rfl, hvp⟩, u1⟩
    have V1 := Lib.hid u1
    cases hok : okImg (pageImg l m)
    · rw [show putPage (pageImg l m) = none by unfold putPage; rw [hok]; rfl] at hvp ⊢
      simp only [Option.isSome_none, Bool.false_eq_true, if_false]
      have HR := Lib.hid (HRF.out.trans (by rw [hok, Bool.false_and, if_neg Bool.false_ne_true]))
      clear hok hvp u1
      go_wp2_with (refine wpList_store_all rfl 37 (.tmp 4) (.tmp 43) rfl w.heap.size _ rfl rfl _ _ (V1.out.get HX9.out (by simp)) infoPage rfl (by kernel_rfl) ?_; intro y3 hg3 hu3 _; have G3 := Lib.hid hg3; have V3 := Lib.hid hu3; clear hg3 hu3)
      refine bodyPost_ret (results_block_tmp Tryd.results46 _ _ w.heap.size 2 _ _ _ _ rfl G3.out Tryd.underlying37 rfl infoPage rfl) rfl ⟨by rw [HR.out]; exact PageRes.no _ _, (U9.out.trans V1.out).step V3.out (fun x hx => .inr (by simp at hx; omega))⟩
    · rw [show putPage (pageImg l m) = some (frame (pageBytes (pageImg l m))) by unfold putPage; rw [hok]; rfl] at hvp ⊢
      simp only [Option.isSome_some, if_true, Option.getD_some] at hvp ⊢
      obtain ⟨ap, cp, rfl, hbp2, _, _, _⟩ := hvp.slice
      have hsm := same_any (cap := cp) (cap' := cap) hbp2 (HB0.out _ (U9.out.trans u1)) (HFL.out hok) (by have := HL.out; omega)
      rw [HL.out] at hsm
      cases heq : decide (frame (pageBytes (pageImg l m)) = l)
      · rw [heq] at hsm
        have HS := Lib.hid hsm
        have HR := Lib.hid (HRF.out.trans (by rw [hok, heq, Bool.and_false, if_neg Bool.false_ne_true]))
        clear hok hvp u1 hbp2 hsm heq
        go_wp2_with (first
          | (go_at_call 18; (with_reducible refine HS.out.mono ?_); rintro e y2 ⟨rfl, u2⟩; have V2 := Lib.hid u2; clear u2)
          | (refine wpList_store_all rfl 37 (.tmp 4) (.tmp 43) rfl w.heap.size _ rfl rfl _ _ ((V1.out.trans V2.out).get HX9.out (by simp)) infoPage rfl (by kernel_rfl) ?_; intro y3 hg3 hu3 _; have G3 := Lib.hid hg3; have V3 := Lib.hid hu3; clear hg3 hu3))
        refine bodyPost_ret (results_block_tmp Tryd.results46 _ _ w.heap.size 2 _ _ _ _ rfl G3.out Tryd.underlying37 rfl infoPage rfl) rfl ⟨by rw [HR.out]; exact PageRes.no _ _, ((U9.out.trans V1.out).trans V2.out).step V3.out (fun x hx => .inr (by simp at hx; omega))⟩
      · rw [heq] at hsm
        have HS := Lib.hid hsm
        have HR := Lib.hid (HRF.out.trans (by rw [hok, heq, Bool.and_true, if_pos rfl]))
        clear hok hvp u1 hbp2 hsm heq
        go_wp2_with (first
          | (go_at_call 18; (with_reducible refine HS.out.mono ?_); rintro e y2 ⟨rfl, u2⟩; have V2 := Lib.hid u2; clear u2)
          | (refine wpList_load_part rfl 37 (.tmp 44) rfl ib 1 2 rfl _ _ _ _ ((V1.out.trans V2.out).get HB9.out (by simp)) Tryd.underlying37 rfl infoPage (by simp) ?_)
          | (refine wpList_store_all rfl 37 (.tmp 4) (.tmp 45) rfl w.heap.size #[.int .i64 K, .slice a7 240 c7] rfl rfl _ _ ((V1.out.trans V2.out).get HX9.out (by simp)) infoPage rfl rfl ?_; intro y3 hg3 hu3 _; have G3 := Lib.hid hg3; have V3 := Lib.hid hu3; clear hg3 hu3))
        refine bodyPost_ret (results_block_tmp Tryd.results46 _ _ w.heap.size 2 _ _ _ _ rfl G3.out Tryd.underlying37 rfl infoPage rfl) rfl ⟨?_, ((U9.out.trans V1.out).trans V2.out).step V3.out (fun x hx => .inr (by simp at hx; omega))⟩
        rw [HR.out]
        refine ⟨.slice a7 240 c7, by rw [HK.out]; rfl, ?_⟩
        exact (((N9.out.ret.upd V1.out (by simp)).upd V2.out (by simp)).upd V3.out (fun x hx => by simp at hx; omega)).base (by omega)
end Go.Proofs.YtkahpkmofeglgaaDoor
