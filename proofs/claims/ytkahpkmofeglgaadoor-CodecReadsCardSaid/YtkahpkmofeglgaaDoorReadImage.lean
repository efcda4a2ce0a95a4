/-
  PROVED HERE: the document's GetHead, of any bytes. Conditions: the bytes can be read.
  PROVED HERE: the document's GetPage, of any bytes. Conditions: the bytes can be read.
  PROVED HERE: the document's GetImage, of any bytes. Conditions: the bytes can be read.
-/
import Derived.Test.YtkahpkmofeglgaaDoorLawHead
import Derived.Test.YtkahpkmofeglgaaDoorNodeG
import Derived.Test.YtkahpkmofeglgaaDoorLawPage
namespace Go.Proofs.YtkahpkmofeglgaaDoor
open Go.RowKit

theorem leafH {wc w8 : World} {hb : Nat} {E S M : Int} {l : List Int} {v v8 : Value} (hcb : wc.heap[hb]? = some (.cells #[.int .i64 E, .int .i64 S, v, .int .u32 M] 59 (0, 0))) (hv : ∀ y ∈ v.ownBlock.toList, hb + 1 ≤ y) (N8 : IntsOut w8 (hb + 1) v8 l) (M8 : Mine v wc v8 w8) :
    HalfH (w8.setCell ⟨hb, 2, none⟩ v8) hb E S M l ∧ Upd (hb :: v.ownBlock.toList) wc (w8.setCell ⟨hb, 2, none⟩ v8) := by
  have hb8 := M8.upd.get hcb (fun h => by have := hv _ h; omega)
  have h2 := heap_setCell_same w8 hb 2 _ _ v8 hb8
  have us : Upd [hb] w8 (w8.setCell ⟨hb, 2, none⟩ v8) := (Upd.refl _ _).setCell (.inl (by simp)) _
  exact ⟨⟨v8, h2, N8.upd us (fun y hy hy2 => by have := (N8.low y hy).1; simp at hy2; omega)⟩, (M8.upd.mono (fun y hy => by simp [hy])).trans (us.mono (fun y hy => by simp at hy; simp [hy]))⟩
set_option maxRecDepth 100000 in
set_option maxHeartbeats 3200000 in
theorem rgetHead_any {w : World} {a : Option Addr} {l : List Nat} {cap : Nat} (hb : IsBytes w a l) (hl : l.length ≤ 9223372036854775807) :
    Calls Tryd.prog 45 #[.slice a l.length cap] w fun e w' => HeadRes w.heap.size (refHead l) e w' ∧ Upd [] w w' := by
  have HB0 : Hid (∀ w', Upd [] w w' → IsBytes w' a l) := fun w' u => hb.upd u (by simp)
  have HCN := Lib.hid (show numi (seg l 24 2) = (headCount l : Int) from seg_nat hb.1 24 2 (by decide))
  have HSM := Lib.hid (seg_nat hb.1 20 4 (by decide))
  have hsmb := seg_bound hb.1 20 4
  rw [show (256 : Nat) ^ 4 = 4294967296 by decide] at hsmb
  obtain ⟨E, hE⟩ : ∃ E, numi (seg l 4 8) = E := ⟨_, rfl⟩
  obtain ⟨S, hS⟩ : ∃ E, numi (seg l 12 8) = E := ⟨_, rfl⟩
  obtain ⟨M, hM⟩ : ∃ E, num (seg l 20 4) = E := ⟨_, rfl⟩
  rw [hM] at hsmb HSM
  have HOF : Hid (∀ k, headOf l k = ⟨E, S, M, pagesOf l k⟩) := fun k => by unfold headOf; rw [hE, hS, hM]
  have HEE := Lib.hid hE
  have HES := Lib.hid hS
  have hX0 := heap_alloc_new w (.cells #[.int .i64 0, .int .i64 0, .slice none 0 0, .int .u32 0] 59)
  have hU0 := (Upd.refl [] w).alloc (.cells #[.int .i64 0, .int .i64 0, .slice none 0 0, .int .u32 0] 59)
  have hX1 := ((Upd.refl [] _).alloc (.cells #[.int .i64 E, .int .i64 S, .slice none 0 0, .int .u32 (M : Int)] 59)).get hX0 (by simp)
  have hP1 := heap_alloc_new (w.alloc (.cells #[.int .i64 0, .int .i64 0, .slice none 0 0, .int .u32 0] 59)) (.cells #[.int .i64 E, .int .i64 S, .slice none 0 0, .int .u32 (M : Int)] 59)
  rw [show (w.alloc (.cells #[.int .i64 0, .int .i64 0, .slice none 0 0, .int .u32 0] 59)).heap.size = w.heap.size + 1 by simp] at hP1
  have HA := Lib.hid hU0
  have HU1 := Lib.hid (hU0.alloc (.cells #[.int .i64 E, .int .i64 S, .slice none 0 0, .int .u32 (M : Int)] 59))
  have HX1 := Lib.hid hX1
  have HP1 := Lib.hid hP1
  have hwr : IntKind.u32.wrap (M : Int) = (M : Int) := IntWalk.u32_in _ (by omega)
  have hb1 := fun w => buildHd E S (M : Int) w
  have hbd0 := buildHd0
  have HN1 := number_i (cap := cap) 4 8 (HB0.out _ hU0) hl (by decide) (by decide) (by decide) (by decide)
  have HN2 := number_i (cap := cap) 12 8 (HB0.out _ hU0) hl (by decide) (by decide) (by decide) (by decide)
  have HN3 := number_i (cap := cap) 20 4 (HB0.out _ hU0) hl (by decide) (by decide) (by decide) (by decide)
  have HN4 := number_i (cap := cap) 24 2 (HB0.out _ HU1.out) hl (by decide) (by decide) (by decide) (by decide)
  rw [show seg l (Int.toNat 4) (Int.toNat 8) = seg l 4 8 from rfl, hE] at HN1
  rw [show seg l (Int.toNat 12) (Int.toNat 8) = seg l 12 8 from rfl, hS] at HN2
  rw [show seg l (Int.toNat 20) (Int.toNat 4) = seg l 20 4 from rfl, HSM.out] at HN3
  rw [show seg l (Int.toNat 24) (Int.toNat 2) = seg l 24 2 from rfl, HCN.out] at HN4
  have H1 := Lib.hid HN1
  have H2 := Lib.hid HN2
  have H3 := Lib.hid HN3
  have H4 := Lib.hid HN4
  have HL := Lib.hid hl
  clear hb hX0 hU0 hX1 hP1 hE hS hM HN1 HN2 HN3 HN4
  go_enter Tryd.func45, Tryd.ntmps45
  go_wp2_with (go_at_call 69; first | ((with_reducible refine H1.out.mono ?_); rintro e w' ⟨rfl, rfl⟩) | ((with_reducible refine H2.out.mono ?_); rintro e w' ⟨rfl, rfl⟩) | ((with_reducible refine H3.out.mono ?_); rintro e w' ⟨rfl, rfl⟩) | ((with_reducible refine H4.out.mono ?_); rintro e w' ⟨rfl, rfl⟩))
  have hmn : min (headCount l) 40 ≤ headCount l ∧ min (headCount l) 40 ≤ 40 ∧ (min (headCount l) 40 = headCount l ∨ min (headCount l) 40 = 40) := by omega
  have hrf : refHead l = if okHead (headOf l (min (headCount l) 40)) && decide (frame (headBytes (headOf l (min (headCount l) 40))) = l) then some (headOf l (min (headCount l) 40)) else none := rfl
  generalize min (headCount l) 40 = m at hmn hrf
  generalize headCount l = n at hmn H4 ⊢
  obtain ⟨hm1, hm2, hm3⟩ := hmn
  have HRF := Lib.hid hrf
  have HM3 := Lib.hid hm3
  clear hrf hm3 H4 HCN
  have HF0 := Lib.hid (show HalfH ((w.alloc (.cells #[.int .i64 0, .int .i64 0, .slice none 0 0, .int .u32 0] 59)).alloc (.cells #[.int .i64 E, .int .i64 S, .slice none 0 0, .int .u32 (M : Int)] 59)) (w.heap.size + 1) E S M (pagesOf l 0) from ⟨_, HP1.out, by simpa [pagesOf] using IntsOut.nil _ _⟩)
  go_loopw [6] (fun i wr => ∃ k : Nat, k ≤ m ∧ i = .int .i64 k ∧ HalfH wr (w.heap.size + 1) E S M (pagesOf l k) ∧ wr.heap[w.heap.size]? = some (.cells #[.int .i64 0, .int .i64 0, .slice none 0 0, .int .u32 0] 59 (0, 0)) ∧ Upd [] w wr) (fun i _ => m - (intOf i).toNat)
  case atStart => exact ⟨0, by omega, rfl, HF0.out, HX1.out, HU1.out⟩
  case round =>
    obtain ⟨k, hk, rfl, hF, hX, hU⟩ := hrel
    have HU := Lib.hid hU
    have HXr := Lib.hid hX
    obtain ⟨v, hcb, hio⟩ := hF
    clear hX hU
    by_cases hlt7 : k < m
    · have d1 : decide ((k : Int) < (n : Int)) = true := decide_eq_true (by omega)
      have d2 : decide ((k : Int) < 40) = true := decide_eq_true (by omega)
      obtain ⟨av, cv, rfl, _, _, _, _⟩ := hio.slice
      have HLK := Lib.hid (show (pagesOf l k).length ≤ 10000000000000 by rw [pagesOf_len]; omega)
      generalize (pagesOf l k).length = nv at hcb hio
      have HSU := Lib.hid (pagesOf_succ l k)
      have hnb := number_i (cap := cap) (26 + 4 * (k : Int)) 4 (HB0.out _ HU.out.drew) HL.out (by decide) (by decide) (by omega) (by omega)
      rw [show (26 + 4 * (k : Int)).toNat = 26 + 4 * k by omega, show (4 : Int).toNat = 4 from rfl] at hnb
      generalize numi (seg l (26 + 4 * k) 4) = x at hnb HSU
      have HNB := Lib.hid hnb
      have HIO := Lib.hid hio
      have HCB := Lib.hid hcb
      have hcel : ∀ S wx, Upd S wr wx → (∀ y ∈ S, y ≠ w.heap.size + 1) → wx.cell? ⟨w.heap.size + 1, 2, none⟩ = some (.slice av nv cv) ∧ wx.frozen? ⟨w.heap.size + 1, 2, none⟩ = false := fun S wx u h => by
        obtain ⟨k1, k2⟩ := cells_of (u.get hcb (fun hm => h _ hm rfl))
        exact ⟨k1 2, k2 2⟩
      have HCEL := Lib.hid hcel
      have hsz := lt_of_block hcb
      obtain ⟨p0, f0⟩ := hcel [] wr (Upd.refl _ _) (by simp)
      have HOS : Hid (∀ y ∈ (Value.slice av nv cv).ownBlock.toList, w.heap.size + 2 ≤ y) := fun y hy => (hio.low y hy).1
      have hw4 : IntKind.i64.wrap (4 * (k : Int)) = 4 * (k : Int) := IntWalk.i64_in _ (by omega)
      have hw26 : IntKind.i64.wrap (26 + 4 * (k : Int)) = 26 + 4 * (k : Int) := IntWalk.i64_in _ (by omega)
      clear hnb hio hcb hcel
      go_upto_region 6 with fail
      go_region_law (first
        | (refine step_pushi2 (w0 := wr) (S0 := []) rfl (.tmp 29) (.tmp 35) rfl (v := .slice av nv cv) (l := pagesOf l k) rfl ?uk HIO.out (fun y _ h => by cases h) _ _ x rfl ?ck HLK.out hsz ?_; (case uk => exact ((Upd.refl _ wr).alloc _).drew); (case ck => first | exact new1 _ _ | exact new4 _ _); intro a7 n7 c7 w7 hn7 hm7 hu7 hb7; have N7 := Lib.hid hn7; have M7 := Lib.hid hm7; obtain ⟨p2, f2⟩ := HCEL.out _ _ hu7 (fun y hy => by have := HOS.out y (by simpa using hy); omega); have hsz7 := Nat.lt_of_lt_of_le hsz hu7.size; clear hn7 hm7 hu7 hb7)
        | (go_simp; go_at_call 69; (with_reducible refine HNB.out.mono ?_); rintro e w' ⟨rfl, rfl⟩))
      all_goals
        go_wp2
        go_roundw
        case rel =>
          have hx1 : Upd [] wr (wr.alloc (.cells #[.int .i64 x] 3)).drew := ((Upd.refl _ wr).alloc _).drew
          have hlf := leafH (hx1.get HCB.out (by simp)) (fun y hy => HOS.out y hy) N7.out M7.out
          exact ⟨k + 1, by omega, by go_num, by rw [HSU.out]; exact hlf.1, hlf.2.get (hx1.get HXr.out (by simp)) (fun h => by rcases List.mem_cons.1 h with h | h; omega; have := HOS.out _ h; omega), (HU.out.trans hx1).step hlf.2 (fun y hy => .inr (by rcases List.mem_cons.1 hy with h | h; omega; have := HOS.out _ h; omega))⟩
        case measure => simp [intOf]; omega
    · obtain rfl : k = m := by omega
      obtain ⟨av, cv, rfl, hii, _, _, _⟩ := hio.slice
      have HCB := Lib.hid hcb
      have HIO := Lib.hid hio
      have hbx := lt_of_block hcb
      have hrp := rputHead_any (h := headOf l k) (cap := cv) (show IsInts wr av (headOf l k).pages from hii) (by rw [show (headOf l k).pages = pagesOf l k from rfl, pagesOf_len]; omega) (by rw [HOF.out]; exact hsmb)
      have hrv : headV (headOf l k) (.slice av (headOf l k).pages.length cv) = .agg #[.int .i64 E, .int .i64 S, .slice av (pagesOf l k).length cv, .int .u32 (M : Int)] := by rw [HOF.out]; rfl
      rw [hrv] at hrp
      have HRP := Lib.hid hrp
      have hv : ∀ v, headV (headOf l k) v = .agg #[.int .i64 E, .int .i64 S, v, .int .u32 (M : Int)] := fun v => by rw [HOF.out]; rfl
      have HV := Lib.hid hv
      have hfl : okHead (headOf l k) = true → (frame (headBytes (headOf l k))).length ≤ 9223372036854775807 := fun h => by
        rw [frame_len (by rw [headBytes_len]; have := (okHead0_parts (okHead_parts h).1).2.2.2; omega)]; decide
      have HFL := Lib.hid hfl
      have HPLN : Hid ((headOf l k).pages = pagesOf l k) := rfl
      clear hcb hio hii hrp hrv hv hfl
      have hex : ¬ k < n ∨ (decide ((k : Int) < (n : Int)) = true ∧ decide ((k : Int) < 40) = false ∧ ¬ (k : Int) < 40 ∧ (k : Int) < (n : Int)) := by
        have := HM3.out
        by_cases h : k < n
        · exact .inr ⟨decide_eq_true (by omega), decide_eq_false (by omega), by omega, by omega⟩
        · exact .inl h
      rcases hex with d1 | ⟨d1, d2, d3, d4⟩
      all_goals
        go_wp2_with (refine wpList_load_all rfl 59 (.tmp 4) rfl (w.heap.size + 1) 4 rfl _ _ _ _ HCB.out Tryd.underlying59 rfl infoHead rfl ?_)
        refine HRP.out.mono ?_
        rintro e w1 ⟨⟨vp, rfl, hvp⟩, u1⟩
        have U1 := Lib.hid u1
        cases hok : okHead (headOf l k)
        · rw [show putHead (headOf l k) = none by unfold putHead; rw [hok]; simp] at hvp ⊢
          simp only [Option.isSome_none, Bool.false_eq_true, if_false]
          have HR := Lib.hid (HRF.out.trans (by rw [hok, Bool.false_and, if_neg Bool.false_ne_true]))
          clear hok hvp u1
          go_wp2_with (refine wpList_store_all rfl 59 (.tmp 2) (.tmp 51) rfl w.heap.size _ rfl rfl _ _ (U1.out.get HXr.out (by simp)) infoHead rfl (by kernel_rfl) ?_; intro w3 hg3 hu3 _; have G3 := Lib.hid hg3; have U3 := Lib.hid hu3; clear hg3 hu3)
          refine bodyPost_ret (results_block_tmp Tryd.results45 _ _ w.heap.size 4 _ _ _ _ rfl G3.out Tryd.underlying59 rfl infoHead rfl) rfl ⟨by rw [HR.out]; exact HeadRes.no _ _, (HU.out.trans U1.out).step U3.out (fun x hx => .inr (by simp at hx; omega))⟩
        · rw [show putHead (headOf l k) = some (frame (headBytes (headOf l k))) by unfold putHead; rw [hok]; rfl] at hvp ⊢
          simp only [Option.isSome_some, if_true, Option.getD_some] at hvp ⊢
          obtain ⟨ap, cp, rfl, hbp, _, _, _⟩ := hvp.slice
          have hsm := same_any (cap := cp) (cap' := cap) hbp (HB0.out _ (HU.out.trans u1)) (HFL.out hok) HL.out
          cases heq : decide (frame (headBytes (headOf l k)) = l)
          · rw [heq] at hsm
            have HS := Lib.hid hsm
            have HR := Lib.hid (HRF.out.trans (by rw [hok, heq, Bool.and_false, if_neg Bool.false_ne_true]))
            clear hok hvp u1 hbp hsm heq
            go_wp2_with (first
              | (go_at_call 18; refine HS.out.mono ?_; rintro e w2 ⟨rfl, u2⟩; have U2 := Lib.hid u2; clear u2)
              | (refine wpList_store_all rfl 59 (.tmp 2) (.tmp 51) rfl w.heap.size _ rfl rfl _ _ ((U1.out.trans U2.out).get HXr.out (by simp)) infoHead rfl (by kernel_rfl) ?_; intro w3 hg3 hu3 _; have G3 := Lib.hid hg3; have U3 := Lib.hid hu3; clear hg3 hu3))
            refine bodyPost_ret (results_block_tmp Tryd.results45 _ _ w.heap.size 4 _ _ _ _ rfl G3.out Tryd.underlying59 rfl infoHead rfl) rfl ⟨by rw [HR.out]; exact HeadRes.no _ _, ((HU.out.trans U1.out).trans U2.out).step U3.out (fun x hx => .inr (by simp at hx; omega))⟩
          · rw [heq] at hsm
            have HS := Lib.hid hsm
            have HR := Lib.hid (HRF.out.trans (by rw [hok, heq, Bool.and_true, if_pos rfl]))
            clear hok hvp u1 hbp hsm heq
            go_wp2_with (first
              | (go_at_call 18; refine HS.out.mono ?_; rintro e w2 ⟨rfl, u2⟩; have U2 := Lib.hid u2; clear u2)
              | (refine wpList_load_all rfl 59 (.tmp 4) rfl (w.heap.size + 1) 4 rfl _ _ _ _ ((U1.out.trans U2.out).get HCB.out (by simp)) Tryd.underlying59 rfl infoHead rfl ?_)
              | (refine wpList_store_all rfl 59 (.tmp 2) (.tmp 52) rfl w.heap.size _ rfl rfl _ _ ((U1.out.trans U2.out).get HXr.out (by simp)) infoHead (by simp only [List.size_toArray, List.length_cons, List.length_nil]) rfl ?_; intro w3 hg3 hu3 _; have G3 := Lib.hid hg3; have U3 := Lib.hid hu3; clear hg3 hu3))
            refine bodyPost_ret (results_block_tmp Tryd.results45 _ _ w.heap.size 4 _ _ _ _ rfl G3.out Tryd.underlying59 rfl infoHead rfl) rfl ⟨?_, ((HU.out.trans U1.out).trans U2.out).step U3.out (fun x hx => .inr (by simp at hx; omega))⟩
            rw [HR.out]
            refine ⟨_, by rw [Option.getD_some, HV.out]; rfl, ?_⟩
            rw [Option.getD_some, HPLN.out]
            exact (((HIO.out.upd U1.out (by simp)).upd U2.out (by simp)).upd U3.out (fun y hy hy2 => by have := HIO.out.low y hy; simp at hy2; omega)).base (by omega)
end Go.Proofs.YtkahpkmofeglgaaDoor
namespace Go.Proofs.YtkahpkmofeglgaaDoor
open Go.RowKit

/-- Bytes more, as a step of a region that draws its order. -/
theorem step_pushes {w : World} {ops : Array Oper} {o : Oper} {a : Act} {K : Act → World → Prop} {Q : Exit → Act → World → Prop} {E : Prop} (hgd : o.guard = none) (s x : Operand)
    (ho : o.op = .call { callee := .builtin .append, args := #[s, x], argTypes := #[27, 27] }) (hty : o.type = 27) {B : Nat} {v : Value} {l p : List Nat} (hs : a.eval s = v) (hown : IsOut w B v l)
    (ad : Addr) (n c : Nat) (hn : n = p.length) (hx : a.eval x = .slice (some ad) n c) (hc : ∀ j u, (u8s p)[j]? = some u → w.cell? (ad.add j) = some u) (hp : BytesOk p) (hm : 0 < p.length) (hr : l.length + p.length ≤ 100000000000000) (hB : B ≤ w.heap.size)
    (h : ∀ a' c' w', IsOut w' B (.slice a' (l ++ p).length c') (l ++ p) → Mine v w (.slice a' (l ++ p).length c') w' → K (a.put o.dst (.slice a' (l ++ p).length c')) w') :
    if Region.wanted o (yielded ops a.tmps) = true then Oper.wp Tryd.prog o a w K Q else E := by
  have hw : Region.wanted o (yielded ops a.tmps) = true := by simp [Region.wanted, hgd]
  rw [if_pos hw]
  subst hn
  obtain ⟨v', w', hrun, h2, h3⟩ := run_append_out hown hp hm hr ad c hc hB
  obtain ⟨a', c', e, _⟩ := h2.slice
  subst e
  have hk := h a' c' w' h2 h3
  generalize (l ++ p).length = n' at h2 h3 hrun hk
  unfold Oper.wp
  simp [execOp, ho, hty, resolve, invoke, builtin, hs, hx, hrun, Result.andThen]
  exact hk
theorem isOut_low {w : World} {B : Nat} {v : Value} {l : List Nat} (h : IsOut w B v l) : ∀ x ∈ v.ownBlock.toList, B ≤ x := by
  intro x hx
  obtain ⟨⟨hl, ⟨rfl, h0⟩ | ⟨g, cap, cur, rfl, hg, hb, r⟩⟩ | ⟨g, cs, ty, fr, rfl, hg, hb, r⟩, ok⟩ := h
  · simp [Value.ownBlock] at hx
  · obtain rfl : x = g := by simpa [Value.ownBlock] using hx
    exact hg
  · obtain rfl : x = g := by simpa [Value.ownBlock] using hx
    exact hg
theorem rputPage_any {w : World} {a : Option Addr} {cap : Nat} {x : Img} (hb : IsBytes w a x.body) (hl : x.body.length ≤ 9223372036854775807) :
    Calls Tryd.prog 29 #[imgV x (.slice a x.body.length cap)] w fun e w' => PutOut w.heap.size (putPage x) e w' ∧ Upd [] w w' := by
  cases ho : okImg x
  · exact rputPage_no x ho hl
  · exact rputPage_yes hb ho
set_option maxRecDepth 100000 in
set_option maxHeartbeats 3200000 in
theorem rgetPage_any {w : World} {a : Option Addr} {l : List Nat} {cap : Nat} (m : Int) (hb : IsBytes w a l) (hc : l.length ≤ cap) (hm : cap ≤ 9223372036854775807) :
    Calls Tryd.prog 46 #[.slice a l.length cap, .int .i64 m] w fun e w' => PageRes w.heap.size (refPage l m) e w' ∧ Upd [] w w' := by
  have HB0 : Hid (∀ w', Upd [] w w' → IsBytes w' a l) := fun w' u => hb.upd u (by simp)
  have hX0 := heap_alloc_new w (.cells #[.int .i64 0, .slice none 0 0] 37)
  have hU0 := (Upd.refl [] w).alloc (.cells #[.int .i64 0, .slice none 0 0] 37)
  have hfil := filled_any (n := 256) (v := .slice none 0 0) (l := []) (B := w.heap.size + 1) (w := w.alloc (.cells #[.int .i64 0, .slice none 0 0] 37)) (IsOut.nil _ _) (by simp) (by decide) (by decide)
  have HFIL := Lib.hid hfil
  have HX0 := Lib.hid hX0
  have HU0 := Lib.hid hU0
  have HOK := Lib.hid hb.1
  have hrf : refPage l m = if decide (l = zero256) then some (0, []) else if decide (l.length = 256) && (okImg (pageImg l m) && decide (frame (pageBytes (pageImg l m)) = l)) then some (numi (seg l 4 1), seg l 12 240) else none := rfl
  have HRF := Lib.hid hrf
  have hbd0 := buildPg0
  clear hb hX0 hU0 hfil hrf
  go_enter Tryd.func46, Tryd.ntmps46
  go_wp2_with fail
  refine HFIL.out.mono ?_
  rintro e w1 ⟨v1, rfl, h1, m1⟩
  have hu1 := HU0.out.step m1.upd (fun x hx => by simp [Value.ownBlock] at hx)
  obtain ⟨a1, c1, rfl, hb1, _⟩ := h1.slice
  rw [show pad [] 256 = zero256 from rfl] at hb1 ⊢
  have hsm := same_any (cap := cap) (cap' := c1) (HB0.out _ hu1) hb1 (by omega) (by rw [show zero256.length = 256 from List.length_replicate]; decide)
  have HX1 := Lib.hid (m1.upd.get HX0.out (by simp [Value.ownBlock]))
  have U1 := Lib.hid hu1
  clear h1 m1 hb1 hu1 HFIL
  rw [show zero256.length = 256 from List.length_replicate] at hsm ⊢
  cases hz : decide (l = zero256)
  rotate_left
  · rw [hz] at hsm HRF
    simp only [if_true] at HRF
    have HS := Lib.hid hsm
    clear hsm hz
    go_wp2_with (first
      | (go_at_call 18; (with_reducible refine HS.out.mono ?_); rintro e w2 ⟨rfl, u2⟩; have U2 := Lib.hid u2; clear u2)
      | (refine wpList_store_all rfl 37 (.tmp 4) (.tmp 12) rfl w.heap.size _ rfl rfl _ _ (U2.out.get HX1.out (by simp)) infoPage rfl (by kernel_rfl) ?_; intro w3 hg3 hu3 _; have G3 := Lib.hid hg3; have U3 := Lib.hid hu3; clear hg3 hu3))
    refine bodyPost_ret (results_block_tmp Tryd.results46 _ _ w.heap.size 2 _ _ _ _ rfl G3.out Tryd.underlying37 rfl infoPage rfl) rfl ⟨by rw [HRF.out]; exact PageRes.zero _ _, (U1.out.trans U2.out).step U3.out (fun x hx => .inr (by simp at hx; omega))⟩
  rw [hz] at hsm HRF
  simp only [Bool.false_eq_true, if_false] at HRF
  have HS := Lib.hid hsm
  clear hsm hz
  by_cases h256 : l.length = 256
  rotate_left
  · have d1 : ((l.length : Int) != 256) = true := by rw [bne_iff_ne]; omega
    rw [decide_eq_false h256, Bool.false_and] at HRF
    simp only [Bool.false_eq_true, if_false] at HRF
    clear h256
    go_wp2_with (first
      | (go_at_call 18; (with_reducible refine HS.out.mono ?_); rintro e w2 ⟨rfl, u2⟩; have U2 := Lib.hid u2; clear u2)
      | (refine wpList_store_all rfl 37 (.tmp 4) (.tmp 16) rfl w.heap.size _ rfl rfl _ _ (U2.out.get HX1.out (by simp)) infoPage rfl (by kernel_rfl) ?_; intro w3 hg3 hu3 _; have G3 := Lib.hid hg3; have U3 := Lib.hid hu3; clear hg3 hu3))
    refine bodyPost_ret (results_block_tmp Tryd.results46 _ _ w.heap.size 2 _ _ _ _ rfl G3.out Tryd.underlying37 rfl infoPage rfl) rfl ⟨by rw [HRF.out]; exact PageRes.no _ _, (U1.out.trans U2.out).step U3.out (fun x hx => .inr (by simp at hx; omega))⟩
  rw [decide_eq_true h256, Bool.true_and] at HRF
  obtain ⟨b, o, ha, hcx⟩ := (HB0.out w (Upd.refl _ _)).2 0 (by omega)
  subst ha
  clear hcx
  rw [h256] at hc HS ⊢
  have HL := Lib.hid h256
  clear h256
  have h252 : (252 : Int) ≤ cap := by omega
  have hne12 : ¬ cap = 12 := by omega
  have hbp := buildPg1
  have hbi := fun m k a n c w => buildImg m k a n c w
  go_wp2_with fail
  refine HS.out.mono ?_
  rintro e w2 ⟨rfl, u2⟩
  have U2 := Lib.hid (U1.out.trans u2)
  have HX2 := Lib.hid (u2.get HX1.out (by simp))
  have hnb := number_i (cap := cap) 4 1 (HB0.out _ U2.out) (by have := HL.out; omega) (by decide) (by decide) (by decide) (by decide)
  rw [show seg l (Int.toNat 4) (Int.toNat 1) = seg l 4 1 from rfl, HL.out] at hnb
  obtain ⟨K, hK⟩ : ∃ K, numi (seg l 4 1) = K := ⟨_, rfl⟩
  rw [hK] at hnb
  have HK := Lib.hid hK
  have HNB := Lib.hid hnb
  clear u2 hnb hK HX1 HS
  go_upto_region 6 with (go_at_call 69; (with_reducible refine HNB.out.mono ?_); rintro e w' ⟨rfl, rfl⟩)
  have hp3 := heap_alloc_new w2 (.cells #[.int .i64 m, .int .i64 K, .slice none 0 0] 39)
  have hx3 := ((Upd.refl [] w2).alloc (.cells #[.int .i64 m, .int .i64 K, .slice none 0 0] 39)).get HX2.out (by simp)
  have hu3 := U2.out.alloc (.cells #[.int .i64 m, .int .i64 K, .slice none 0 0] 39)
  have hlw := lt_of_block HX2.out
  generalize w2.alloc (.cells #[.int .i64 m, .int .i64 K, .slice none 0 0] 39) = w3 at hp3 hx3 hu3 ⊢
  generalize w2.heap.size = ib at hp3 hlw ⊢
  have hnews := (((HB0.out _ hu3.drew).drop 12).sub 240).news
  rw [← seg_eq (by have := HL.out; omega)] at hnews
  have hcel : ∀ wx, Upd [] w3 wx → wx.cell? ⟨ib, 2, none⟩ = some (.slice none 0 0) ∧ wx.frozen? ⟨ib, 2, none⟩ = false := fun wx u => by
    obtain ⟨k1, k2⟩ := cells_of (u.get hp3 (by simp))
    exact ⟨k1 2, k2 2⟩
  obtain ⟨p0, f0⟩ := hcel w3 (Upd.refl _ _)
  have hsz := lt_of_block hp3
  have HNEWS := Lib.hid hnews
  have HCEL := Lib.hid hcel
  have HP3 := Lib.hid hp3
  have HX3 := Lib.hid hx3
  have U3 := Lib.hid hu3
  have HSO := Lib.hid (seg_ok HOK.out 12 240)
  have HSL := Lib.hid (seg_len l 12 240)
  clear hnews hcel hp3 hx3 hu3 HNB
  go_region_law (refine step_pushes rfl (.tmp 24) (.tmp 26) rfl rfl (B := ib + 1) (v := .slice none 0 0) (l := []) (p := seg l 12 240) rfl (IsOut.nil _ _) ⟨b, o + 12, none⟩ 240 (cap - 12) (by rw [HSL.out]) rfl HNEWS.out HSO.out (by rw [HSL.out]; decide) (by rw [HSL.out]; decide) hsz ?_; intro a7 c7 w7 hn7 hm7; rw [List.nil_append, HSL.out] at hn7 hm7 ⊢; have N7 := Lib.hid hn7; have M7 := Lib.hid hm7; have U7 := Lib.hid ((Upd.refl [] w3).drew.trans hm7.upd); obtain ⟨p1, f1⟩ := HCEL.out _ U7.out; have hsz7 := Nat.lt_of_lt_of_le hsz U7.out.size; clear hn7 hm7)
  all_goals
    have h2 := heap_setCell_same w7 ib 2 _ _ (.slice a7 240 c7) (U7.out.get HP3.out (by simp))
    have us : Upd [ib] w7 (w7.setCell ⟨ib, 2, none⟩ (.slice a7 240 c7)) := (Upd.refl _ _).setCell (.inl (by simp)) _
    have hu9 := (U3.out.trans U7.out).step us (fun y hy => .inr (by simp at hy; omega))
    have hx9 := us.get (U7.out.get HX3.out (by simp)) (by simp; omega)
    have hlo := isOut_low N7.out
    have hn9 := N7.out.upd us (fun y hy hy2 => by have := hlo y hy; simp at hy2; omega)
    clear p0 f0 p1 f1 hsz hsz7 us
    generalize w7.setCell ⟨ib, 2, none⟩ (.slice a7 240 c7) = w9 at h2 hu9 hx9 hn9 ⊢
    obtain ⟨ax, cx, ex, hbx, _⟩ := hn9.slice
    injection ex with e1 e2 e3
    subst e1
    subst e3
    have hrp := rputPage_any (x := pageImg l m) (cap := c7) (show IsBytes w9 a7 (pageImg l m).body from hbx) (by rw [show (pageImg l m).body = seg l 12 240 from rfl, HSL.out]; decide)
    have hiv : imgV (pageImg l m) (.slice a7 (pageImg l m).body.length c7) = .agg #[.int .i64 m, .int .i64 K, .slice a7 240 c7] := by
      rw [show (pageImg l m).body = seg l 12 240 from rfl, HSL.out]
      unfold imgV pageImg
      rw [HK.out]
    rw [hiv] at hrp
    have HRP := Lib.hid hrp
    have HB9 := Lib.hid (show w9.heap[ib]? = some (.cells #[.int .i64 m, .int .i64 K, .slice a7 240 c7] 39 (0, 0)) from h2)
    have HX9 := Lib.hid hx9
    have U9 := Lib.hid hu9
    have N9 := Lib.hid hn9
    have hwi := hlw
    have hbi9 := lt_of_block h2
    have hfl : okImg (pageImg l m) = true → (frame (pageBytes (pageImg l m))).length ≤ 9223372036854775807 := fun h => by
      rw [frame_len (by rw [pageBytes_len, (okImg_parts h).2.2.2.2]; decide)]; decide
    have HFL := Lib.hid hfl
    clear h2 hu9 hx9 hn9 hbx hrp hiv hfl hlo e2
    go_wp2_with (refine wpList_load_all rfl 39 (.tmp 6) rfl ib 3 rfl _ _ _ _ HB9.out Tryd.underlying39 rfl infoImage rfl ?_)
    refine HRP.out.mono ?_
    rintro e y1 ⟨⟨vp, rfl, hvp⟩, u1⟩
    have V1 := Lib.hid u1
    cases hok : okImg (pageImg l m)
    · rw [show putPage (pageImg l m) = none by unfold putPage; rw [hok]; rfl] at hvp ⊢
      simp only [Option.isSome_none, Bool.false_eq_true, if_false]
      have HR := Lib.hid (HRF.out.trans (by rw [hok, Bool.false_and, if_neg Bool.false_ne_true]))
      clear hok hvp u1
      go_wp2_with (refine wpList_store_all rfl 37 (.tmp 4) (.tmp 43) rfl w.heap.size _ rfl rfl _ _ (V1.out.get HX9.out (by simp)) infoPage rfl (by kernel_rfl) ?_; intro y3 hg3 hu3 _; have G3 := Lib.hid hg3; have V3 := Lib.hid hu3; clear hg3 hu3)
      refine bodyPost_ret (results_block_tmp Tryd.results46 _ _ w.heap.size 2 _ _ _ _ rfl G3.out Tryd.underlying37 rfl infoPage rfl) rfl ⟨by rw [HR.out]; exact PageRes.no _ _, (U9.out.trans V1.out).step V3.out (fun x hx => .inr (by simp at hx; omega))⟩
    · rw [show putPage (pageImg l m) = some (frame (pageBytes (pageImg l m))) by unfold putPage; rw [hok]; rfl] at hvp ⊢
      simp only [Option.isSome_some, if_true, Option.getD_some] at hvp ⊢
      obtain ⟨ap, cp, rfl, hbp2, _, _, _⟩ := hvp.slice
      have hsm := same_any (cap := cp) (cap' := cap) hbp2 (HB0.out _ (U9.out.trans u1)) (HFL.out hok) (by have := HL.out; omega)
      rw [HL.out] at hsm
      cases heq : decide (frame (pageBytes (pageImg l m)) = l)
      · rw [heq] at hsm
        have HS := Lib.hid hsm
        have HR := Lib.hid (HRF.out.trans (by rw [hok, heq, Bool.and_false, if_neg Bool.false_ne_true]))
        clear hok hvp u1 hbp2 hsm heq
        go_wp2_with (first
          | (go_at_call 18; (with_reducible refine HS.out.mono ?_); rintro e y2 ⟨rfl, u2⟩; have V2 := Lib.hid u2; clear u2)
          | (refine wpList_store_all rfl 37 (.tmp 4) (.tmp 43) rfl w.heap.size _ rfl rfl _ _ ((V1.out.trans V2.out).get HX9.out (by simp)) infoPage rfl (by kernel_rfl) ?_; intro y3 hg3 hu3 _; have G3 := Lib.hid hg3; have V3 := Lib.hid hu3; clear hg3 hu3))
        refine bodyPost_ret (results_block_tmp Tryd.results46 _ _ w.heap.size 2 _ _ _ _ rfl G3.out Tryd.underlying37 rfl infoPage rfl) rfl ⟨by rw [HR.out]; exact PageRes.no _ _, ((U9.out.trans V1.out).trans V2.out).step V3.out (fun x hx => .inr (by simp at hx; omega))⟩
      · rw [heq] at hsm
        have HS := Lib.hid hsm
        have HR := Lib.hid (HRF.out.trans (by rw [hok, heq, Bool.and_true, if_pos rfl]))
        clear hok hvp u1 hbp2 hsm heq
        go_wp2_with (first
          | (go_at_call 18; (with_reducible refine HS.out.mono ?_); rintro e y2 ⟨rfl, u2⟩; have V2 := Lib.hid u2; clear u2)
          | (refine wpList_load_part rfl 37 (.tmp 44) rfl ib 1 2 rfl _ _ _ _ ((V1.out.trans V2.out).get HB9.out (by simp)) Tryd.underlying37 rfl infoPage (by simp) ?_)
          | (refine wpList_store_all rfl 37 (.tmp 4) (.tmp 45) rfl w.heap.size #[.int .i64 K, .slice a7 240 c7] rfl rfl _ _ ((V1.out.trans V2.out).get HX9.out (by simp)) infoPage rfl rfl ?_; intro y3 hg3 hu3 _; have G3 := Lib.hid hg3; have V3 := Lib.hid hu3; clear hg3 hu3))
        refine bodyPost_ret (results_block_tmp Tryd.results46 _ _ w.heap.size 2 _ _ _ _ rfl G3.out Tryd.underlying37 rfl infoPage rfl) rfl ⟨?_, ((U9.out.trans V1.out).trans V2.out).step V3.out (fun x hx => .inr (by simp at hx; omega))⟩
        rw [HR.out]
        refine ⟨.slice a7 240 c7, by rw [HK.out]; rfl, ?_⟩
        exact (((N9.out.ret.upd V1.out (by simp)).upd V2.out (by simp)).upd V3.out (fun x hx => by simp at hx; omega)).base (by omega)
end Go.Proofs.YtkahpkmofeglgaaDoor
namespace Go.Proofs.YtkahpkmofeglgaaDoor
open Go.RowKit

theorem rputImage_any {w : World} {a : Option Addr} {cap : Nat} (e s : Int) {x : Img} (hb : IsBytes w a x.body) (hl : x.body.length ≤ 9223372036854775807) :
    Calls Tryd.prog 21 #[.int .i64 e, .int .i64 s, imgV x (.slice a x.body.length cap)] w fun en w' => PutOut w.heap.size (putImage e s x) en w' ∧ Upd [] w w' := by
  cases ho : okImage e s x
  · exact rputImage_no e s x hb ho hl
  · exact rputImage_yes hb ho
set_option maxRecDepth 100000 in
set_option maxHeartbeats 3200000 in
theorem rgetImage_any {w : World} {a : Option Addr} {l : List Nat} {cap : Nat} (hb : IsBytes w a l) (hc : l.length ≤ cap) (hm : cap ≤ 9223372036854775807) :
    Calls Tryd.prog 47 #[.slice a l.length cap] w fun e w' => ImgRes w.heap.size (refImage l) e w' ∧ Upd [] w w' := by
  have HB0 : Hid (∀ w', Upd [] w w' → IsBytes w' a l) := fun w' u => hb.upd u (by simp)
  have hX0 := heap_alloc_new w (.cells #[.int .i64 0, .int .i64 0, .slice none 0 0] 39)
  have hU0 := (Upd.refl [] w).alloc (.cells #[.int .i64 0, .int .i64 0, .slice none 0 0] 39)
  have HX1 := Lib.hid hX0
  have U1 := Lib.hid hU0
  have HOK := Lib.hid hb.1
  have hrf : refImage l = if decide (l.length = 256) && (okImage (numi (seg l 3 4)) (numi (seg l 7 5)) (imgOf l) && decide (frame (imageBytes (numi (seg l 3 4)) (numi (seg l 7 5)) (imgOf l)) = l)) then some (numi (seg l 3 4), numi (seg l 7 5), imgOf l) else none := by unfold refImage; simp
  have HRF := Lib.hid hrf
  have hbd0 := buildImg0
  clear hb hX0 hU0 hrf
  go_enter Tryd.func47, Tryd.ntmps47
  by_cases h256 : l.length = 256
  rotate_left
  · have d1 : ((l.length : Int) != 256) = true := by rw [bne_iff_ne]; omega
    rw [decide_eq_false h256, Bool.false_and] at HRF
    simp only [Bool.false_eq_true, if_false] at HRF
    clear h256
    go_wp2_with (refine wpList_store_all rfl 39 (.tmp 4) (.tmp 14) rfl w.heap.size _ rfl rfl _ _ HX1.out infoImage rfl (by kernel_rfl) ?_; intro w3 hg3 hu3 _; have G3 := Lib.hid hg3; have U3 := Lib.hid hu3; clear hg3 hu3)
    refine bodyPost_ret (results_2_block_tmp Tryd.results47 _ _ w.heap.size 3 _ _ _ _ rfl G3.out Tryd.underlying39 rfl infoImage rfl) rfl ⟨by rw [HRF.out]; exact ImgRes.no _ _, U1.out.step U3.out (fun x hx => .inr (by simp at hx; omega))⟩
  rw [decide_eq_true h256, Bool.true_and] at HRF
  obtain ⟨b, o, ha, hcx⟩ := (HB0.out w (Upd.refl _ _)).2 0 (by omega)
  subst ha
  clear hcx
  rw [h256] at hc ⊢
  have HL := Lib.hid h256
  clear h256
  have h252 : (252 : Int) ≤ cap := by omega
  have hne12 : ¬ cap = 12 := by omega
  have hbp := buildPg1
  have hbi := fun m k a n c w => buildImg m k a n c w
  have hna : ∀ w', Upd [] w w' → ∀ x k : Int, 0 ≤ k → k ≤ 8 → 0 ≤ x → x ≤ 1000 → Calls Tryd.prog 69 #[.slice (some ⟨b, o, none⟩) 256 cap, .int .i64 x, .int .i64 k] w' fun e w'' => e = .returned (.int .i64 (numi (seg l x.toNat k.toNat))) ∧ w' = w'' := fun w' u x k h1 h2 h3 h4 => by
    have := number_i (cap := cap) x k (HB0.out w' u) (by have := HL.out; omega) h1 h2 h3 h4
    rw [HL.out] at this
    exact this
  have HNA := Lib.hid hna
  clear hna
  obtain ⟨m, hM⟩ : ∃ K, numi (seg l 1 2) = K := ⟨_, rfl⟩
  obtain ⟨K, hK⟩ : ∃ K, numi (seg l 0 1) = K := ⟨_, rfl⟩
  obtain ⟨E, hE⟩ : ∃ K, numi (seg l 3 4) = K := ⟨_, rfl⟩
  obtain ⟨S, hS⟩ : ∃ K, numi (seg l 7 5) = K := ⟨_, rfl⟩
  have hn1 := HNA.out _ U1.out 1 2 (by decide) (by decide) (by decide) (by decide)
  have hn2 := HNA.out _ U1.out 0 1 (by decide) (by decide) (by decide) (by decide)
  rw [show seg l (Int.toNat 1) (Int.toNat 2) = seg l 1 2 from rfl, hM] at hn1
  rw [show seg l (Int.toNat 0) (Int.toNat 1) = seg l 0 1 from rfl, hK] at hn2
  have H1 := Lib.hid hn1
  have H2 := Lib.hid hn2
  rw [hE, hS] at HRF
  have HIM := Lib.hid (show imgOf l = ⟨m, K, seg l 12 240⟩ by unfold imgOf; rw [hM, hK])
  have HE := Lib.hid hE
  have HSS := Lib.hid hS
  clear hn1 hn2 hM hK hE hS
  go_upto_region 4 with (go_at_call 69; first | ((with_reducible refine H1.out.mono ?_); rintro e w' ⟨rfl, rfl⟩) | ((with_reducible refine H2.out.mono ?_); rintro e w' ⟨rfl, rfl⟩))
  have hp3 := heap_alloc_new (w.alloc (.cells #[.int .i64 0, .int .i64 0, .slice none 0 0] 39)) (.cells #[.int .i64 m, .int .i64 K, .slice none 0 0] 39)
  rw [show (w.alloc (.cells #[.int .i64 0, .int .i64 0, .slice none 0 0] 39)).heap.size = w.heap.size + 1 by simp] at hp3
  have hx3 := ((Upd.refl [] _).alloc (.cells #[.int .i64 m, .int .i64 K, .slice none 0 0] 39)).get HX1.out (by simp)
  have hu3 := U1.out.alloc (.cells #[.int .i64 m, .int .i64 K, .slice none 0 0] 39)
  generalize (w.alloc (.cells #[.int .i64 0, .int .i64 0, .slice none 0 0] 39)).alloc (.cells #[.int .i64 m, .int .i64 K, .slice none 0 0] 39) = w3 at hp3 hx3 hu3 ⊢
  have hnews := (((HB0.out _ hu3.drew).drop 12).sub 240).news
  rw [← seg_eq (by have := HL.out; omega)] at hnews
  have hcel : ∀ wx, Upd [] w3 wx → wx.cell? ⟨w.heap.size + 1, 2, none⟩ = some (.slice none 0 0) ∧ wx.frozen? ⟨w.heap.size + 1, 2, none⟩ = false := fun wx u => by
    obtain ⟨k1, k2⟩ := cells_of (u.get hp3 (by simp))
    exact ⟨k1 2, k2 2⟩
  obtain ⟨p0, f0⟩ := hcel w3 (Upd.refl _ _)
  have hsz := lt_of_block hp3
  have HNEWS := Lib.hid hnews
  have HCEL := Lib.hid hcel
  have HP3 := Lib.hid hp3
  have HX3 := Lib.hid hx3
  have U3 := Lib.hid hu3
  have HSO := Lib.hid (seg_ok HOK.out 12 240)
  have HSL := Lib.hid (seg_len l 12 240)
  clear hnews hcel hp3 hx3 hu3 H1 H2
  go_region_law (refine step_pushes rfl (.tmp 23) (.tmp 25) rfl rfl (B := w.heap.size + 2) (v := .slice none 0 0) (l := []) (p := seg l 12 240) rfl (IsOut.nil _ _) ⟨b, o + 12, none⟩ 240 (cap - 12) (by rw [HSL.out]) rfl HNEWS.out HSO.out (by rw [HSL.out]; decide) (by rw [HSL.out]; decide) hsz ?_; intro a7 c7 w7 hn7 hm7; rw [List.nil_append, HSL.out] at hn7 hm7 ⊢; have N7 := Lib.hid hn7; have M7 := Lib.hid hm7; have U7 := Lib.hid ((Upd.refl [] w3).drew.trans hm7.upd); obtain ⟨p1, f1⟩ := HCEL.out _ U7.out; have hsz7 := Nat.lt_of_lt_of_le hsz U7.out.size; clear hn7 hm7)
  all_goals
    have h2 := heap_setCell_same w7 (w.heap.size + 1) 2 _ _ (.slice a7 240 c7) (U7.out.get HP3.out (by simp))
    have us : Upd [w.heap.size + 1] w7 (w7.setCell ⟨w.heap.size + 1, 2, none⟩ (.slice a7 240 c7)) := (Upd.refl _ _).setCell (.inl (by simp)) _
    have hu9 := (U3.out.trans U7.out).step us (fun y hy => .inr (by simp at hy; omega))
    have hx9 := us.get (U7.out.get HX3.out (by simp)) (by simp)
    have hlo := isOut_low N7.out
    have hn9 := N7.out.upd us (fun y hy hy2 => by have := hlo y hy; simp at hy2; omega)
    clear p0 f0 p1 f1 hsz hsz7 us
    generalize w7.setCell ⟨w.heap.size + 1, 2, none⟩ (.slice a7 240 c7) = w9 at h2 hu9 hx9 hn9 ⊢
    obtain ⟨ax, cx, ex, hbx, _⟩ := hn9.slice
    injection ex with e1 e2 e3
    subst e1
    subst e3
    have hrp := rputImage_any (x := imgOf l) (cap := c7) E S (show IsBytes w9 a7 (imgOf l).body from hbx) (by rw [show (imgOf l).body = seg l 12 240 from rfl, HSL.out]; decide)
    have hiv : ∀ v, imgV (imgOf l) v = .agg #[.int .i64 m, .int .i64 K, v] := fun v => by rw [HIM.out]; rfl
    rw [hiv, show (imgOf l).body = seg l 12 240 from rfl, HSL.out] at hrp
    have HRP := Lib.hid hrp
    have HIV := Lib.hid hiv
    have hb9 : w9.heap[w.heap.size + 1]? = some (.cells #[.int .i64 m, .int .i64 K, .slice a7 240 c7] 39 (0, 0)) := h2
    have HB9 := Lib.hid hb9
    have HX9 := Lib.hid hx9
    have U9 := Lib.hid hu9
    have N9 := Lib.hid hn9
    have hbi9 := lt_of_block h2
    have hfl : okImage E S (imgOf l) = true → (frame (imageBytes E S (imgOf l))).length ≤ 9223372036854775807 := fun h => by
      rw [frame_len (by rw [imageBytes_len, show (imgOf l).body = seg l 12 240 from rfl, HSL.out]; decide)]; decide
    have HFL := Lib.hid hfl
    have hn3 := HNA.out _ hu9 3 4 (by decide) (by decide) (by decide) (by decide)
    have hn4 := HNA.out _ hu9 7 5 (by decide) (by decide) (by decide) (by decide)
    rw [show seg l (Int.toNat 3) (Int.toNat 4) = seg l 3 4 from rfl, HE.out] at hn3
    rw [show seg l (Int.toNat 7) (Int.toNat 5) = seg l 7 5 from rfl, HSS.out] at hn4
    have H3 := Lib.hid hn3
    have H4 := Lib.hid hn4
    clear h2 hu9 hx9 hn9 hbx hrp hiv hfl hlo e2 hn3 hn4 hb9
    go_wp2_with (first
      | (go_at_call 69; first | ((with_reducible refine H3.out.mono ?_); rintro e w' ⟨rfl, rfl⟩) | ((with_reducible refine H4.out.mono ?_); rintro e w' ⟨rfl, rfl⟩))
      | (refine wpList_load_all rfl 39 (.tmp 6) rfl (w.heap.size + 1) 3 rfl _ _ _ _ HB9.out Tryd.underlying39 rfl infoImage rfl ?_))
    refine HRP.out.mono ?_
    rintro e y1 ⟨⟨vp, rfl, hvp⟩, u1⟩
    have V1 := Lib.hid u1
    cases hok : okImage E S (imgOf l)
    · rw [show putImage E S (imgOf l) = none by unfold putImage; rw [hok]; rfl] at hvp ⊢
      simp only [Option.isSome_none, Bool.false_eq_true, if_false]
      have HR := Lib.hid (HRF.out.trans (by rw [hok, Bool.false_and, if_neg Bool.false_ne_true]))
      clear hok hvp u1
      go_wp2_with (refine wpList_store_all rfl 39 (.tmp 4) (.tmp 48) rfl w.heap.size _ rfl rfl _ _ (V1.out.get HX9.out (by simp)) infoImage rfl (by kernel_rfl) ?_; intro y3 hg3 hu3 _; have G3 := Lib.hid hg3; have V3 := Lib.hid hu3; clear hg3 hu3)
      refine bodyPost_ret (results_2_block_tmp Tryd.results47 _ _ w.heap.size 3 _ _ _ _ rfl G3.out Tryd.underlying39 rfl infoImage rfl) rfl ⟨by rw [HR.out]; exact ImgRes.no _ _, (U9.out.trans V1.out).step V3.out (fun x hx => .inr (by simp at hx; omega))⟩
    · rw [show putImage E S (imgOf l) = some (frame (imageBytes E S (imgOf l))) by unfold putImage; rw [hok]; rfl] at hvp ⊢
      simp only [Option.isSome_some, if_true, Option.getD_some] at hvp ⊢
      obtain ⟨ap, cp, rfl, hbp2, _, _, _⟩ := hvp.slice
      have hsm := same_any (cap := cp) (cap' := cap) hbp2 (HB0.out _ (U9.out.trans u1)) (HFL.out hok) (by have := HL.out; omega)
      rw [HL.out] at hsm
      cases heq : decide (frame (imageBytes E S (imgOf l)) = l)
      · rw [heq] at hsm
        have HS := Lib.hid hsm
        have HR := Lib.hid (HRF.out.trans (by rw [hok, heq, Bool.and_false, if_neg Bool.false_ne_true]))
        clear hok hvp u1 hbp2 hsm heq
        go_wp2_with (first
          | (go_at_call 18; (with_reducible refine HS.out.mono ?_); rintro e y2 ⟨rfl, u2⟩; have V2 := Lib.hid u2; clear u2)
          | (refine wpList_store_all rfl 39 (.tmp 4) (.tmp 48) rfl w.heap.size _ rfl rfl _ _ ((V1.out.trans V2.out).get HX9.out (by simp)) infoImage rfl (by kernel_rfl) ?_; intro y3 hg3 hu3 _; have G3 := Lib.hid hg3; have V3 := Lib.hid hu3; clear hg3 hu3))
        refine bodyPost_ret (results_2_block_tmp Tryd.results47 _ _ w.heap.size 3 _ _ _ _ rfl G3.out Tryd.underlying39 rfl infoImage rfl) rfl ⟨by rw [HR.out]; exact ImgRes.no _ _, ((U9.out.trans V1.out).trans V2.out).step V3.out (fun x hx => .inr (by simp at hx; omega))⟩
      · rw [heq] at hsm
        have HS := Lib.hid hsm
        have HR := Lib.hid (HRF.out.trans (by rw [hok, heq, Bool.and_true, if_pos rfl]))
        clear hok hvp u1 hbp2 hsm heq
        go_wp2_with fail
        refine HS.out.mono ?_
        rintro e y2 ⟨rfl, u2⟩
        have V2 := Lib.hid (V1.out.trans u2)
        have hi2 := V2.out.get HB9.out (by simp)
        have hz2 := V2.out.get HX9.out (by simp)
        obtain ⟨c0, c1, c2⟩ := cells3 hi2
        obtain ⟨d0, d1, d2⟩ := cells3 hz2
        have g0 := (cells_of hz2).2 0
        have g1 := (cells_of hz2).2 1
        have g2 := (cells_of hz2).2 2
        clear u2
        go_upto_region 10 with fail
        go_region
        go_wp2
        have s0 := heap_setCell_same y2 w.heap.size 0 _ _ (.int .i64 m) hz2
        have s1 := heap_setCell_same _ w.heap.size 1 _ _ (.int .i64 K) s0
        have s2 := heap_setCell_same _ w.heap.size 2 _ _ (.slice a7 240 c7) s1
        have us : Upd [w.heap.size] y2 (((y2.setCell ⟨w.heap.size, 0, none⟩ (.int .i64 m)).setCell ⟨w.heap.size, 1, none⟩ (.int .i64 K)).setCell ⟨w.heap.size, 2, none⟩ (.slice a7 240 c7)).drew := ((((Upd.refl _ _).setCell (.inl (by simp)) _).setCell (.inl (by simp)) _).setCell (.inl (by simp)) _).drew
        refine bodyPost_ret (results_2_block_tmp Tryd.results47 _ _ w.heap.size 3 39 #[.int .i64 m, .int .i64 K, .slice a7 240 c7] (0, 0) _ rfl s2 Tryd.underlying39 rfl infoImage rfl) rfl ⟨?_, (U9.out.trans V2.out).step us (fun x hx => .inr (by simp at hx; omega))⟩
        rw [HR.out]
        refine ⟨.slice a7 240 c7, by simp only [Option.getD_some, HIV.out]; rfl, ?_⟩
        simp only [Option.getD_some]
        rw [show (imgOf l).body = seg l 12 240 from rfl]
        exact ((N9.out.ret.upd V2.out (by simp)).upd us (fun x hx => by simp at hx; omega)).base (by omega)
end Go.Proofs.YtkahpkmofeglgaaDoor
