/-
  PROVED HERE: the document's GetNode, of any bytes. Conditions: the bytes can be read.
-/
import Derived.Test.YtkahpkmofeglgaaDoorLawNode
namespace Go.Proofs.YtkahpkmofeglgaaDoor
open Go.RowKit

theorem leafK {wc w8 : World} {nb : Nat} {L : Bool} {ks vs : List Int} {v u v8 : Value} (hcb : wc.heap[nb]? = some (.cells #[.bool L, v, u] 67 (0, 0))) (hu : IntsOut wc (nb + 1) u vs) (hv : ∀ y ∈ v.ownBlock.toList, nb + 1 ≤ y) (hd : ∀ y ∈ v.ownBlock.toList, y ∉ u.ownBlock.toList) (N8 : IntsOut w8 (nb + 1) v8 ks) (M8 : Mine v wc v8 w8) :
    HalfN (w8.setCell ⟨nb, 1, none⟩ v8) nb L ks vs ∧ Upd (nb :: v.ownBlock.toList) wc (w8.setCell ⟨nb, 1, none⟩ v8) := by
  have hb8 := M8.upd.get hcb (fun h => by have := hv _ h; omega)
  have h2 := heap_setCell_same w8 nb 1 _ _ v8 hb8
  have us : Upd [nb] w8 (w8.setCell ⟨nb, 1, none⟩ v8) := (Upd.refl _ _).setCell (.inl (by simp)) _
  refine ⟨⟨v8, u, h2, N8.upd us (fun y hy hy2 => by have := (N8.low y hy).1; simp at hy2; omega), (hu.upd M8.upd (fun y hy hy2 => hd y hy2 hy)).upd us (fun y hy hy2 => by have := (hu.low y hy).1; simp at hy2; omega), fun y hy hy2 => ?_⟩, (M8.upd.mono (fun y hy => by simp [hy])).trans (us.mono (fun y hy => by simp at hy; simp [hy]))⟩
  rcases M8.blk y hy with h | h
  · exact hd y h hy2
  · have := (hu.low y hy2).2; omega
theorem leafW {wc w8 : World} {nb : Nat} {L : Bool} {ks vs : List Int} {v u u8 : Value} (hcb : wc.heap[nb]? = some (.cells #[.bool L, v, u] 67 (0, 0))) (hv : IntsOut wc (nb + 1) v ks) (hu : ∀ y ∈ u.ownBlock.toList, nb + 1 ≤ y) (hd : ∀ y ∈ v.ownBlock.toList, y ∉ u.ownBlock.toList) (N8 : IntsOut w8 (nb + 1) u8 vs) (M8 : Mine u wc u8 w8) :
    HalfN (w8.setCell ⟨nb, 2, none⟩ u8) nb L ks vs ∧ Upd (nb :: u.ownBlock.toList) wc (w8.setCell ⟨nb, 2, none⟩ u8) := by
  have hb8 := M8.upd.get hcb (fun h => by have := hu _ h; omega)
  have h2 := heap_setCell_same w8 nb 2 _ _ u8 hb8
  have us : Upd [nb] w8 (w8.setCell ⟨nb, 2, none⟩ u8) := (Upd.refl _ _).setCell (.inl (by simp)) _
  refine ⟨⟨v, u8, h2, (hv.upd M8.upd hd).upd us (fun y hy hy2 => by have := (hv.low y hy).1; simp at hy2; omega), N8.upd us (fun y hy hy2 => by have := (N8.low y hy).1; simp at hy2; omega), fun y hy hy2 => ?_⟩, (M8.upd.mono (fun y hy => by simp [hy])).trans (us.mono (fun y hy => by simp at hy; simp [hy]))⟩
  rcases M8.blk y hy2 with h | h
  · exact hd y hy h
  · have := (hv.low y hy).2; omega
/-- What a round's one statement leaves: the node's block in the middle of a region that draws. -/
theorem nodeCells {w wx : World} {nb : Nat} {L : Bool} {v u : Value} {S : List Nat} (hcb : w.heap[nb]? = some (.cells #[.bool L, v, u] 67 (0, 0))) (h : Upd S w wx) (hs : ∀ y ∈ S, nb + 1 ≤ y) : wx.cell? ⟨nb, 1, none⟩ = some v ∧ wx.cell? ⟨nb, 2, none⟩ = some u ∧ wx.frozen? ⟨nb, 1, none⟩ = false ∧ wx.frozen? ⟨nb, 2, none⟩ = false := by
  obtain ⟨k1, k2⟩ := cells_of (h.get hcb (fun hm => by have := hs _ hm; omega))
  exact ⟨k1 1, k1 2, k2 1, k2 2⟩
set_option maxRecDepth 100000 in
set_option maxHeartbeats 6400000 in
theorem rgetNode_any {w : World} {a : Option Addr} {l : List Nat} {cap : Nat} (hb : IsBytes w a l) (hl : l.length ≤ 9223372036854775807) :
    Calls Tryd.prog 48 #[.slice a l.length cap] w fun e w' => NodeRes w.heap.size (refNode l) e w' ∧ Upd [] w w' := by
  have HB0 : Hid (∀ w', Upd [] w w' → IsBytes w' a l) := fun w' u => hb.upd u (by simp)
  have HCN := Lib.hid (show numi (seg l 1 1) = (nodeCount l : Int) from seg_nat hb.1 1 1 (by decide))
  obtain ⟨L, hL⟩ : ∃ L, decide (numi (seg l 0 1) = 1) = L := ⟨_, rfl⟩
  have hL2 : (numi (seg l 0 1) == 1) = L := by rw [← hL]; by_cases h : numi (seg l 0 1) = 1 <;> simp [h]
  have HLD : Hid (∀ m, nodeOf l m = ⟨L, keysOf l m, valsOf l m⟩) := fun m => by unfold nodeOf; rw [hL]
  have hX0 := heap_alloc_new w (.cells #[.bool false, .slice none 0 0, .slice none 0 0] 67)
  have hU0 := (Upd.refl [] w).alloc (.cells #[.bool false, .slice none 0 0, .slice none 0 0] 67)
  have hX1 := ((Upd.refl [] _).alloc (.cells #[.bool L, .slice none 0 0, .slice none 0 0] 67)).get hX0 (by simp)
  have hP1 := heap_alloc_new (w.alloc (.cells #[.bool false, .slice none 0 0, .slice none 0 0] 67)) (.cells #[.bool L, .slice none 0 0, .slice none 0 0] 67)
  rw [show (w.alloc (.cells #[.bool false, .slice none 0 0, .slice none 0 0] 67)).heap.size = w.heap.size + 1 by simp] at hP1
  have HU1 := Lib.hid (hU0.alloc (.cells #[.bool L, .slice none 0 0, .slice none 0 0] 67))
  have HX1 := Lib.hid hX1
  have HP1 := Lib.hid hP1
  have hb1 := fun w => buildNd L w
  have hbd0 := buildNd0
  have HN1 := number_i (cap := cap) 0 1 (HB0.out _ hU0) hl (by decide) (by decide) (by decide) (by decide)
  rw [show seg l (Int.toNat 0) (Int.toNat 1) = seg l 0 1 from rfl] at HN1
  generalize numi (seg l 0 1) = A at HN1 hL hL2
  have H1 := Lib.hid HN1
  have HL := Lib.hid hl
  clear hb hX0 hU0 hX1 hP1 HN1
  go_enter Tryd.func48, Tryd.ntmps48
  go_wp2_with (go_at_call 69; (with_reducible refine H1.out.mono ?_); rintro e w' ⟨rfl, rfl⟩)
  have hmn : min (nodeCount l) 8 ≤ nodeCount l ∧ min (nodeCount l) 8 ≤ 8 ∧ (min (nodeCount l) 8 = nodeCount l ∨ min (nodeCount l) 8 = 8) := by omega
  have hrf : refNode l = if okNode (nodeOf l (min (nodeCount l) 8)) && decide (pad (nodeBytes (nodeOf l (min (nodeCount l) 8))) 240 = l) then some (nodeOf l (min (nodeCount l) 8)) else none := rfl
  generalize min (nodeCount l) 8 = m at hmn hrf
  generalize nodeCount l = n at hmn HCN
  obtain ⟨hm1, hm2, hm3⟩ := hmn
  have HRF := Lib.hid hrf
  have HM3 := Lib.hid hm3
  clear hrf hm3 hL hL2
  have HF0 := Lib.hid (show HalfN ((w.alloc (.cells #[.bool false, .slice none 0 0, .slice none 0 0] 67)).alloc (.cells #[.bool L, .slice none 0 0, .slice none 0 0] 67)) (w.heap.size + 1) L (keysOf l 0) (valsOf l 0) from ⟨_, _, HP1.out, by simpa [keysOf] using IntsOut.nil _ _, by simpa [valsOf] using IntsOut.nil _ _, by simp [Value.ownBlock]⟩)
  go_loopw [5] (fun i wr => ∃ k : Nat, k ≤ m ∧ i = .int .i64 k ∧ HalfN wr (w.heap.size + 1) L (keysOf l k) (valsOf l k) ∧ wr.heap[w.heap.size]? = some (.cells #[.bool false, .slice none 0 0, .slice none 0 0] 67 (0, 0)) ∧ Upd [] w wr) (fun i _ => m - (intOf i).toNat)
  case atStart => exact ⟨0, by omega, rfl, HF0.out, HX1.out, HU1.out⟩
  case round =>
    obtain ⟨k, hk, rfl, hF, hX, hU⟩ := hrel
    have HU := Lib.hid hU
    have HXr := Lib.hid hX
    obtain ⟨v, u, hcb, hio, hiu, hdis⟩ := hF
    have hnc := number_i (cap := cap) 1 1 (HB0.out _ hU) HL.out (by decide) (by decide) (by decide) (by decide)
    rw [show seg l (Int.toNat 1) (Int.toNat 1) = seg l 1 1 from rfl, HCN.out] at hnc
    have HNC := Lib.hid hnc
    clear hX hU hnc
    by_cases hlt7 : k < m
    · have d0 : k < n := by omega
      have d3 : k < 8 := by omega
      have d1 : decide ((k : Int) < (n : Int)) = true := decide_eq_true (by omega)
      have d2 : decide ((k : Int) < 8) = true := decide_eq_true (by omega)
      obtain ⟨av, cv, rfl, _, _, _, _⟩ := hio.slice
      obtain ⟨au, cu, rfl, _, _, _, _⟩ := hiu.slice
      have HLK := Lib.hid (show (keysOf l k).length ≤ 10000000000000 by rw [keysOf_len]; omega)
      have HLV := Lib.hid (show (valsOf l k).length ≤ 10000000000000 by rw [valsOf_len]; omega)
      generalize (keysOf l k).length = nv at hcb hio hdis
      generalize (valsOf l k).length = nu at hcb hiu hdis
      have HSK := Lib.hid (keysOf_succ l k)
      have HSV := Lib.hid (valsOf_succ l k)
      have hnb := number_i (cap := cap) (2 + 6 * (k : Int)) 4 (HB0.out _ HU.out.drew) HL.out (by decide) (by decide) (by omega) (by omega)
      rw [show (2 + 6 * (k : Int)).toNat = 2 + 6 * k by omega, show (4 : Int).toNat = 4 from rfl] at hnb
      have hnv : ∀ w', Upd [] w w' → _ := fun w' u => number_i (a := a) (l := l) (cap := cap) (6 + 6 * (k : Int)) 2 (HB0.out w' u) HL.out (by decide) (by decide) (by omega) (by omega)
      rw [show (6 + 6 * (k : Int)).toNat = 6 + 6 * k by omega, show (2 : Int).toNat = 2 from rfl] at hnv
      generalize numi (seg l (2 + 6 * k) 4) = x at hnb HSK
      generalize numi (seg l (6 + 6 * k) 2) = y at hnv HSV
      have HNB := Lib.hid hnb
      have HNV := Lib.hid hnv
      have HIO := Lib.hid hio
      have HIU := Lib.hid hiu
      have HCB := Lib.hid hcb
      have HDIS := Lib.hid hdis
      have hsz := lt_of_block hcb
      obtain ⟨p0, p1, f0, f1⟩ := nodeCells hcb (Upd.refl [] wr) (by simp)
      have HOS : Hid (∀ y ∈ (Value.slice av nv cv).ownBlock.toList, w.heap.size + 2 ≤ y) := fun y hy => (hio.low y hy).1
      have hw4 : IntKind.i64.wrap (6 * (k : Int)) = 6 * (k : Int) := IntWalk.i64_in _ (by omega)
      have hw2 : IntKind.i64.wrap (2 + 6 * (k : Int)) = 2 + 6 * (k : Int) := IntWalk.i64_in _ (by omega)
      have hw6 : IntKind.i64.wrap (6 + 6 * (k : Int)) = 6 + 6 * (k : Int) := IntWalk.i64_in _ (by omega)
      clear hnb hnv hio hiu hcb hdis
      go_upto_region 5 with (go_at_call 69; (with_reducible refine HNC.out.mono ?_); rintro e w' ⟨rfl, rfl⟩)
      go_region_law (first
        | (refine step_pushi2 (w0 := wr) (S0 := []) rfl (.tmp 23) (.tmp 29) rfl (v := .slice av nv cv) (l := keysOf l k) rfl ?uk HIO.out (fun y _ h => by cases h) _ _ x rfl ?ck HLK.out hsz ?_; (case uk => exact ((Upd.refl _ wr).alloc _).drew); (case ck => first | exact new1 _ _ | exact new4 _ _); intro a7 n7 c7 w7 hn7 hm7 hu7 hb7; have N7 := Lib.hid hn7; have M7 := Lib.hid hm7; obtain ⟨p2, p3, f2, f3⟩ := nodeCells HCB.out hu7 (fun y hy => by have := HOS.out y (by simpa using hy); omega); have hsz7 := Nat.lt_of_lt_of_le hsz hu7.size; clear hn7 hm7 hu7 hb7)
        | (go_simp; go_at_call 69; (with_reducible refine HNB.out.mono ?_); rintro e w' ⟨rfl, rfl⟩))
      all_goals
        have hx1 : Upd [] wr (wr.alloc (.cells #[.int .i64 x] 3)).drew := ((Upd.refl _ wr).alloc _).drew
        have hl5 := leafK (hx1.get HCB.out (by simp)) (HIU.out.upd hx1 (by simp)) (fun y hy => HOS.out y hy) HDIS.out N7.out M7.out
        have hx5 := hl5.2.get (hx1.get HXr.out (by simp)) (fun h => by rcases List.mem_cons.1 h with h | h; omega; have := HOS.out _ h; omega)
        have hu5 := (HU.out.trans hx1).step hl5.2 (fun y hy => .inr (by rcases List.mem_cons.1 hy with h | h; omega; have := HOS.out _ h; omega))
        clear p0 p1 f0 f1 p2 p3 f2 f3 hsz hsz7 N7 M7 hx1
        generalize w7.setCell ⟨w.heap.size + 1, 1, none⟩ (.slice a7 n7 c7) = w9 at hl5 hx5 hu5 ⊢
        obtain ⟨⟨v9, u9, hcb9, hio9, hiu9, hdis9⟩, _⟩ := hl5
        obtain ⟨av9, cv9, rfl, _, _, _, _⟩ := hio9.slice
        obtain ⟨au9, cu9, rfl, _, _, _, _⟩ := hiu9.slice
        generalize (keysOf l k ++ [x]).length = nv9 at hcb9 hio9 hdis9
        generalize (valsOf l k).length = nu9 at hcb9 hiu9 hdis9
        have HNB9 := Lib.hid (HNV.out _ hu5.drew)
        have HX9 := Lib.hid hx5
        have U9 := Lib.hid hu5
        have HCB9 := Lib.hid hcb9
        have HIO9 := Lib.hid hio9
        have HIU9 := Lib.hid hiu9
        have HDIS9 := Lib.hid hdis9
        have hsz9 := lt_of_block hcb9
        obtain ⟨p0, p1, f0, f1⟩ := nodeCells hcb9 (Upd.refl [] w9) (by simp)
        have HOS9 : Hid (∀ y ∈ (Value.slice au9 nu9 cu9).ownBlock.toList, w.heap.size + 2 ≤ y) := fun y hy => (hiu9.low y hy).1
        clear hx5 hu5 hcb9 hio9 hiu9 hdis9
        go_upto_region 6 with fail
        go_region_law (first
          | (refine step_pushi2 (w0 := w9) (S0 := []) rfl (.tmp 33) (.tmp 39) rfl (v := .slice au9 nu9 cu9) (l := valsOf l k) rfl ?uk HIU9.out (fun y _ h => by cases h) _ _ y rfl ?ck HLV.out hsz9 ?_; (case uk => exact ((Upd.refl _ w9).alloc _).drew); (case ck => first | exact new1 _ _ | exact new4 _ _); intro a8 n8 c8 w8 hn8 hm8 hu8 hb8; have N8 := Lib.hid hn8; have M8 := Lib.hid hm8; obtain ⟨p2, p3, f2, f3⟩ := nodeCells HCB9.out hu8 (fun y hy => by have := HOS9.out y (by simpa using hy); omega); have hsz8 := Nat.lt_of_lt_of_le hsz9 hu8.size; clear hn8 hm8 hu8 hb8)
          | (go_simp; go_at_call 69; (with_reducible refine HNB9.out.mono ?_); rintro e w' ⟨rfl, rfl⟩))
        all_goals
          go_wp2
          go_roundw
          case rel =>
            have hx1 : Upd [] w9 (w9.alloc (.cells #[.int .i64 y] 3)).drew := ((Upd.refl _ w9).alloc _).drew
            have hlf := leafW (hx1.get HCB9.out (by simp)) (HIO9.out.upd hx1 (by simp)) (fun y hy => HOS9.out y hy) HDIS9.out N8.out M8.out
            exact ⟨k + 1, by omega, by go_num, by rw [HSK.out, HSV.out]; exact hlf.1, hlf.2.get (hx1.get HX9.out (by simp)) (fun h => by rcases List.mem_cons.1 h with h | h; omega; have := HOS9.out _ h; omega), (U9.out.trans hx1).step hlf.2 (fun y hy => .inr (by rcases List.mem_cons.1 hy with h | h; omega; have := HOS9.out _ h; omega))⟩
          case measure => simp [intOf]; omega
    · obtain rfl : k = m := by omega
      obtain ⟨av, cv, rfl, hii, _, _, _⟩ := hio.slice
      obtain ⟨au, cu, rfl, hiw, _, _, _⟩ := hiu.slice
      have HCB := Lib.hid hcb
      have HIO := Lib.hid hio
      have HIU := Lib.hid hiu
      have HDIS := Lib.hid hdis
      have hbx := lt_of_block hcb
      have hrp := rputNode_any (n := nodeOf l k) (cap := cv) (cap' := cu) (show IsInts wr av (nodeOf l k).keys from hii) (show IsInts wr au (nodeOf l k).vals from hiw) (by rw [show (nodeOf l k).keys = keysOf l k from rfl, keysOf_len]; omega) (by rw [show (nodeOf l k).vals = valsOf l k from rfl, valsOf_len]; omega)
      have hv : ∀ v u, nodeV (nodeOf l k) v u = .agg #[.bool L, v, u] := fun v u => by rw [HLD.out]; rfl
      have hrv : nodeV (nodeOf l k) (.slice av (nodeOf l k).keys.length cv) (.slice au (nodeOf l k).vals.length cu) = .agg #[.bool L, .slice av (keysOf l k).length cv, .slice au (valsOf l k).length cu] := hv _ _
      rw [hrv] at hrp
      have HRP := Lib.hid hrp
      have HV := Lib.hid hv
      have hfl : okNode (nodeOf l k) = true → (pad (nodeBytes (nodeOf l k)) 240).length ≤ 9223372036854775807 := fun h => by
        rw [pad_len (by rw [nodeBytes_len (okNode_parts h).1, show (nodeOf l k).keys = keysOf l k from rfl, keysOf_len]; omega)]; decide
      have HFL := Lib.hid hfl
      have HPK : Hid ((nodeOf l k).keys = keysOf l k) := rfl
      have HPV : Hid ((nodeOf l k).vals = valsOf l k) := rfl
      clear hcb hio hiu hdis hii hiw hrp hrv hv hfl
      have hex : ¬ k < n ∨ (decide ((k : Int) < (n : Int)) = true ∧ decide ((k : Int) < 8) = false ∧ ¬ (k : Int) < 8 ∧ (k : Int) < (n : Int)) := by
        have := HM3.out
        by_cases h : k < n
        · exact .inr ⟨decide_eq_true (by omega), decide_eq_false (by omega), by omega, by omega⟩
        · exact .inl h
      rcases hex with d1 | ⟨d1, d2, d3, d4⟩
      all_goals
        go_wp2_with (first
          | (go_at_call 69; (with_reducible refine HNC.out.mono ?_); rintro e w' ⟨rfl, rfl⟩)
          | (refine wpList_load_all rfl 67 (.tmp 4) rfl (w.heap.size + 1) 3 rfl _ _ _ _ HCB.out Tryd.underlying67 rfl infoNode rfl ?_))
        refine HRP.out.mono ?_
        rintro e w1 ⟨⟨vp, rfl, hvp⟩, u1⟩
        have U1 := Lib.hid u1
        cases hok : okNode (nodeOf l k)
        · rw [show putNode (nodeOf l k) = none by unfold putNode; rw [hok]; simp] at hvp ⊢
          simp only [Option.isSome_none, Bool.false_eq_true, if_false]
          have HR := Lib.hid (HRF.out.trans (by rw [hok, Bool.false_and, if_neg Bool.false_ne_true]))
          clear hok hvp u1
          go_wp2_with (refine wpList_store_all rfl 67 (.tmp 2) (.tmp 55) rfl w.heap.size _ rfl rfl _ _ (U1.out.get HXr.out (by simp)) infoNode rfl (by kernel_rfl) ?_; intro w3 hg3 hu3 _; have G3 := Lib.hid hg3; have U3 := Lib.hid hu3; clear hg3 hu3)
          refine bodyPost_ret (results_block_tmp Tryd.results48 _ _ w.heap.size 3 _ _ _ _ rfl G3.out Tryd.underlying67 rfl infoNode rfl) rfl ⟨by rw [HR.out]; exact NodeRes.no _ _, (HU.out.trans U1.out).step U3.out (fun x hx => .inr (by simp at hx; omega))⟩
        · rw [show putNode (nodeOf l k) = some (pad (nodeBytes (nodeOf l k)) 240) by unfold putNode; rw [hok]; rfl] at hvp ⊢
          simp only [Option.isSome_some, if_true, Option.getD_some] at hvp ⊢
          obtain ⟨ap, cp, rfl, hbp, _, _, _⟩ := hvp.slice
          have hsm := same_any (cap := cp) (cap' := cap) hbp (HB0.out _ (HU.out.trans u1)) (HFL.out hok) HL.out
          cases heq : decide (pad (nodeBytes (nodeOf l k)) 240 = l)
          · rw [heq] at hsm
            have HS := Lib.hid hsm
            have HR := Lib.hid (HRF.out.trans (by rw [hok, heq, Bool.and_false, if_neg Bool.false_ne_true]))
            clear hok hvp u1 hbp hsm heq
            go_wp2_with (first
              | (go_at_call 18; refine HS.out.mono ?_; rintro e w2 ⟨rfl, u2⟩; have U2 := Lib.hid u2; clear u2)
              | (refine wpList_store_all rfl 67 (.tmp 2) (.tmp 55) rfl w.heap.size _ rfl rfl _ _ ((U1.out.trans U2.out).get HXr.out (by simp)) infoNode rfl (by kernel_rfl) ?_; intro w3 hg3 hu3 _; have G3 := Lib.hid hg3; have U3 := Lib.hid hu3; clear hg3 hu3))
            refine bodyPost_ret (results_block_tmp Tryd.results48 _ _ w.heap.size 3 _ _ _ _ rfl G3.out Tryd.underlying67 rfl infoNode rfl) rfl ⟨by rw [HR.out]; exact NodeRes.no _ _, ((HU.out.trans U1.out).trans U2.out).step U3.out (fun x hx => .inr (by simp at hx; omega))⟩
          · rw [heq] at hsm
            have HS := Lib.hid hsm
            have HR := Lib.hid (HRF.out.trans (by rw [hok, heq, Bool.and_true, if_pos rfl]))
            clear hok hvp u1 hbp hsm heq
            go_wp2_with (first
              | (go_at_call 18; refine HS.out.mono ?_; rintro e w2 ⟨rfl, u2⟩; have U2 := Lib.hid u2; clear u2)
              | (refine wpList_load_all rfl 67 (.tmp 4) rfl (w.heap.size + 1) 3 rfl _ _ _ _ ((U1.out.trans U2.out).get HCB.out (by simp)) Tryd.underlying67 rfl infoNode rfl ?_)
              | (refine wpList_store_all rfl 67 (.tmp 2) (.tmp 56) rfl w.heap.size _ rfl rfl _ _ ((U1.out.trans U2.out).get HXr.out (by simp)) infoNode (by simp only [List.size_toArray, List.length_cons, List.length_nil]) rfl ?_; intro w3 hg3 hu3 _; have G3 := Lib.hid hg3; have U3 := Lib.hid hu3; clear hg3 hu3))
            refine bodyPost_ret (results_block_tmp Tryd.results48 _ _ w.heap.size 3 _ _ _ _ rfl G3.out Tryd.underlying67 rfl infoNode rfl) rfl ⟨?_, ((HU.out.trans U1.out).trans U2.out).step U3.out (fun x hx => .inr (by simp at hx; omega))⟩
            rw [HR.out]
            refine ⟨_, _, by rw [Option.getD_some, HV.out]; rfl, ?_, ?_, HDIS.out⟩
            · rw [Option.getD_some, HPK.out]
              exact (((HIO.out.upd U1.out (by simp)).upd U2.out (by simp)).upd U3.out (fun y hy hy2 => by have := HIO.out.low y hy; simp at hy2; omega)).base (by omega)
            · rw [Option.getD_some, HPV.out]
              exact (((HIU.out.upd U1.out (by simp)).upd U2.out (by simp)).upd U3.out (fun y hy hy2 => by have := HIU.out.low y hy; simp at hy2; omega)).base (by omega)
end Go.Proofs.YtkahpkmofeglgaaDoor
