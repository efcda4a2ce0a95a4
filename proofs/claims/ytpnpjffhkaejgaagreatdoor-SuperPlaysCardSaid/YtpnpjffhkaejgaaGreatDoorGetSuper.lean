/-
  PROVED HERE: GetSuper of package codec. Conditions: the bytes can be read; the table may be used, and does not hold them.
-/
import Derived.Test.YtpnpjffhkaejgaaGreatDoorSuperRec
namespace Go.Proofs.YtpnpjffhkaejgaaGreatDoor
open Go.RowKit

/-- A superblock as the program holds it. -/
def superV (s : List Int) : Value := .agg (i64s s).toArray
def superNone : List Int := [0, 0, 0, 0, 0, 0, 0]
theorem ptr7 (b k : Nat) (hk : k < 7) (w : World) : (Instr.index 106 (.agg #[.pointer (some ⟨b, 0, none⟩), .pointer (some ⟨b, 1, none⟩), .pointer (some ⟨b, 2, none⟩), .pointer (some ⟨b, 3, none⟩), .pointer (some ⟨b, 4, none⟩), .pointer (some ⟨b, 5, none⟩), .pointer (some ⟨b, 6, none⟩)]) (.int .i64 (k : Int))).run Tryz.prog w = .ok (.pointer (some ⟨b, k, none⟩)) w := by
  refine run_index_agg w Tryz.underlying106 Tryz.underlying105 rfl (by kernel_rfl) hk ?_ .i64
  rcases k with _ | _ | _ | _ | _ | _ | _ | k <;> first | rfl | omega
set_option maxRecDepth 100000 in
set_option maxHeartbeats 1600000 in
theorem getSuper_no {w : World} {t : Nat} {a : Option Addr} {l : List Nat} {cap : Nat} (ht : TabOk w t) (hb : IsBytes w a l) (hsep : ∀ b o, a = some ⟨b, o, none⟩ → b ≠ t) (hc : l.length ≤ cap) (hm : cap ≤ 9223372036854775807) (hs : soundL l [80, 83, 85, 80] = false) :
    Calls Tryz.prog 25 #[pt t, .slice a l.length cap] w fun e w' => e = .returned (.tuple #[superV superNone, .bool false]) ∧ TabOk w' t ∧ Upd [t] w w' := by
  have HA := Lib.hid (fun o => ht.upd ((Upd.refl [] w).alloc o) (by simp))
  have HB := Lib.hid (fun o => hb.upd ((Upd.refl [] w).alloc o) (by simp))
  have HS := Lib.hid hsep
  have HSN := Lib.hid (show soundL l (strBytes ⟨#[80, 83, 85, 80]⟩) = false from hs)
  have hlt := Lib.hid ht.lt
  clear ht hb hsep hs
  go_enter Tryz.func25, Tryz.ntmps25
  go_wp2_with fail
  refine (sound_false (HA.out _) (HB.out _) HS.out hc hm HSN.out).mono ?_
  rintro e w1 ⟨rfl, h1, u1⟩
  have hx := u1.get (heap_alloc_new w _) (by have := hlt.out; simp; omega)
  have HX := Lib.hid hx
  obtain ⟨k1, k2⟩ := cells_of hx
  have H1 := Lib.hid h1
  have U1 := Lib.hid (((Upd.refl [t] w).alloc _).trans u1)
  clear hx h1 u1 k1 k2
  have hbd := fun w => (show (Instr.build 34 #[]).run Tryz.prog w = .ok (superV superNone) w from run_build w _ _ _ (by kernel_rfl))
  unfold superV superNone i64s at hbd
  simp only [List.map_cons, List.map_nil] at hbd
  go_wp2_with (first
    | (refine wpList_store_all rfl 34 (.tmp 4) (.tmp 19) rfl w.heap.size _ rfl rfl _ _ (((Upd.refl [] _).alloc _).get HX.out (by simp)) (by kernel_rfl) rfl (by kernel_rfl) ?_; intro w2 hg2 hu2 _; have G2 := Lib.hid hg2; have U2 := Lib.hid hu2; clear hg2 hu2))
  refine bodyPost_ret (results_block_tmp Tryz.results25 _ _ w.heap.size 7 _ _ _ _ rfl G2.out Tryz.underlying34 rfl (by kernel_rfl) rfl) rfl ⟨rfl, (H1.out.upd ((Upd.refl [] _).alloc _) (by simp)).upd U2.out (by have := hlt.out; simp; omega), (U1.out.alloc _).step U2.out (fun x hx => .inr (by simp at hx; omega))⟩

theorem seg_rest {l : List Nat} (h : l.length = 256) (k : Nat) (hk : k < 7) : ((((l.drop 4).take 248).drop (8 * k)).take 8) = seg l (4 + 8 * k) 8 := by
  rw [seg_take (4 + 8 * k) 8 252 (by omega) (by omega), show (l.drop 4).take 248 = (l.take 252).drop 4 by rw [List.drop_take], List.drop_drop]
theorem okSuper_not {l : List Nat} {k : Nat} (hk : k < 7) (h : inB (numi (seg l (4 + 8 * k) 8)) 1099511627776 = false) : getSuper l = none := by
  unfold getSuper
  rw [if_neg]
  intro hc
  simp only [Bool.and_eq_true] at hc
  have := superOf_at hc.1.2 k hk
  rw [h] at this; cases this
theorem superOf_get (l : List Nat) (j : Nat) (hj : j < 7) : (i64s (superOf l))[j]? = some (.int .i64 (numi (seg l (4 + 8 * j) 8))) := by
  unfold i64s superOf
  rw [List.getElem?_map, List.getElem?_map, List.getElem?_range hj]
  rfl
theorem okSuper_all {l : List Nat} (h : ∀ j, j < 7 → inB (numi (seg l (4 + 8 * j) 8)) 1099511627776 = true) : okSuper (superOf l) = true := by
  unfold okSuper superOf
  rw [List.all_eq_true]
  intro x hx
  obtain ⟨k, hk, rfl⟩ := List.mem_map.1 hx
  exact h k (List.mem_range.1 hk)
/-- The numbers that are read so far lie in their block. -/
def Half (w : World) (b k : Nat) (N : Nat → Int) : Prop := ∃ cs, w.heap[b]? = some (.cells cs 34 (0, 0)) ∧ cs.size = 7 ∧ ∀ j, j < k → cs[j]? = some (.int .i64 (N j))
set_option maxRecDepth 100000 in
set_option maxHeartbeats 3200000 in
theorem getSuper_sound {w : World} {t : Nat} {a : Option Addr} {l : List Nat} {cap : Nat} (ht : TabOk w t) (hb : IsBytes w a l) (hsep : ∀ b o, a = some ⟨b, o, none⟩ → b ≠ t) (hc : l.length ≤ cap) (hm : cap ≤ 9223372036854775807) (hs : soundL l [80, 83, 85, 80] = true) :
    Calls Tryz.prog 25 #[pt t, .slice a l.length cap] w fun e w' => e = .returned (.tuple #[superV ((getSuper l).getD superNone), .bool (getSuper l).isSome]) ∧ TabOk w' t ∧ Upd [t] w w' := by
  have hlt := Lib.hid ht.lt
  have hl : l.length = 256 := by unfold soundL at hs; simp only [decide_eq_true_eq] at hs; exact hs.1
  obtain ⟨b, o, ha, hsd⟩ := sound_true (s := ⟨#[80, 83, 85, 80]⟩) (ht.upd ((Upd.refl [] w).alloc (.cells #[.int .i64 0, .int .i64 0, .int .i64 0, .int .i64 0, .int .i64 0, .int .i64 0, .int .i64 0] 34)) (by simp)) (hb.upd ((Upd.refl [] w).alloc _) (by simp)) hsep hc hm hs
  subst ha
  have hne := hsep b o rfl
  have hbl : b < w.heap.size := World.block_lt_of_cell? _ _ (hb.at 0 (by omega))
  have HL := Lib.hid hl
  have HSD := Lib.hid hsd
  have HB := Lib.hid hb
  have HNE := Lib.hid hne
  have HBL := Lib.hid hbl
  have HSS := Lib.hid hs
  clear ht hb hsep hs hsd hl hne hbl
  go_enter Tryz.func25, Tryz.ntmps25
  go_wp2_with fail
  refine HSD.out.mono ?_
  rintro e w1 ⟨rfl, h1, u1⟩
  have hx := u1.get (heap_alloc_new w _) (by have := hlt.out; simp; omega)
  have HX := Lib.hid hx
  have hwz : w.heap.size < w1.heap.size := lt_of_block hx
  have H1 := Lib.hid h1
  have U1 := Lib.hid (((Upd.refl [t] w).alloc _).trans u1)
  clear hx h1 u1
  have hb1 : IsBytes w1 (some ⟨b, o + 4, none⟩) ((l.drop 4).take 248) := by
    have h0 := HB.out.upd U1.out (by rintro b' o' ⟨⟩; simpa using HNE.out)
    exact (h0.drop 4).sub 248
  have hR : IsRd (w1.alloc (.cells #[.slice (some ⟨b, o + 4, none⟩) 248 (cap - 4)] 102)) w1.heap.size (some b) ((l.drop 4).take 248) := by
    have hlen : ((l.drop 4).take 248).length = 248 := by rw [List.length_take, List.length_drop, HL.out]; rfl
    refine ⟨⟨some ⟨b, o + 4, none⟩, cap - 4, by rw [hlen]; exact heap_alloc_new w1 _, hb1.upd ((Upd.refl [] w1).alloc _) (by simp), by rw [hlen]; have := HL.out; omega, by unfold maxLen; omega, by rintro b' o' ⟨⟩; rfl⟩, ?_⟩
    intro e
    simp only [Option.some.injEq] at e
    have := HBL.out
    omega
  have hRA : ∀ ob, IsRd ((w1.alloc (.cells #[.slice (some ⟨b, o + 4, none⟩) 248 (cap - 4)] 102)).alloc ob) w1.heap.size (some b) ((l.drop 4).take 248) := fun ob => hR.upd ((Upd.refl [] _).alloc ob) (by simp) (by simp)
  have HR := Lib.hid hRA
  clear hb1 hR hRA
  have hbd := fun w => (show (Instr.build 34 #[]).run Tryz.prog w = .ok (superV superNone) w from run_build w _ _ _ (by kernel_rfl))
  unfold superV superNone i64s at hbd
  simp only [List.map_cons, List.map_nil] at hbd
  go_wp2
  have hI0 : Half ((w1.alloc (.cells #[.slice (some ⟨b, o + 4, none⟩) 248 (cap - 4)] 102)).alloc (.cells #[.int .i64 0, .int .i64 0, .int .i64 0, .int .i64 0, .int .i64 0, .int .i64 0, .int .i64 0] 34)) (w1.heap.size + 1) 0 (fun j => numi (seg l (4 + 8 * j) 8)) := by
    refine ⟨_, by have := heap_alloc_new (w1.alloc (.cells #[.slice (some ⟨b, o + 4, none⟩) 248 (cap - 4)] 102)) (.cells #[.int .i64 0, .int .i64 0, .int .i64 0, .int .i64 0, .int .i64 0, .int .i64 0, .int .i64 0] 34); simpa using this, rfl, fun j hj => by omega⟩
  have HI0 := Lib.hid hI0
  clear hI0
  go_loopw [28] (fun i wr => ∃ k : Nat, k ≤ 7 ∧ i = .int .i64 k ∧ (∀ j, j < k → inB (numi (seg l (4 + 8 * j) 8)) 1099511627776 = true) ∧ IsRd wr w1.heap.size (some b) (((l.drop 4).take 248).drop (8 * k)) ∧ Half wr (w1.heap.size + 1) k (fun j => numi (seg l (4 + 8 * j) 8)) ∧ Upd [] w1 wr) (fun i _ => 7 - (intOf i).toNat)
  case atStart => exact ⟨0, by decide, rfl, fun j hj => absurd hj (by omega), HR.out _, HI0.out, ((Upd.refl [] w1).alloc _).alloc _⟩
  case round =>
    obtain ⟨k, hk, rfl, hin, hR, hF, hU⟩ := hrel
    have HIN := Lib.hid hin
    have HU := Lib.hid hU
    have HF := Lib.hid hF
    have HRD := Lib.hid hR
    clear hin hR hF hU
    have HXr : Hid (wr.heap[w.heap.size]? = some (.cells #[.int .i64 0, .int .i64 0, .int .i64 0, .int .i64 0, .int .i64 0, .int .i64 0, .int .i64 0] 34 (0, 0))) := HU.out.get HX.out (by simp)
    have hrl : ((l.drop 4).take 248).length = 248 := by rw [List.length_take, List.length_drop, HL.out]; rfl
    have HRL := Lib.hid hrl
    clear hrl
    by_cases hlt7 : k < 7
    · have HSG := Lib.hid (seg_rest HL.out k hlt7)
      have hp7 := ptr7 (w1.heap.size + 1) k hlt7
      have HGN := Lib.hid (okSuper_not (l := l) hlt7)
      have hget := get_any (k := 8) HRD.out (by decide) (by rw [List.length_drop, HRL.out]; omega)
      rw [HSG.out] at hget
      have HGET := Lib.hid hget
      clear hget
      go_wp2_with fail
      refine HGET.out.mono ?_
      rintro e w2 ⟨rfl, h2, u2⟩
      obtain ⟨cs, hcb0, hcs, hcn⟩ := HF.out
      have hcb := u2.get hcb0 (by simp)
      clear hcb0
      have hck := (cells_of hcb).1 k
      obtain ⟨y, hex⟩ : ∃ y, cs[k]? = some y := ⟨_, Array.getElem?_eq_getElem (by omega)⟩
      rw [hex] at hck
      have hcz := (cells_of hcb).2 k
      have hst := heap_setCell_same w2 (w1.heap.size + 1) k cs _ (.int .i64 (numi (seg l (4 + 8 * k) 8))) hcb
      have hne1 : w1.heap.size ≠ w1.heap.size + 1 := by omega
      have hu3 : Upd [w1.heap.size + 1] w2 (w2.setCell ⟨w1.heap.size + 1, k, none⟩ (.int .i64 (numi (seg l (4 + 8 * k) 8)))) := (Upd.refl _ _).setCell (.inl (by simp)) _
      have HUN : Hid (Upd [] w1 (w2.setCell ⟨w1.heap.size + 1, k, none⟩ (.int .i64 (numi (seg l (4 + 8 * k) 8))))) := (HU.out.step u2 (fun x hx => .inr (by simp at hx; omega))).step hu3 (fun x hx => .inr (by simp at hx; omega))
      have HRN : Hid (IsRd (w2.setCell ⟨w1.heap.size + 1, k, none⟩ (.int .i64 (numi (seg l (4 + 8 * k) 8)))) w1.heap.size (some b) (((l.drop 4).take 248).drop (8 * (k + 1)))) := by
        have h3 := h2.upd hu3 (by simp) (by intro b' hb'; simp at hb'; have := HBL.out; simp; omega)
        rw [List.drop_drop] at h3
        exact h3
      have HHN : Hid (Half (w2.setCell ⟨w1.heap.size + 1, k, none⟩ (.int .i64 (numi (seg l (4 + 8 * k) 8)))) (w1.heap.size + 1) (k + 1) (fun j => numi (seg l (4 + 8 * j) 8))) := by
        refine ⟨_, hst, by simpa using hcs, fun j hj => ?_⟩
        rw [Array.getElem?_setIfInBounds]
        by_cases e : k = j
        · subst e; rw [if_pos rfl, if_pos (by omega)]
        · rw [if_neg e]; exact hcn j (by omega)
      have HXn : Hid ((w2.setCell ⟨w1.heap.size + 1, k, none⟩ (.int .i64 (numi (seg l (4 + 8 * k) 8)))).heap[w.heap.size]? = some (.cells #[.int .i64 0, .int .i64 0, .int .i64 0, .int .i64 0, .int .i64 0, .int .i64 0, .int .i64 0] 34 (0, 0))) := HUN.out.get HX.out (by simp)
      clear h2 u2 hcb hcs hcn hex hst hu3
      cases hI : inB (numi (seg l (4 + 8 * k) 8)) 1099511627776
      · have HG := Lib.hid (HGN.out hI)
        go_wp2_with (first
          | (go_at_call 32; refine (in_b _ _ _).mono ?_; rintro e w' ⟨rfl, rfl⟩)
          | (refine wpList_store_all rfl 34 (.tmp 4) (.tmp 39) rfl w.heap.size _ rfl rfl _ _ HXn.out (by kernel_rfl) rfl (by kernel_rfl) ?_; intro w3 hg3 hu3 _; have G3 := Lib.hid hg3; have U3 := Lib.hid hu3; clear hg3 hu3))
        refine bodyPost_ret (results_block_tmp Tryz.results25 _ _ w.heap.size 7 _ _ _ _ rfl G3.out Tryz.underlying34 rfl (by kernel_rfl) rfl) rfl ⟨by rw [HG.out]; rfl, .inr ((H1.out.upd HUN.out (by simp)).upd U3.out (by have := hlt.out; simp; omega)), (U1.out.trans (HUN.out.mono (by simp))).step U3.out (fun x hx => .inr (by simp at hx; omega))⟩
      · go_wp2_with (go_at_call 32; refine (in_b _ _ _).mono ?_; rintro e w' ⟨rfl, rfl⟩)
        go_roundw
        case rel =>
          refine ⟨k + 1, by omega, by go_num, fun j hj => ?_, HRN.out, HHN.out, HUN.out⟩
          by_cases e : j = k
          · subst e; exact hI
          · exact HIN.out j (by omega)
        case measure => simp [intOf]; omega
    · obtain rfl : k = 7 := by omega
      obtain ⟨cs, hcb, hcs, hcn⟩ := HF.out
      have hcv : cs = (i64s (superOf l)).toArray := by
        apply Array.ext_getElem?
        intro j
        by_cases hj : j < 7
        · rw [hcn j hj, List.getElem?_toArray, superOf_get l j hj]
        · rw [Array.getElem?_eq_none (by omega), List.getElem?_toArray, List.getElem?_eq_none (by unfold i64s; rw [List.length_map, superOf_len]; omega)]
      subst hcv
      have hok := okSuper_all HIN.out
      have hgs : getSuper l = if bare (((l.drop 4).take 248).drop 56) then some (superOf l) else none := by
        unfold getSuper; rw [HSS.out, hok, Bool.true_and, Bool.true_and]
      have HGS := Lib.hid hgs
      have HCB := Lib.hid hcb
      clear hcb hcs hcn hok hgs
      cases hB : bare (((l.drop 4).take 248).drop (8 * 7))
      · rw [show 8 * 7 = 56 from rfl] at hB
        rw [hB] at HGS
        go_wp2_with (first
          | (go_at_call 49; refine (bare_any HRD.out).mono ?_; rintro e w2 ⟨rfl, u2⟩; have U2 := Lib.hid u2; clear u2)
          | (refine wpList_store_all rfl 34 (.tmp 4) (.tmp 43) rfl w.heap.size _ rfl rfl _ _ (U2.out.get HXr.out (by simp)) (by kernel_rfl) rfl (by kernel_rfl) ?_; intro w3 hg3 hu3 _; have G3 := Lib.hid hg3; have U3 := Lib.hid hu3; clear hg3 hu3))
        refine bodyPost_ret (results_block_tmp Tryz.results25 _ _ w.heap.size 7 _ _ _ _ rfl G3.out Tryz.underlying34 rfl (by kernel_rfl) rfl) rfl ⟨by rw [HGS.out]; rfl, .inr (((H1.out.upd HU.out (by simp)).upd U2.out (by simp)).upd U3.out (by have := hlt.out; simp; omega)), ((U1.out.trans (HU.out.mono (by simp))).trans (U2.out.mono (by simp))).step U3.out (fun x hx => .inr (by simp at hx; omega))⟩
      · rw [show 8 * 7 = 56 from rfl] at hB
        rw [hB] at HGS
        go_wp2_with (first
          | (go_at_call 49; refine (bare_any HRD.out).mono ?_; rintro e w2 ⟨rfl, u2⟩; have U2 := Lib.hid u2; clear u2)
          | (refine wpList_load_all rfl 34 (.tmp 8) rfl (w1.heap.size + 1) 7 rfl _ _ _ _ (U2.out.get HCB.out (by simp)) Tryz.underlying34 rfl (by kernel_rfl) (by simp [i64s, superOf_len]) ?_)
          | (refine wpList_store_all rfl 34 (.tmp 4) (.tmp 44) rfl w.heap.size _ rfl rfl _ _ (U2.out.get HXr.out (by simp)) (by rw [List.size_toArray, i64s, List.length_map, superOf_len]; kernel_rfl) (by simp [i64s, superOf_len]) (i64s_one _) ?_; intro w3 hg3 hu3 _; have G3 := Lib.hid hg3; have U3 := Lib.hid hu3; clear hg3 hu3))
        refine bodyPost_ret (results_block_tmp Tryz.results25 _ _ w.heap.size 7 _ _ _ _ rfl G3.out Tryz.underlying34 rfl (by kernel_rfl) (by simp [i64s, superOf_len])) rfl ⟨by rw [HGS.out]; rfl, .inr (((H1.out.upd HU.out (by simp)).upd U2.out (by simp)).upd U3.out (by have := hlt.out; simp; omega)), ((U1.out.trans (HU.out.mono (by simp))).trans (U2.out.mono (by simp))).step U3.out (fun x hx => .inr (by simp at hx; omega))⟩
end Go.Proofs.YtpnpjffhkaejgaaGreatDoor
