/-
  PROVED HERE: GetHead of package codec, of any bytes. Conditions: the bytes can be read; the table may be used, and does not hold them.
-/
import Derived.Test.YtkahpkmofeglgaaDoorHeadGet
import Derived.Test.YtkahpkmofeglgaaDoorHeadW
import Derived.Test.YtkahpkmofeglgaaDoorImageG
namespace Go.Proofs.YtkahpkmofeglgaaDoor
open Go.RowKit

def hd0 : Hd := ⟨0, 0, 0, []⟩
/-- What reading a head hands back. -/
def HeadRes (B : Nat) (o : Option Hd) (e : Ending) (w' : World) : Prop := ∃ v, e = .returned (.tuple #[headV (o.getD hd0) v, .bool o.isSome]) ∧ IntsOut w' B v (o.getD hd0).pages
theorem HeadRes.no (B : Nat) (w : World) : HeadRes B none (.returned (.tuple #[.agg #[.int .i64 0, .int .i64 0, .slice none 0 0, .int .u32 0], .bool false])) w := ⟨.slice none 0 0, rfl, IntsOut.nil w B⟩
theorem infoHead : (Tryd.prog.info? 59).map (·.size) = some 4 := by kernel_rfl
theorem buildHd0 (w : World) : (Instr.build 59 #[]).run Tryd.prog w = .ok (.agg #[.int .i64 0, .int .i64 0, .slice none 0 0, .int .u32 0]) w := run_build w _ _ _ (by kernel_rfl)
theorem buildHd (e s m : Int) (w : World) : (Instr.build 59 #[(0, .int .i64 e), (1, .int .i64 s), (3, .int .u32 m)]).run Tryd.prog w = .ok (.agg #[.int .i64 e, .int .i64 s, .slice none 0 0, .int .u32 m]) w := run_build w _ _ _ (by kernel_rfl)
set_option maxRecDepth 100000 in
set_option maxHeartbeats 1600000 in
theorem getHead_none {w : World} {a : Option Addr} {n cap : Nat} (hn : n ≤ 9223372036854775807) :
    Calls Tryd.prog 33 #[.pointer none, .slice a n cap] w fun e w' => HeadRes w.heap.size none e w' ∧ Upd [] w w' := by
  have hbd := buildHd0
  have HX := Lib.hid (heap_alloc_new w (.cells #[.int .i64 0, .int .i64 0, .slice none 0 0, .int .u32 0] 59))
  go_enter Tryd.func33, Tryd.ntmps33
  go_wp2_with (first
    | (go_at_call 59; (with_reducible refine (sound_len (t := none) (.inl rfl) hn).mono ?_); rintro e w1 ⟨rfl, u1⟩; have U1 := Lib.hid u1; clear u1)
    | (refine wpList_store_all rfl 59 (.tmp 4) (.tmp 19) rfl w.heap.size _ rfl rfl _ _ (((Upd.refl [] _).alloc _).get (U1.out.get HX.out (by simp)) (by simp)) infoHead rfl (by kernel_rfl) ?_; intro w2 hg2 hu2 _; have G2 := Lib.hid hg2; have U2 := Lib.hid hu2; clear hg2 hu2))
  refine bodyPost_ret (results_block_tmp Tryd.results33 _ _ w.heap.size 4 _ _ _ _ rfl G2.out Tryd.underlying59 rfl infoHead rfl) rfl ⟨HeadRes.no _ _, (((Upd.refl [] w).alloc _).trans U1.out |>.alloc _).step U2.out (fun x hx => .inr (by simp at hx; omega))⟩
set_option maxRecDepth 100000 in
set_option maxHeartbeats 1600000 in
theorem getHead_no {w : World} {t : Nat} {a : Option Addr} {l : List Nat} {cap : Nat} (ht : TabOk w t) (hb : IsBytes w a l) (hsep : ∀ b o, a = some ⟨b, o, none⟩ → b ≠ t) (hc : l.length ≤ cap) (hm : cap ≤ 9223372036854775807) (hs : soundL l [80, 76, 79, 71] = false) :
    Calls Tryd.prog 33 #[pt t, .slice a l.length cap] w fun e w' => HeadRes w.heap.size none e w' ∧ TabOk w' t ∧ Upd [t] w w' := by
  have HA := Lib.hid (fun o => ht.upd ((Upd.refl [] w).alloc o) (by simp))
  have HB := Lib.hid (fun o => hb.upd ((Upd.refl [] w).alloc o) (by simp))
  have HS := Lib.hid hsep
  have HSN := Lib.hid (show soundL l (strBytes ⟨#[80, 76, 79, 71]⟩) = false from hs)
  have hlt := Lib.hid ht.lt
  have hbd := buildHd0
  clear ht hb hsep hs
  go_enter Tryd.func33, Tryd.ntmps33
  go_wp2_with fail
  refine (sound_false (HA.out _) (HB.out _) HS.out hc hm HSN.out).mono ?_
  rintro e w1 ⟨rfl, h1, u1⟩
  have hx := u1.get (heap_alloc_new w _) (by have := hlt.out; simp; omega)
  have HX := Lib.hid hx
  have H1 := Lib.hid h1
  have U1 := Lib.hid (((Upd.refl [t] w).alloc _).trans u1)
  clear hx h1 u1
  go_wp2_with (refine wpList_store_all rfl 59 (.tmp 4) (.tmp 19) rfl w.heap.size _ rfl rfl _ _ (((Upd.refl [] _).alloc _).get HX.out (by simp)) infoHead rfl (by kernel_rfl) ?_; intro w2 hg2 hu2 _; have G2 := Lib.hid hg2; have U2 := Lib.hid hu2; clear hg2 hu2)
  refine bodyPost_ret (results_block_tmp Tryd.results33 _ _ w.heap.size 4 _ _ _ _ rfl G2.out Tryd.underlying59 rfl infoHead rfl) rfl ⟨HeadRes.no _ _, (H1.out.upd ((Upd.refl [] _).alloc _) (by simp)).upd U2.out (by have := hlt.out; simp; omega), (U1.out.alloc _).step U2.out (fun x hx => .inr (by simp at hx; omega))⟩
/-- A head that is being read: its block, and the pages so far. -/
def HalfH (w : World) (hb : Nat) (E S M : Int) (l : List Int) : Prop := ∃ v, w.heap[hb]? = some (.cells #[.int .i64 E, .int .i64 S, v, .int .u32 M] 59 (0, 0)) ∧ IntsOut w (hb + 1) v l
theorem getHead_not {l : List Nat} (h : okHead (headOf l (headCount l)) = false) : getHead l = none := by
  unfold getHead; rw [h]; simp
theorem okHead_of0 {h : Hd} (h0 : okHead0 h = false) : okHead h = false := by unfold okHead; rw [h0]; rfl
theorem okHead_ofp {h : Hd} (h0 : okPages h.pages = false) : okHead h = false := by unfold okHead; rw [h0, Bool.and_false]
set_option maxRecDepth 100000 in
set_option maxHeartbeats 6400000 in
theorem getHead_sound {w : World} {t : Nat} {a : Option Addr} {l : List Nat} {cap : Nat} (ht : TabOk w t) (hb : IsBytes w a l) (hsep : ∀ b o, a = some ⟨b, o, none⟩ → b ≠ t) (hc : l.length ≤ cap) (hm : cap ≤ 9223372036854775807) (hs : soundL l [80, 76, 79, 71] = true) :
    Calls Tryd.prog 33 #[pt t, .slice a l.length cap] w fun e w' => HeadRes w.heap.size (getHead l) e w' ∧ TabOk w' t ∧ Upd [t] w w' := by
  have hlt := Lib.hid ht.lt
  have hl : l.length = 256 := by unfold soundL at hs; simp only [decide_eq_true_eq] at hs; exact hs.1
  obtain ⟨b, o, rfl, hsd⟩ := sound_true (s := ⟨#[80, 76, 79, 71]⟩) (ht.upd ((Upd.refl [] w).alloc (.cells #[.int .i64 0, .int .i64 0, .slice none 0 0, .int .u32 0] 59)) (by simp)) (hb.upd ((Upd.refl [] w).alloc _) (by simp)) hsep hc hm hs
  have hne := hsep b o rfl
  have hbl : b < w.heap.size := World.block_lt_of_cell? _ _ (hb.at 0 (by omega))
  have HCASE := Lib.hid (okHead0_cases (headOf l (headCount l)))
  have HGN := Lib.hid (getHead_not (l := l))
  have hyes : okHead (headOf l (headCount l)) = true → getHead l = if bare ((l.take 252).drop (26 + 4 * headCount l)) then some (headOf l (headCount l)) else none := by
    intro ho; unfold getHead; rw [hs, ho, Bool.true_and, Bool.true_and]
  have HGY := Lib.hid hyes
  have HL := Lib.hid hl
  have HSD := Lib.hid hsd
  have HB := Lib.hid hb
  have HNE := Lib.hid hne
  have HBL := Lib.hid hbl
  have HCN := Lib.hid (seg_nat hb.1 24 2 (by decide))
  have HSM := Lib.hid (seg_nat hb.1 20 4 (by decide))
  have HSMB := Lib.hid (seg_bound hb.1 20 4)
  have hbd := fun a w => buildRd a 248 (cap - 4) w
  clear ht hb hsep hs hsd hl hne hbl hyes
  go_enter Tryd.func33, Tryd.ntmps33
  go_wp2_with fail
  refine HSD.out.mono ?_
  rintro e w1 ⟨rfl, t1, u1⟩
  have hu1 := ((Upd.refl [t] w).alloc (.cells #[.int .i64 0, .int .i64 0, .slice none 0 0, .int .u32 0] 59)).trans u1
  have hx1 := u1.get (heap_alloc_new w (.cells #[.int .i64 0, .int .i64 0, .slice none 0 0, .int .u32 0] 59)) (by have := hlt.out; simp; omega)
  have hlw := lt_of_block hx1
  have hb1 := ((HB.out.upd hu1 (by rintro b' o' ⟨⟩; simpa using HNE.out)).drop 4).sub 248
  have hlen : ((l.drop 4).take 248).length = 248 := by rw [List.length_take, List.length_drop, HL.out]; rfl
  have hR : IsRd (w1.alloc (.cells #[.slice (some ⟨b, o + 4, none⟩) 248 (cap - 4)] 117)) w1.heap.size (some b) ((l.drop 4).take 248) :=
    ⟨⟨some ⟨b, o + 4, none⟩, cap - 4, by rw [hlen]; exact heap_alloc_new w1 _, hb1.upd ((Upd.refl [] w1).alloc _) (by simp), by rw [hlen]; have := HL.out; omega, by unfold maxLen; omega, by rintro b' o' ⟨⟩; rfl⟩, by intro e; simp only [Option.some.injEq] at e; have := HBL.out; omega⟩
  have HR := Lib.hid hR
  have HLEN := Lib.hid hlen
  have HX1 := Lib.hid hx1
  have T1 := Lib.hid t1
  have U1 := Lib.hid hu1
  have HRA := Lib.hid ((Upd.refl [] w1).alloc (.cells #[.slice (some ⟨b, o + 4, none⟩) 248 (cap - 4)] 117))
  clear t1 u1 hu1 hx1 hb1 hlen hR
  have hsg : ∀ i k, 4 + i + k ≤ 252 → (((l.drop 4).take 248).drop i).take k = seg l (4 + i) k := fun i k h => by
    rw [seg_take (4 + i) k 252 h (by rw [HL.out]; decide), show (l.drop 4).take 248 = (l.take 252).drop 4 by rw [List.drop_take], List.drop_drop]
  have HSG := Lib.hid hsg
  clear hsg
  go_wp2_with fail
  refine (get_k 8 8 rfl HR.out (by decide) (by rw [HLEN.out]; decide)).mono ?_
  rintro e w2 ⟨rfl, r2, u2⟩
  rw [show ((l.drop 4).take 248).take 8 = seg l 4 8 from HSG.out 0 8 (by decide)]
  have R2 := Lib.hid r2
  have U2 := Lib.hid (HRA.out.step u2 (fun x hx => .inr (by simp at hx; omega)))
  clear r2 u2
  go_wp2_with fail
  refine (get_k 8 8 rfl R2.out (by decide) (by rw [List.length_drop, HLEN.out]; decide)).mono ?_
  rintro e w3 ⟨rfl, r3, u3⟩
  rw [show (((l.drop 4).take 248).drop 8).take 8 = seg l 12 8 from HSG.out 8 8 (by decide)]
  rw [List.drop_drop] at r3
  have R3 := Lib.hid r3
  have U3 := Lib.hid (U2.out.step u3 (fun x hx => .inr (by simp at hx; omega)))
  clear r3 u3 R2 U2
  go_wp2_with fail
  refine (get_k 4 4 rfl R3.out (by decide) (by rw [List.length_drop, HLEN.out]; decide)).mono ?_
  rintro e w4 ⟨rfl, r4, u4⟩
  rw [show (((l.drop 4).take 248).drop (8 + 8)).take 4 = seg l 20 4 from HSG.out 16 4 (by decide), HSM.out]
  rw [List.drop_drop] at r4
  have hsmb := HSMB.out
  rw [show (256 : Nat) ^ 4 = 4294967296 by decide] at hsmb
  have hw4 : w1.heap.size < w4.heap.size := by
    have h1 := u4.size
    have h2 := U3.out.size
    obtain ⟨⟨_, _, hrb, _⟩, _⟩ := r4
    exact lt_of_block hrb
  have HW4 := Lib.hid hw4
  have u4b := U3.out.step u4 (fun x hx => .inr (by simp at hx; omega))
  have HEP : ∃ E, numi (seg l 4 8) = E := ⟨_, rfl⟩
  have HSQ : ∃ E, numi (seg l 12 8) = E := ⟨_, rfl⟩
  have HSU : ∃ E, num (seg l 20 4) = E := ⟨_, rfl⟩
  obtain ⟨E, hE⟩ := HEP
  obtain ⟨S, hS⟩ := HSQ
  obtain ⟨M, hM⟩ := HSU
  rw [hE, hS, hM]
  rw [hM] at hsmb
  have R4 := Lib.hid (r4.upd ((Upd.refl [] w4).alloc (.cells #[.int .i64 E, .int .i64 S, .slice none 0 0, .int .u32 (M : Int)] 59)) (by simp) (by simp))
  have U4 := Lib.hid (u4b.alloc (.cells #[.int .i64 E, .int .i64 S, .slice none 0 0, .int .u32 (M : Int)] 59))
  have HP4 := Lib.hid (heap_alloc_new w4 (.cells #[.int .i64 E, .int .i64 S, .slice none 0 0, .int .u32 (M : Int)] 59))
  have HX4 := Lib.hid ((u4b.alloc (.cells #[.int .i64 E, .int .i64 S, .slice none 0 0, .int .u32 (M : Int)] 59)).get HX1.out (by simp))
  have T4 := Lib.hid (T1.out.upd (u4b.alloc (.cells #[.int .i64 E, .int .i64 S, .slice none 0 0, .int .u32 (M : Int)] 59)) (by simp))
  have HEQ := Lib.hid hE
  have HSQ := Lib.hid hS
  have HMQ := Lib.hid hM
  clear r4 u4 u4b R3 U3 hE hS hM hw4
  have hwr : IntKind.u32.wrap (M : Int) = (M : Int) := IntWalk.u32_in _ (by omega)
  have hb1 := fun w => buildHd E S (M : Int) w
  go_wp2_with fail
  refine (get_k 2 2 rfl R4.out (by decide) (by rw [List.length_drop, HLEN.out]; decide)).mono ?_
  rintro e w5 ⟨rfl, r5, u5⟩
  rw [show (((l.drop 4).take 248).drop (8 + 8 + 4)).take 2 = seg l 24 2 from HSG.out 20 2 (by decide), HCN.out]
  rw [List.drop_drop] at r5
  have R5 := Lib.hid r5
  have U5 := Lib.hid (U4.out.step u5 (fun x hx => .inr (by simp at hx; omega)))
  have HP5 := Lib.hid (u5.get HP4.out (by have := HW4.out; simp; omega))
  have HX5 := Lib.hid (u5.get HX4.out (by simp; omega))
  have T5 := Lib.hid (T4.out.upd u5 (by have := hlt.out; simp; omega))
  clear r5 u5 R4 U4 hwr hb1
  obtain ⟨k5, _⟩ := cells_of HP5.out
  have q0 := k5 0
  have q1 := k5 1
  simp only [List.getElem?_toArray, List.getElem?_cons_zero, List.getElem?_cons_succ] at q0 q1
  have hpl : (headOf l (headCount l)).pages.length = headCount l := pagesOf_len _ _
  have hcs := HCASE.out
  rw [hpl, show (headOf l (headCount l)).epoch = numi (seg l 4 8) from rfl, show (headOf l (headCount l)).seq = numi (seg l 12 8) from rfl, HEQ.out, HSQ.out] at hcs
  have hnm : num (seg l 24 2) = headCount l := rfl
  rw [hnm]
  have hbd0 := buildHd0
  clear hpl hnm k5
  rcases hcs with ⟨ho, d1, d2, d3, d4⟩ | ⟨ho, hcs⟩
  rotate_left
  · have HG := Lib.hid (HGN.out (okHead_of0 ho))
    rcases hcs with d1 | ⟨d1, d2⟩ | ⟨d1, d2, d3⟩ | ⟨d1, d2, d3, d4⟩
    all_goals
      clear ho
      go_wp2_with (first
        | (go_at_call 52; refine (in_b _ _ _).mono ?_; rintro e w' ⟨rfl, rfl⟩)
        | (refine wpList_store_all rfl 59 (.tmp 4) (.tmp 44) rfl w.heap.size _ rfl rfl _ _ HX5.out infoHead rfl (by kernel_rfl) ?_; intro w6 hg6 hu6 _; have G6 := Lib.hid hg6; have U6 := Lib.hid hu6; clear hg6 hu6))
      refine bodyPost_ret (results_block_tmp Tryd.results33 _ _ w.heap.size 4 _ _ _ _ rfl G6.out Tryd.underlying59 rfl infoHead rfl) rfl ⟨by rw [HG.out]; exact HeadRes.no _ _, .inr (T5.out.upd U6.out (by have := hlt.out; simp; omega)), (U1.out.trans (U5.out.mono (by simp))).step U6.out (fun x hx => .inr (by simp at hx; omega))⟩
  · obtain ⟨_, _, hn1, hn2⟩ := okHead0_parts ho
    rw [show (headOf l (headCount l)).pages = pagesOf l (headCount l) from rfl, pagesOf_len] at hn1 hn2
    have HOY := Lib.hid (show okPages (pagesOf l (headCount l)) = true → okHead (headOf l (headCount l)) = true from fun h => by unfold okHead; rw [ho]; exact h)
    have HNP : Hid (∀ k, k < headCount l → inB (numi (seg l (26 + 4 * k) 4)) 1023 = false → getHead l = none) := fun k hk h => HGN.out (okHead_ofp (okPages_not (k := k) (by rw [show (headOf l (headCount l)).pages = pagesOf l (headCount l) from rfl, pagesOf_len]; exact hk) (by rw [show (headOf l (headCount l)).pages[k]'(by rw [show (headOf l (headCount l)).pages = pagesOf l (headCount l) from rfl, pagesOf_len]; exact hk) = (pagesOf l (headCount l))[k]'(by rw [pagesOf_len]; exact hk) from rfl, pagesOf_get]; exact h)))
    clear ho HGN HCASE
    obtain ⟨n, hn⟩ : ∃ n, headCount l = n := ⟨_, rfl⟩
    rw [hn] at hn1 hn2 HOY HNP HGY d3 d4
    simp only [hn]
    have HI0 : Hid (HalfH w5 w4.heap.size E S M (pagesOf l 0)) := ⟨_, HP5.out, by simpa [pagesOf] using IntsOut.nil w5 (w4.heap.size + 1)⟩
    go_wp2_with (go_at_call 52; refine (in_b _ _ _).mono ?_; rintro e w' ⟨rfl, rfl⟩)
    go_loopw [46] (fun i wr => ∃ k : Nat, k ≤ n ∧ i = .int .i64 k ∧ (∀ j, j < k → inB (numi (seg l (26 + 4 * j) 4)) 1023 = true) ∧ IsRd wr w1.heap.size (some b) (((l.drop 4).take 248).drop (22 + 4 * k)) ∧ HalfH wr w4.heap.size E S M (pagesOf l k) ∧ Upd [] w1 wr) (fun i _ => n - (intOf i).toNat)
    case atStart => exact ⟨0, by omega, rfl, fun j hj => absurd hj (by omega), R5.out, HI0.out, U5.out⟩
    case round =>
      obtain ⟨k, hk, rfl, hin, hR, hF, hU⟩ := hrel
      have HIN := Lib.hid hin
      have HU := Lib.hid hU
      have HRD := Lib.hid hR
      obtain ⟨v, hcb, hio⟩ := hF
      have HCB := Lib.hid hcb
      have HIO := Lib.hid hio
      clear hin hR hU hcb hio
      have HXr := Lib.hid (HU.out.get HX1.out (by simp))
      by_cases hlt7 : k < n
      · have hget := get_k 4 4 rfl HRD.out (by decide) (by rw [List.length_drop, HLEN.out]; omega)
        rw [HSG.out (22 + 4 * k) 4 (by omega), show 4 + (22 + 4 * k) = 26 + 4 * k by omega] at hget
        have HGET := Lib.hid hget
        have HNO := Lib.hid (HNP.out k hlt7)
        have HSU := Lib.hid (pagesOf_succ l k)
        have HLN := Lib.hid (show (pagesOf l k).length ≤ 10000000000000 by rw [pagesOf_len]; omega)
        clear hget
        obtain ⟨x, hx⟩ : ∃ x, numi (seg l (26 + 4 * k) 4) = x := ⟨_, rfl⟩
        rw [hx] at HGET HNO HSU
        have HXE := Lib.hid hx
        clear hx
        go_wp2_with fail
        refine HGET.out.mono ?_
        rintro e w6 ⟨rfl, r6, u6⟩
        have hcb6 := u6.get HCB.out (by have := HW4.out; simp; omega)
        have hio6 := HIO.out.upd u6 (fun y hy hy2 => by have := HIO.out.low y hy; have := HW4.out; simp at hy2; omega)
        have HIO6 := Lib.hid hio6
        have HCB6 := Lib.hid hcb6
        have R6 := Lib.hid r6
        have U6 := Lib.hid (HU.out.step u6 (fun x hx => .inr (by simp at hx; omega)))
        have hx6 := u6.get HXr.out (by simp; omega)
        have HX6 := Lib.hid hx6
        have hsz6 := lt_of_block hcb6
        have q2 := (cells_of hcb6).1 2
        simp only [List.getElem?_toArray, List.getElem?_cons_zero, List.getElem?_cons_succ] at q2
        clear r6 u6 hcb6 hio6 hx6
        cases hI : inB x 1023
        · go_wp2_with (first
            | (go_at_call 52; refine (in_b _ _ _).mono ?_; rintro e w' ⟨rfl, rfl⟩)
            | (refine wpList_store_all rfl 59 (.tmp 4) (.tmp 52) rfl w.heap.size _ rfl rfl _ _ HX6.out infoHead rfl (by kernel_rfl) ?_; intro w7 hg7 hu7 _; have G7 := Lib.hid hg7; have U7 := Lib.hid hu7; clear hg7 hu7))
          refine bodyPost_ret (results_block_tmp Tryd.results33 _ _ w.heap.size 4 _ _ _ _ rfl G7.out Tryd.underlying59 rfl infoHead rfl) rfl ⟨by rw [HNO.out hI]; exact HeadRes.no _ _, .inr ((T1.out.upd U6.out (by simp)).upd U7.out (by have := hlt.out; simp; omega)), (U1.out.trans (U6.out.mono (by simp))).step U7.out (fun x hx => .inr (by simp at hx; omega))⟩
        · go_wp2_with (first
            | (go_at_call 52; refine (in_b _ _ _).mono ?_; rintro e w' ⟨rfl, rfl⟩)
            | (at_builtin; refine wpList_pushi rfl (.tmp 54) (.tmp 56) rfl rfl (HIO6.out.upd ((Upd.refl [] _).alloc _) (by simp)) w6.heap.size 1 x rfl (news_at _ _ _ 0 _ rfl) HLN.out (by simp; omega) ?_; intro v' w7 hn7 hx7; obtain ⟨a7, c7, rfl, _, _, _, _⟩ := hn7.slice; generalize (pagesOf l k ++ [x]).length = n7 at hn7 hx7 ⊢; have hu7 : Upd v.ownBlock.toList w6 w7 := ((Upd.refl _ w6).alloc _).trans hx7.upd; have U7 := Lib.hid hu7; have hcb7 := hu7.get HCB6.out (fun hx => by have := HIO6.out.low _ hx; omega); have HST := Lib.hid (heap_setCell_same w7 w4.heap.size 2 _ _ (.slice a7 n7 c7) hcb7); have z7 := (cells_of hcb7).2 2; have y7 := (cells_of hcb7).1 2; simp only [List.getElem?_toArray, List.getElem?_cons_zero, List.getElem?_cons_succ] at y7; have N7 := Lib.hid hn7; clear hn7 hx7 hu7 hcb7))
          go_roundw
          case rel =>
            have us : Upd [w4.heap.size] w7 (w7.setCell ⟨w4.heap.size, 2, none⟩ (.slice a7 n7 c7)) := (Upd.refl _ _).setCell (.inl (by simp)) _
            have hlo := HIO6.out.low
            have hlb := HW4.out
            have hlw2 := HBL.out
            refine ⟨k + 1, by omega, by go_num, fun j hj => ?_, ?_, ⟨_, HST.out, ?_⟩, (U6.out.step U7.out (fun x hx => .inr (by have := hlo x hx; omega))).step us (fun x hx => .inr (by simp at hx; omega))⟩
            · by_cases e : j = k
              · subst e; rw [HXE.out]; exact hI
              · exact HIN.out j (by omega)
            · have h3 := (R6.out.upd U7.out (fun hx => by have := hlo _ hx; omega) (by rintro b' ⟨⟩ hx; have := hlo _ hx; omega)).upd us (by simp; omega) (by rintro b' ⟨⟩; simp; omega)
              rw [List.drop_drop] at h3
              exact h3
            · rw [HSU.out]
              exact N7.out.upd us (fun y hy hy2 => by have := N7.out.low y hy; simp at hy2; omega)
          case measure => simp [intOf]; omega
      · obtain rfl : k = n := by omega
        have hok := okPages_of (l := pagesOf l k) fun j hj => by rw [pagesOf_get]; exact HIN.out j (by rw [pagesOf_len] at hj; exact hj)
        have hgs := HGY.out (HOY.out hok)
        have hrest : ((l.drop 4).take 248).drop (22 + 4 * k) = (l.take 252).drop (26 + 4 * k) := by
          rw [show (l.drop 4).take 248 = (l.take 252).drop 4 by rw [List.drop_take], List.drop_drop, show 4 + (22 + 4 * k) = 26 + 4 * k by omega]
        have hv : headV (headOf l k) v = .agg #[.int .i64 E, .int .i64 S, v, .int .u32 (M : Int)] := by
          unfold headV headOf
          simp only [HEQ.out, HSQ.out, HMQ.out]
        have HV := Lib.hid hv
        rw [← hrest] at hgs
        have HGS := Lib.hid hgs
        clear hok hgs hrest hv
        cases hB : bare (((l.drop 4).take 248).drop (22 + 4 * k))
        · rw [hB] at HGS
          simp only [Bool.false_eq_true, if_false] at HGS
          have HBA := bare_any HRD.out
          rw [hB] at HBA
          have HBAR := Lib.hid HBA
          clear HBA hB
          go_wp2_with (first
            | (go_at_call 61; refine HBAR.out.mono ?_; rintro e w2 ⟨rfl, u2⟩; have U2 := Lib.hid u2; clear u2)
            | (refine wpList_store_all rfl 59 (.tmp 4) (.tmp 62) rfl w.heap.size _ rfl rfl _ _ (U2.out.get HXr.out (by simp)) infoHead rfl (by kernel_rfl) ?_; intro w3 hg3 hu3 _; have G3 := Lib.hid hg3; have U3 := Lib.hid hu3; clear hg3 hu3))
          refine bodyPost_ret (results_block_tmp Tryd.results33 _ _ w.heap.size 4 _ _ _ _ rfl G3.out Tryd.underlying59 rfl infoHead rfl) rfl ⟨by rw [HGS.out]; exact HeadRes.no _ _, .inr (((T1.out.upd HU.out (by simp)).upd U2.out (by simp)).upd U3.out (by have := hlt.out; simp; omega)), ((U1.out.trans (HU.out.mono (by simp))).trans (U2.out.mono (by simp))).step U3.out (fun x hx => .inr (by simp at hx; omega))⟩
        · rw [hB] at HGS
          simp only [if_true] at HGS
          have HBA := bare_any HRD.out
          rw [hB] at HBA
          have HBAR := Lib.hid HBA
          clear HBA hB
          obtain ⟨av, cv, rfl, _, _, _, _⟩ := HIO.out.slice
          go_wp2_with (first
            | (go_at_call 61; refine HBAR.out.mono ?_; rintro e w2 ⟨rfl, u2⟩; have U2 := Lib.hid u2; clear u2)
            | (refine wpList_load_all rfl 59 (.tmp 8) rfl w4.heap.size 4 rfl _ _ _ _ (U2.out.get HCB.out (by simp)) Tryd.underlying59 rfl infoHead rfl ?_)
            | (refine wpList_store_all rfl 59 (.tmp 4) (.tmp 63) rfl w.heap.size _ rfl rfl _ _ (U2.out.get HXr.out (by simp)) infoHead (by simp only [List.size_toArray, List.length_cons, List.length_nil]) rfl ?_; intro w3 hg3 hu3 _; have G3 := Lib.hid hg3; have U3 := Lib.hid hu3; clear hg3 hu3))
          refine bodyPost_ret (results_block_tmp Tryd.results33 _ _ w.heap.size 4 _ _ _ _ rfl G3.out Tryd.underlying59 rfl infoHead rfl) rfl ⟨?_, .inr (((T1.out.upd HU.out (by simp)).upd U2.out (by simp)).upd U3.out (by have := hlt.out; simp; omega)), ((U1.out.trans (HU.out.mono (by simp))).trans (U2.out.mono (by simp))).step U3.out (fun x hx => .inr (by simp at hx; omega))⟩
          rw [HGS.out]
          refine ⟨_, by rw [Option.getD_some, HV.out]; rfl, ?_⟩
          exact ((HIO.out.upd U2.out (by simp)).upd U3.out (fun y hy hy2 => by have := HIO.out.low y hy; have := HW4.out; simp at hy2; omega)).base (by have := HW4.out; omega)
end Go.Proofs.YtkahpkmofeglgaaDoor
