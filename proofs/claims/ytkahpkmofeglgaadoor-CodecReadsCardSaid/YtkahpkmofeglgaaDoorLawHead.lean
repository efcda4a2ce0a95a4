/-
  PROVED HERE: the walk of the statement CodecHead returns true. Conditions: the pages can be read.
-/
import Derived.Test.YtkahpkmofeglgaaDoorHeadG
import Derived.Test.YtkahpkmofeglgaaDoorHeadR
import Derived.Test.YtkahpkmofeglgaaDoorLawImage
namespace Go.Proofs.YtkahpkmofeglgaaDoor
open Go.RowKit

theorem putHead_any {t : Nat} {w : World} {a : Option Addr} {cap : Nat} {h : Hd} (ht : TabOk w t) (hb : IsInts w a h.pages) (hl : h.pages.length ≤ 9223372036854775807) (hsm : h.sum < 4294967296) :
    Calls Tryd.prog 31 #[pt t, headV h (.slice a h.pages.length cap)] w fun e w' => PutOut w.heap.size (putHead h) e w' ∧ TabOk w' t ∧ Upd [t] w w' := by
  cases ho : okHead0 h
  · rw [putHead_not0 ho]
    exact (putHead_no (t := some ⟨t, 0, none⟩) h (.inr ⟨t, rfl, ho⟩) hl).mono fun e w' ⟨h1, h2⟩ => by subst h1; exact ⟨PutOut.no _ _, ht.upd h2 (by simp), h2.mono (by simp)⟩
  · exact putHead_yes ht hb ho hsm
theorem rputHead_any {w : World} {a : Option Addr} {cap : Nat} {h : Hd} (hb : IsInts w a h.pages) (hl : h.pages.length ≤ 9223372036854775807) (hsm : h.sum < 4294967296) :
    Calls Tryd.prog 32 #[headV h (.slice a h.pages.length cap)] w fun e w' => PutOut w.heap.size (putHead h) e w' ∧ Upd [] w w' := by
  cases ho : okHead0 h
  · exact rputHead_no h ho hl
  · exact rputHead_yes hb ho hsm
theorem getHead_any {w : World} {t : Nat} {a : Option Addr} {l : List Nat} {cap : Nat} (ht : TabOk w t) (hb : IsBytes w a l) (hsep : ∀ b o, a = some ⟨b, o, none⟩ → b ≠ t) (hc : l.length ≤ cap) (hm : cap ≤ 9223372036854775807) :
    Calls Tryd.prog 33 #[pt t, .slice a l.length cap] w fun e w' => HeadRes w.heap.size (getHead l) e w' ∧ TabOk w' t ∧ Upd [t] w w' := by
  cases hs : soundL l [80, 76, 79, 71]
  · have hg : getHead l = none := by unfold getHead; rw [hs]; rfl
    rw [hg]
    exact getHead_no ht hb hsep hc hm hs
  · exact getHead_sound ht hb hsep hc hm hs
theorem getHead_ret {w : World} {t B : Nat} {v : Value} {l : List Nat} (ht : TabOk w t) (h : IsRet w B v l) (hB : t < B) :
    Calls Tryd.prog 33 #[pt t, v] w fun e w' => HeadRes w.heap.size (getHead l) e w' ∧ TabOk w' t ∧ Upd [t] w w' := by
  obtain ⟨a, c, rfl, hb, hB', hc, hm⟩ := h.slice
  exact getHead_any ht hb (fun b o e => by have := hB' b o e; omega) hc hm
theorem getHead_ret0 {w : World} {B : Nat} {v : Value} {l : List Nat} (h : IsRet w B v l) :
    Calls Tryd.prog 33 #[.pointer none, v] w fun e w' => HeadRes w.heap.size none e w' ∧ Upd [] w w' := by
  obtain ⟨a, c, rfl, hb, hB', hc, hm⟩ := h.slice
  exact getHead_none (by omega)
theorem headRes_none {B : Nat} {e : Ending} {w' : World} (h : HeadRes B none e w') : ∃ a n c, e = .returned (.tuple #[.agg #[.int .i64 0, .int .i64 0, .slice a n c, .int .u32 0], .bool false]) := by
  obtain ⟨v, rfl, hv⟩ := h
  obtain ⟨a, c, rfl, _⟩ := hv.slice
  exact ⟨a, _, c, rfl⟩
theorem headRes_some {B : Nat} {h : Hd} {e : Ending} {w' : World} (hr : HeadRes B (some h) e w') : ∃ a c, e = .returned (.tuple #[.agg #[.int .i64 h.epoch, .int .i64 h.seq, .slice a h.pages.length c, .int .u32 (h.sum : Int)], .bool true]) ∧ IsInts w' a h.pages ∧ (∀ b o, a = some ⟨b, o, none⟩ → B ≤ b) := by
  obtain ⟨v, rfl, hv⟩ := hr
  obtain ⟨a, c, rfl, hb, hB, _⟩ := hv.slice
  exact ⟨a, c, rfl, hb, fun b o e => (hv.low b (hB b o e)).1⟩
theorem headDecF {e e' s s' : Int} {m m' : Nat} {p p' : List Int} (h : ¬ (e = e' ∧ s = s' ∧ (m : Int) = m')) : decide ((⟨e, s, m, p⟩ : Hd) = ⟨e', s', m', p'⟩) = false := decide_eq_false fun h' => by
  injection h' with h1 h2 h3 h4
  exact h ⟨h1, h2, by rw [h3]⟩
theorem headDecT {e s : Int} {m : Nat} {p p' : List Int} : decide ((⟨e, s, m, p⟩ : Hd) = ⟨e, s, m, p'⟩) = decide (p = p') := by
  by_cases h : p = p'
  · subst h; rw [decide_eq_true rfl, decide_eq_true rfl]
  · rw [decide_eq_false h, decide_eq_false fun h' => by injection h' with _ _ _ h4; exact h h4]
set_option maxRecDepth 100000 in
set_option maxHeartbeats 1600000 in
theorem heads_any {w : World} {a a' : Option Addr} {h h' : Hd} {cap cap' : Nat} (hb : IsInts w a h.pages) (hb' : IsInts w a' h'.pages) (hl : h.pages.length ≤ 9223372036854775807) (hl' : h'.pages.length ≤ 9223372036854775807) :
    Calls Tryd.prog 34 #[headV h (.slice a h.pages.length cap), headV h' (.slice a' h'.pages.length cap')] w fun e w' => e = .returned (.bool (decide (h = h'))) ∧ Upd [] w w' := by
  obtain ⟨e, s, m, p⟩ := h
  obtain ⟨e', s', m', p'⟩ := h'
  simp only at hb hb' hl hl'
  unfold headV
  simp only
  have hu := ((Upd.refl [] w).alloc (.cells #[.int .i64 e, .int .i64 s, .slice a p.length cap, .int .u32 (m : Int)] 59)).alloc (.cells #[.int .i64 e', .int .i64 s', .slice a' p'.length cap', .int .u32 (m' : Int)] 59)
  have HU := Lib.hid hu
  have HS := Lib.hid (ints_any (cap := cap) (cap' := cap') (hb.upd hu (by simp)) (hb'.upd hu (by simp)) hl hl')
  clear hb hb' hu
  by_cases h1 : e = e'
  · subst h1
    by_cases h2 : s = s'
    · subst h2
      by_cases h3 : (m : Int) = m'
      · obtain rfl : m = m' := by omega
        go_enter Tryd.func34, Tryd.ntmps34
        go_wp2_with (go_at_call 27; refine HS.out.mono ?_; rintro e w1 ⟨rfl, u1⟩; have U1 := Lib.hid u1; clear u1)
        go_ret
        exact ⟨by rw [headDecT]; rfl, HU.out.trans U1.out⟩
      · have HD := Lib.hid (headDecF (p := p) (p' := p') (fun h => h3 h.2.2) (e := e) (e' := e) (s := s) (s' := s) (m := m) (m' := m'))
        have k1 : ((m : Int) == (m' : Int)) = false := by simpa using h3
        have k2 : decide ((m : Int) = (m' : Int)) = false := by simpa using h3
        clear h3
        go_enter Tryd.func34, Tryd.ntmps34
        go_wp2
        go_ret
        rw [HD.out]
        exact ⟨rfl, HU.out⟩
    · have HD := Lib.hid (headDecF (p := p) (p' := p') (fun h => h2 h.2.1) (e := e) (e' := e) (s := s) (s' := s') (m := m) (m' := m'))
      have k1 : (s == s') = false := by simpa using h2
      have k2 : decide (s = s') = false := by simpa using h2
      clear h2
      go_enter Tryd.func34, Tryd.ntmps34
      go_wp2
      go_ret
      rw [HD.out]
      exact ⟨rfl, HU.out⟩
  · have HD := Lib.hid (headDecF (p := p) (p' := p') (fun h => h1 h.1) (e := e) (e' := e') (s := s) (s' := s') (m := m) (m' := m'))
    have k1 : (e == e') = false := by simpa using h1
    have k2 : decide (e = e') = false := by simpa using h1
    clear h1
    go_enter Tryd.func34, Tryd.ntmps34
    go_wp2
    go_ret
    rw [HD.out]
    exact ⟨rfl, HU.out⟩
/-- A slot holds four cells. -/
theorem cells4 {w : World} {b : Nat} {x y z u : Value} {t : TypeId} (h : w.heap[b]? = some (.cells #[x, y, z, u] t (0, 0))) : w.cell? ⟨b, 0, none⟩ = some x ∧ w.cell? ⟨b, 1, none⟩ = some y ∧ w.cell? ⟨b, 2, none⟩ = some z ∧ w.cell? ⟨b, 3, none⟩ = some u := by
  obtain ⟨k, _⟩ := cells_of h
  exact ⟨k 0, k 1, k 2, k 3⟩
set_option maxRecDepth 100000 in
set_option maxHeartbeats 6400000 in
theorem codecHead_none {w : World} {a : Option Addr} {cap : Nat} (h : Hd) (hb : IsInts w a h.pages) (hl : h.pages.length ≤ 9223372036854775807) (hsm : h.sum < 4294967296) (ho : okHead h = false) :
    Calls Tryd.prog 7 #[headV h (.slice a h.pages.length cap)] w fun e w' => e = .returned (.bool true) ∧ Upd [] w w' := by
  have HC := Lib.hid (heap_alloc_new w (.cells #[.int .i64 h.epoch, .int .i64 h.seq, .slice a h.pages.length cap, .int .u32 (h.sum : Int)] 59))
  have HB : Hid (∀ w', Upd [] w w' → IsInts w' a h.pages) := fun w' u => hb.upd u (by simp)
  have hpn : putHead h = none := by unfold putHead; rw [ho]; simp
  have HPN := Lib.hid hpn
  have HGN := Lib.hid getHead_nil
  clear hb ho hpn
  have HL := Lib.hid hl
  have HSM := Lib.hid hsm
  clear hl hsm
  rw [show headV h (.slice a h.pages.length cap) = .agg #[.int .i64 h.epoch, .int .i64 h.seq, .slice a h.pages.length cap, .int .u32 (h.sum : Int)] from rfl]
  go_enter Tryd.func7, Tryd.ntmps7
  go_wp2_with fail
  refine (new_any _).mono ?_
  rintro e w1 ⟨t, rfl, htB, ht1, u1⟩
  simp at htB
  have HX1 := Lib.hid (u1.get HC.out (by simp))
  have HT1 := Lib.hid ht1
  have U1 := Lib.hid (((Upd.refl [] w).alloc _).trans u1)
  clear ht1 u1
  go_wp2_with fail
  refine (known_any HT1.out).mono ?_
  rintro e w2 ⟨rfl, ht2, u2⟩
  have HX2 := Lib.hid (u2.get HX1.out (by simp; omega))
  have HT2 := Lib.hid ht2
  have U2 := Lib.hid (U1.out.step u2 (fun x hx => .inr (by simp at hx; omega)))
  clear ht2 u2 HX1 HT1
  go_wp2_with (refine wpList_load_all rfl 59 (.tmp 1) rfl w.heap.size 4 rfl _ _ _ _ HX2.out Tryd.underlying59 rfl infoHead rfl ?_)
  refine (putHead_any (h := h) (cap := cap) HT2.out (HB.out _ U2.out) HL.out HSM.out).mono ?_
  rintro e w3 ⟨hp3, ht3, u3⟩
  rw [HPN.out] at hp3
  obtain ⟨va, rfl, hva⟩ := hp3
  have HX3 := Lib.hid (u3.get HX2.out (by simp; omega))
  have HT3 := Lib.hid ht3
  have HVA := Lib.hid (hva.base (C := t + 1) (Nat.succ_le_of_lt HT2.out.lt))
  have U3 := Lib.hid (U2.out.step u3 (fun x hx => .inr (by simp at hx; omega)))
  clear u3 ht3 hva HX2 HT2
  simp only [Option.isSome_none, Bool.false_eq_true, if_false, Option.getD_none] at HVA ⊢
  go_wp2_with (refine wpList_load_all rfl 59 (.tmp 1) rfl w.heap.size 4 rfl _ _ _ _ HX3.out Tryd.underlying59 rfl infoHead rfl ?_)
  refine (rputHead_any (h := h) (cap := cap) (HB.out _ U3.out) HL.out HSM.out).mono ?_
  rintro e w4 ⟨hp, u4⟩
  rw [HPN.out] at hp
  obtain ⟨vb, rfl, hvb⟩ := hp
  have HX4 := Lib.hid (u4.get HX3.out (by simp))
  have HT4 := Lib.hid (HT3.out.upd u4 (by simp))
  have HVA4 := Lib.hid (HVA.out.upd u4 (by simp))
  have HVB := Lib.hid hvb
  have U4 := Lib.hid (U3.out.trans u4)
  clear u4 hvb HX3 HT3 HVA
  simp only [Option.isSome_none, Bool.false_eq_true, if_false, Option.getD_none] at HVB ⊢
  go_wp2_with (refine wpList_load_all rfl 59 (.tmp 1) rfl w.heap.size 4 rfl _ _ _ _ HX4.out Tryd.underlying59 rfl infoHead rfl ?_)
  refine (putHead_no (t := none) (cap := cap) h (.inl rfl) HL.out).mono ?_
  rintro e w5 ⟨rfl, u5⟩
  have HT5 := Lib.hid (HT4.out.upd u5 (by simp))
  have HVA5 := Lib.hid (HVA4.out.upd u5 (by simp))
  have HVB5 := Lib.hid (HVB.out.upd u5 (by simp))
  have U5 := Lib.hid (U4.out.trans u5)
  clear u5 HX4 HT4 HVB HVA4
  go_wp2_with (go_at_call 18; refine (same_ret HVA5.out HVB5.out (by decide) (by decide)).mono ?_; rw [decide_eq_true rfl]; rintro e w6 ⟨rfl, u6⟩; have U6 := Lib.hid u6; clear u6)
  have HT6 := Lib.hid (HT5.out.upd U6.out (by simp))
  have hg := getHead_ret (B := t + 1) HT6.out (HVA5.out.upd U6.out (by simp)) (Nat.lt_succ_self t)
  rw [HGN.out] at hg
  refine hg.mono ?_
  rintro e w7 ⟨h7, ht7, u7⟩
  obtain ⟨a7, n7, c7, rfl⟩ := headRes_none h7
  have HVA7 := Lib.hid ((HVA5.out.upd U6.out (by simp)).upd u7 (by simp))
  have U7 := Lib.hid (((U5.out.trans U6.out)).step u7 (fun x hx => .inr (by simp at hx; omega)))
  clear hg h7 ht7 u7
  go_wp2_with fail
  refine (getHead_ret0 (HVA7.out.upd ((Upd.refl [] _).alloc _) (by simp))).mono ?_
  rintro e w8 ⟨h8, u8⟩
  obtain ⟨a8, n8, c8, rfl⟩ := headRes_none h8
  have U8 := Lib.hid ((U7.out.alloc _).trans u8)
  clear h8 u8
  go_wp2
  go_ret
  exact ⟨rfl, U8.out.alloc _⟩
set_option maxRecDepth 100000 in
set_option maxHeartbeats 6400000 in
theorem codecHead_some {w : World} {a : Option Addr} {cap : Nat} (h : Hd) (hb : IsInts w a h.pages) (hsm : h.sum < 4294967296) (ho : okHead h = true) :
    Calls Tryd.prog 7 #[headV h (.slice a h.pages.length cap)] w fun e w' => e = .returned (.bool true) ∧ Upd [] w w' := by
  obtain ⟨h0, hp⟩ := okHead_parts ho
  obtain ⟨_, _, hl1, hl2⟩ := okHead0_parts h0
  have HC := Lib.hid (heap_alloc_new w (.cells #[.int .i64 h.epoch, .int .i64 h.seq, .slice a h.pages.length cap, .int .u32 (h.sum : Int)] 59))
  have HB : Hid (∀ w', Upd [] w w' → IsInts w' a h.pages) := fun w' u => hb.upd u (by simp)
  have HPN := Lib.hid (putHead_some h0 hp)
  have hgn := getHead_of_put (h := h) hsm
  rw [putHead_some h0 hp, ho, if_pos rfl, Option.getD_some] at hgn
  have HGN := Lib.hid hgn
  have hfl : (frame (headBytes h)).length = 256 := frame_len (by rw [headBytes_len]; omega)
  have HFL := Lib.hid hfl
  have HL := Lib.hid (show h.pages.length ≤ 9223372036854775807 by omega)
  have HSM := Lib.hid hsm
  clear hb ho h0 hp hl1 hl2 hgn hfl hsm
  rw [show headV h (.slice a h.pages.length cap) = .agg #[.int .i64 h.epoch, .int .i64 h.seq, .slice a h.pages.length cap, .int .u32 (h.sum : Int)] from rfl]
  go_enter Tryd.func7, Tryd.ntmps7
  go_wp2_with fail
  refine (new_any _).mono ?_
  rintro e w1 ⟨t, rfl, htB, ht1, u1⟩
  simp at htB
  have HX1 := Lib.hid (u1.get HC.out (by simp))
  have HT1 := Lib.hid ht1
  have U1 := Lib.hid (((Upd.refl [] w).alloc _).trans u1)
  clear ht1 u1
  go_wp2_with fail
  refine (known_any HT1.out).mono ?_
  rintro e w2 ⟨rfl, ht2, u2⟩
  have HX2 := Lib.hid (u2.get HX1.out (by simp; omega))
  have HT2 := Lib.hid ht2
  have U2 := Lib.hid (U1.out.step u2 (fun x hx => .inr (by simp at hx; omega)))
  clear ht2 u2 HX1 HT1
  go_wp2_with (refine wpList_load_all rfl 59 (.tmp 1) rfl w.heap.size 4 rfl _ _ _ _ HX2.out Tryd.underlying59 rfl infoHead rfl ?_)
  refine (putHead_any (h := h) (cap := cap) HT2.out (HB.out _ U2.out) HL.out HSM.out).mono ?_
  rintro e w3 ⟨hp3, ht3, u3⟩
  rw [HPN.out] at hp3
  obtain ⟨va, rfl, hva⟩ := hp3
  have HX3 := Lib.hid (u3.get HX2.out (by simp; omega))
  have HT3 := Lib.hid ht3
  have HVA := Lib.hid (hva.base (C := t + 1) (Nat.succ_le_of_lt HT2.out.lt))
  have U3 := Lib.hid (U2.out.step u3 (fun x hx => .inr (by simp at hx; omega)))
  clear u3 ht3 hva HX2 HT2
  simp only [Option.isSome_some, if_true, Option.getD_some] at HVA ⊢
  go_wp2_with (refine wpList_load_all rfl 59 (.tmp 1) rfl w.heap.size 4 rfl _ _ _ _ HX3.out Tryd.underlying59 rfl infoHead rfl ?_)
  refine (rputHead_any (h := h) (cap := cap) (HB.out _ U3.out) HL.out HSM.out).mono ?_
  rintro e w4 ⟨hp, u4⟩
  rw [HPN.out] at hp
  obtain ⟨vb, rfl, hvb⟩ := hp
  have HX4 := Lib.hid (u4.get HX3.out (by simp))
  have HT4 := Lib.hid (HT3.out.upd u4 (by simp))
  have HVA4 := Lib.hid (HVA.out.upd u4 (by simp))
  have HVB := Lib.hid hvb
  have U4 := Lib.hid (U3.out.trans u4)
  clear u4 hvb HX3 HT3 HVA
  simp only [Option.isSome_some, if_true, Option.getD_some] at HVB ⊢
  go_wp2_with (refine wpList_load_all rfl 59 (.tmp 1) rfl w.heap.size 4 rfl _ _ _ _ HX4.out Tryd.underlying59 rfl infoHead rfl ?_)
  refine (putHead_no (t := none) (cap := cap) h (.inl rfl) HL.out).mono ?_
  rintro e w5 ⟨rfl, u5⟩
  have HX5 := Lib.hid (u5.get HX4.out (by simp))
  have HT5 := Lib.hid (HT4.out.upd u5 (by simp))
  have HVA5 := Lib.hid (HVA4.out.upd u5 (by simp))
  have HVB5 := Lib.hid (HVB.out.upd u5 (by simp))
  have U5 := Lib.hid (U4.out.trans u5)
  clear u5 HX4 HT4 HVB HVA4
  go_wp2_with (go_at_call 18; refine (same_ret HVA5.out HVB5.out (by rw [HFL.out]; decide) (by rw [HFL.out]; decide)).mono ?_; rw [decide_eq_true rfl]; rintro e w6 ⟨rfl, u6⟩; have U6 := Lib.hid u6; clear u6)
  have HX6 := Lib.hid (U6.out.get HX5.out (by simp))
  have HT6 := Lib.hid (HT5.out.upd U6.out (by simp))
  have HVA6 := Lib.hid (HVA5.out.upd U6.out (by simp))
  have hg := getHead_ret HT6.out HVA6.out (Nat.lt_succ_self t)
  rw [HGN.out] at hg
  refine hg.mono ?_
  rintro e w7 ⟨h7, ht7, u7⟩
  obtain ⟨a7, c7, rfl, hb7, hB7⟩ := headRes_some h7
  have HX7 := Lib.hid (u7.get HX6.out (by simp; omega))
  have HVA7 := Lib.hid (HVA6.out.upd u7 (by simp))
  have HB7 := Lib.hid hb7
  have U7 := Lib.hid (((U5.out.trans U6.out)).step u7 (fun x hx => .inr (by simp at hx; omega)))
  clear hg h7 ht7 u7 hb7 HX5 HX6 HVA5 HVA6
  go_wp2_with fail
  refine (getHead_ret0 (HVA7.out.upd ((Upd.refl [] _).alloc _) (by simp))).mono ?_
  rintro e w8 ⟨h8, u8⟩
  obtain ⟨a8, n8, c8, rfl⟩ := headRes_none h8
  have hu8 := ((Upd.refl [] w7).alloc (.cells #[.int .i64 h.epoch, .int .i64 h.seq, .slice a7 h.pages.length c7, .int .u32 (h.sum : Int)] 59)).trans u8
  have hx8 := ((Upd.refl [] w8).alloc (.cells #[.int .i64 0, .int .i64 0, .slice a8 n8 c8, .int .u32 0] 59)).get (hu8.get HX7.out (by simp)) (by simp)
  have hy8 := ((Upd.refl [] w8).alloc (.cells #[.int .i64 0, .int .i64 0, .slice a8 n8 c8, .int .u32 0] 59)).get (u8.get (heap_alloc_new w7 _) (by simp)) (by simp)
  have U8 := Lib.hid ((U7.out.trans hu8).alloc (.cells #[.int .i64 0, .int .i64 0, .slice a8 n8 c8, .int .u32 0] 59))
  have HP8 := Lib.hid (heads_any (h := h) (h' := h) (cap := c7) (cap' := cap) (HB7.out.upd (hu8.alloc (.cells #[.int .i64 0, .int .i64 0, .slice a8 n8 c8, .int .u32 0] 59)) (by simp)) (HB.out _ U8.out) HL.out HL.out)
  rw [decide_eq_true rfl] at HP8
  have HX8 := Lib.hid hx8
  have HY8 := Lib.hid hy8
  clear hu8 hx8 hy8 h8 u8 HX7 HVA7 HB7 U7
  obtain ⟨e0, e1, e2, e3⟩ := cells4 HX8.out
  obtain ⟨f0, f1, f2, f3⟩ := cells4 HY8.out
  go_wp2_with (go_at_call 34; refine HP8.out.mono ?_; rintro e w9 ⟨rfl, u9⟩; have U9 := Lib.hid u9; clear u9)
  go_ret
  exact ⟨rfl, U8.out.trans U9.out⟩
end Go.Proofs.YtkahpkmofeglgaaDoor
