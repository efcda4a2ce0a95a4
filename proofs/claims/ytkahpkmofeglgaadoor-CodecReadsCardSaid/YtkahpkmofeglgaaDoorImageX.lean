/-
  PROVED HERE: PutPage and PutImage of package codec. Conditions: the table may be used; the body can be read.
  PROVED HERE: PutImage of package codec. Conditions: the table may be used; the body can be read.
-/
import Derived.Test.YtkahpkmofeglgaaDoorImageRec
import Derived.Test.YtkahpkmofeglgaaDoorKnown
namespace Go.Proofs.YtkahpkmofeglgaaDoor
open Go.RowKit

/-- A page with its number, as the program holds it: its body is the slice v. -/
def imgV (x : Img) (v : Value) : Value := .agg #[.int .i64 x.num, .int .i64 x.kind, v]
theorem strBytes_nums {l : List Nat} (h : BytesOk l) : strBytes (strOfNums (l.map fun n : Nat => (n : Int))) = l := by
  have := (bytes_take h (strOfNums (l.map fun n : Nat => (n : Int))) l.length).1 (by rw [List.take_length])
  rw [← this, List.take_length]
theorem strOf_size (l : List Nat) : (strOfNums (l.map fun n : Nat => (n : Int))).size = l.length := by rw [strOfNums_size, List.length_map]
theorem IsBytes.lt {w : World} {a : Option Addr} {l : List Nat} (h : IsBytes w a l) (h0 : 0 < l.length) : ∀ b o, a = some ⟨b, o, none⟩ → b < w.heap.size := fun b o e => by
  obtain ⟨b', o', e', hc⟩ := h.2 0 h0
  rw [e'] at e
  cases e
  exact World.block_lt_of_cell? _ _ hc
/-- The place moves on over noughts. -/
theorem IsW.skip {w : World} {b n : Nat} {m : Int} {l : List Nat} (h : IsW w b l) (hn : l.length ≤ n) (hm : m = (n : Int)) : IsW (w.setCell ⟨b, 256, none⟩ (.int .i64 m)) b (pad l n) ∧ Upd [b] w (w.setCell ⟨b, 256, none⟩ (.int .i64 m)) := by
  subst hm
  obtain ⟨⟨cs, hb, hs, hc, ha⟩, ok⟩ := h
  refine ⟨⟨⟨_, heap_setCell_same w b 256 cs _ _ hb, by simpa using hs, fun i hi => ?_, ?_⟩, ok.pad n⟩, (Upd.refl _ _).setCell (.inl (by simp)) _⟩ <;> rw [Array.getElem?_setIfInBounds]
  · rw [if_neg (by omega), pad_getD]; exact hc i hi
  · rw [if_pos rfl, if_pos (by omega), pad_len hn]
theorem okImg_cases (x : Img) : okImg x = true ∨ (okImg x = false ∧ (inB x.num 1023 = false ∨ (inB x.num 1023 = true ∧ decide (x.kind < 1) = true) ∨ (inB x.num 1023 = true ∧ decide (x.kind < 1) = false ∧ decide (5 < x.kind) = true) ∨ (inB x.num 1023 = true ∧ decide (x.kind < 1) = false ∧ decide (5 < x.kind) = false ∧ ((x.body.length : Int) != 240) = true))) := by
  unfold okImg
  cases h1 : inB x.num 1023
  · right; exact ⟨by simp, .inl rfl⟩
  by_cases h2 : x.kind < 1
  · right; exact ⟨by simp; omega, .inr (.inl ⟨rfl, decide_eq_true h2⟩)⟩
  by_cases h3 : 5 < x.kind
  · right; exact ⟨by simp; omega, .inr (.inr (.inl ⟨rfl, decide_eq_false h2, decide_eq_true h3⟩))⟩
  by_cases h4 : x.body.length = 240
  · left; simp; omega
  · right; exact ⟨by simp [h4], .inr (.inr (.inr ⟨rfl, decide_eq_false h2, decide_eq_false h3, by simp; omega⟩))⟩
set_option maxRecDepth 100000 in
set_option maxHeartbeats 3200000 in
theorem putPage_no {t : Option Addr} {w : World} {a : Option Addr} {cap : Nat} (x : Img) (h : t = none ∨ ∃ b, t = some ⟨b, 0, none⟩ ∧ okImg x = false) (hl : x.body.length ≤ 9223372036854775807) :
    Calls Tryd.prog 28 #[.pointer t, imgV x (.slice a x.body.length cap)] w fun e w' => e = .returned (.tuple #[.slice none 0 0, .int .i64 1]) ∧ Upd [] w w' := by
  obtain ⟨num, kind, body⟩ := x
  unfold imgV
  rcases h with rfl | ⟨b, rfl, ho⟩
  · go_enter Tryd.func28, Tryd.ntmps28
    go_wp2
    go_ret2
    exact ⟨rfl, (Upd.refl [] w).alloc _⟩
  · rcases okImg_cases ⟨num, kind, body⟩ with h1 | ⟨_, h1⟩
    · rw [ho] at h1; cases h1
    simp only at h1 hl
    clear ho
    rcases h1 with h1 | ⟨h1, h2⟩ | ⟨h1, h2, h3⟩ | ⟨h1, h2, h3, h4⟩
    all_goals
      go_enter Tryd.func28, Tryd.ntmps28
      go_wp2_with (go_at_call 52; refine (in_b _ _ _).mono ?_; rintro e w' ⟨rfl, rfl⟩)
      go_ret2
      exact ⟨rfl, (Upd.refl [] w).alloc _⟩
/-- What a page's writing hands back: a block that its reader may write. -/
def BlkOut (B : Nat) (m : List Nat) (e : Ending) (w' : World) : Prop := ∃ b, e = .returned (.tuple #[.slice (some ⟨b, 0, none⟩) 256 256, .int .i64 0]) ∧ B ≤ b ∧ IsBlk w' b m
set_option maxRecDepth 100000 in
set_option maxHeartbeats 3200000 in
theorem putPage_yes {t : Nat} {w : World} {a : Option Addr} {cap : Nat} {x : Img} (ht : TabOk w t) (hb : IsBytes w a x.body) (ho : okImg x = true) :
    Calls Tryd.prog 28 #[pt t, imgV x (.slice a x.body.length cap)] w fun e w' => BlkOut w.heap.size (frame (pageBytes x)) e w' ∧ TabOk w' t ∧ Upd [t] w w' := by
  obtain ⟨h1, h2, h3, h4, h5⟩ := okImg_parts ho
  have hin : inB x.num 1023 = true := by rw [inB_true]; omega
  obtain ⟨num, kind, body⟩ := x
  simp only at h1 h2 h3 h4 h5 hin hb
  unfold imgV
  simp only
  rw [h5]
  obtain ⟨b, o, rfl, hc0⟩ := hb.2 0 (by omega)
  have hbl := World.block_lt_of_cell? _ _ hc0
  clear hc0
  obtain ⟨num, rfl⟩ := Int.eq_ofNat_of_zero_le h3
  obtain ⟨kind, rfl⟩ := Int.eq_ofNat_of_zero_le (show 0 ≤ kind by omega)
  have HT := Lib.hid ht
  have HB := Lib.hid hb
  have H5 := Lib.hid h5
  have hlt := Lib.hid ht.lt
  have hC0 := ((Upd.refl [] _).alloc (.cells Tryd.zeroCells107 107)).get (heap_alloc_new w (.cells #[.int .i64 num, .int .i64 kind, .slice (some ⟨b, o, none⟩) 240 cap] 39)) (by simp)
  have hW0 := isW_made (w.alloc (.cells #[.int .i64 num, .int .i64 kind, .slice (some ⟨b, o, none⟩) 240 cap] 39))
  rw [show (w.alloc (.cells #[.int .i64 num, .int .i64 kind, .slice (some ⟨b, o, none⟩) 240 cap] 39)).heap.size = w.heap.size + 1 by simp] at hW0
  have HC0 := Lib.hid hC0
  have HW0 := Lib.hid hW0
  clear ht hb h5 ho hC0 hW0
  go_enter Tryd.func28, Tryd.ntmps28
  go_wp2_with (go_at_call 52; refine (in_b _ _ _).mono ?_; rintro e w' ⟨rfl, rfl⟩)
  refine (text_any (s := ⟨#[80, 80, 65, 71]⟩) HW0.out (by decide) (by decide)).mono ?_
  rintro e w1 ⟨rfl, g1, u1⟩
  have HC1 := Lib.hid (u1.get HC0.out (by simp))
  have G1 := Lib.hid (show IsW w1 (w.heap.size + 1) [80, 80, 65, 71] from g1)
  have U1 := Lib.hid ((((Upd.refl [] w).alloc _).alloc _).step u1 (T := [w.heap.size + 1]) (fun x hx => .inr (by simp at hx; omega)))
  clear g1 u1 HC0 HW0
  obtain ⟨k1, _⟩ := cells_of HC1.out
  have k10 := k1 1
  simp only [List.getElem?_toArray, List.getElem?_cons_zero, List.getElem?_cons_succ] at k10
  clear k1
  go_wp2_with fail
  refine (put_any (k := 1) G1.out (by decide) (by omega) (by simp)).mono ?_
  rintro e w2 ⟨rfl, g2, u2⟩
  have HC2 := Lib.hid (u2.get HC1.out (by simp))
  have G2 := Lib.hid g2
  have U2 := Lib.hid (U1.out.step u2 (fun x hx => .inr (by simp at hx; omega)))
  clear g2 u2 HC1 G1 k10
  obtain ⟨k1, _⟩ := cells_of HC2.out
  have k10 := k1 0
  simp only [List.getElem?_toArray, List.getElem?_cons_zero] at k10
  clear k1
  go_wp2_with fail
  refine (put_any (k := 4) G2.out (by decide) (by omega) (by simp [be_len])).mono ?_
  rintro e w3 ⟨rfl, g3, u3⟩
  have HC3 := Lib.hid (((Upd.refl [w.heap.size + 1] w3).setCell (p := ⟨w.heap.size + 1, 256, none⟩) (.inl (by simp)) (.int .i64 12)).get (u3.get HC2.out (by simp)) (by simp))
  have hz3 := g3.fz 256
  have ha3 := g3.at
  obtain ⟨g4, u4⟩ := g3.skip (n := 12) (m := 12) (by simp [be_len]) rfl
  have G4 := Lib.hid g4
  have hU4 := (U2.out.step u3 (fun x hx => .inr (by simp at hx; omega))).step u4 (fun x hx => .inr (by simp at hx; omega))
  have U4 := Lib.hid hU4
  have HB4 := Lib.hid ((HB.out.upd hU4 (by simp)).text 240 cap (by have := H5.out; omega))
  rw [List.take_of_length_le (by have := H5.out; omega)] at HB4
  have hB4 := HB4.out
  simp only [be_len, List.length_append, List.length_cons, List.length_nil] at ha3
  clear g3 u3 g4 u4 hU4 HC2 G2 U2 k10
  obtain ⟨k1, _⟩ := cells_of HC3.out
  have k10 := k1 2
  simp only [List.getElem?_toArray, List.getElem?_cons_zero, List.getElem?_cons_succ] at k10
  clear k1
  go_wp2_with fail
  refine (text_any G4.out (by rw [strOf_size, pad_len (by simp [be_len])]; have := H5.out; omega) (by rw [pad_len (by simp [be_len])]; decide)).mono ?_
  rintro e w5 ⟨rfl, g5, u5⟩
  rw [strBytes_nums HB.out.1] at g5
  have e5 : pad ([80, 80, 65, 71] ++ be kind 1 ++ be num 4) 12 ++ body = pageBytes ⟨num, kind, body⟩ := by
    unfold pad pageBytes
    simp [be_len]
  rw [e5] at g5
  have G5 := Lib.hid g5
  have U5 := Lib.hid (U4.out.step u5 (fun x hx => .inr (by simp at hx; omega)))
  clear g5 u5 hB4 k10 hz3 ha3 HB4 G4
  go_wp2_with fail
  refine (framed_any G5.out (by rw [pageBytes_len]; have := H5.out; simp only; omega) (HT.out.upd U5.out (by simp)) (by have := hlt.out; omega)).mono ?_
  rintro e w6 ⟨rfl, g6, t6, u6⟩
  have G6 := Lib.hid g6
  have T6 := Lib.hid t6
  have U6 := Lib.hid u6
  clear g6 t6 u6
  go_wp2
  go_ret2
  exact ⟨⟨_, rfl, by omega, G6.out⟩, .inr T6.out, (U5.out.mono (by simp)).step U6.out (fun x hx => by
    simp at hx
    rcases hx with h | h
    · exact .inr (by omega)
    · exact .inl (by simp [h]))⟩
end Go.Proofs.YtkahpkmofeglgaaDoor
namespace Go.Proofs.YtkahpkmofeglgaaDoor
open Go.RowKit

theorem okImage_cases (e s : Int) (x : Img) : okImage e s x = true ∨ (okImage e s x = false ∧ (inB e 4294967295 = false ∨ (inB e 4294967295 = true ∧ inB s 1099511627775 = false) ∨ (inB e 4294967295 = true ∧ inB s 1099511627775 = true ∧ okImg x = false))) := by
  unfold okImage
  cases h1 : inB e 4294967295
  · right; exact ⟨by simp, .inl rfl⟩
  cases h2 : inB s 1099511627775
  · right; exact ⟨by simp, .inr (.inl ⟨rfl, rfl⟩)⟩
  cases h3 : okImg x
  · right; exact ⟨by simp, .inr (.inr ⟨rfl, rfl, rfl⟩)⟩
  · left; simp
set_option maxRecDepth 100000 in
set_option maxHeartbeats 3200000 in
theorem putImage_no {t : Option Addr} {w : World} {a : Option Addr} {cap : Nat} (e s : Int) (x : Img) (h : t = none ∨ ∃ b, t = some ⟨b, 0, none⟩ ∧ okImage e s x = false) (hl : x.body.length ≤ 9223372036854775807) :
    Calls Tryd.prog 20 #[.pointer t, .int .i64 e, .int .i64 s, imgV x (.slice a x.body.length cap)] w fun e w' => e = .returned (.tuple #[.slice none 0 0, .int .i64 1]) ∧ Upd [] w w' := by
  rcases h with rfl | ⟨b, rfl, ho⟩
  · unfold imgV
    go_enter Tryd.func20, Tryd.ntmps20
    go_wp2
    go_ret2
    exact ⟨rfl, (Upd.refl [] w).alloc _⟩
  · rcases okImage_cases e s x with h1 | ⟨_, h1⟩
    · rw [ho] at h1; cases h1
    clear ho
    obtain ⟨num, kind, body⟩ := x
    unfold imgV
    simp only at h1 hl ⊢
    rcases h1 with h1 | ⟨h1, h2⟩ | ⟨h1, h2, h3⟩
    rotate_right
    · rcases okImg_cases ⟨num, kind, body⟩ with h4 | ⟨_, h4⟩
      · rw [h3] at h4; cases h4
      simp only at h4
      clear h3
      rcases h4 with h4 | ⟨h4, h5⟩ | ⟨h4, h5, h6⟩ | ⟨h4, h5, h6, h7⟩
      all_goals
        go_enter Tryd.func20, Tryd.ntmps20
        go_wp2_with (go_at_call 52; refine (in_b _ _ _).mono ?_; rintro e w' ⟨rfl, rfl⟩)
        go_ret2
        exact ⟨rfl, (Upd.refl [] w).alloc _⟩
    all_goals
      go_enter Tryd.func20, Tryd.ntmps20
      go_wp2_with (go_at_call 52; refine (in_b _ _ _).mono ?_; rintro e w' ⟨rfl, rfl⟩)
      go_ret2
      exact ⟨rfl, (Upd.refl [] w).alloc _⟩
set_option maxRecDepth 100000 in
set_option maxHeartbeats 3200000 in
theorem putImage_yes {t : Nat} {w : World} {a : Option Addr} {cap : Nat} {e s : Int} {x : Img} (ht : TabOk w t) (hb : IsBytes w a x.body) (ho : okImage e s x = true) :
    Calls Tryd.prog 20 #[pt t, .int .i64 e, .int .i64 s, imgV x (.slice a x.body.length cap)] w fun r w' => BlkOut w.heap.size (frame (imageBytes e s x)) r w' ∧ TabOk w' t ∧ Upd [t] w w' := by
  unfold okImage at ho
  simp only [Bool.and_eq_true] at ho
  obtain ⟨ho, he, hs⟩ := ho
  obtain ⟨h1, h2, h3, h4, h5⟩ := okImg_parts ho
  have hin : inB x.num 1023 = true := by rw [inB_true]; omega
  have he' := inB_true.1 he
  have hs' := inB_true.1 hs
  obtain ⟨num, kind, body⟩ := x
  simp only at h1 h2 h3 h4 h5 hin hb
  unfold imgV
  simp only
  rw [h5]
  obtain ⟨b, o, rfl, hc0⟩ := hb.2 0 (by omega)
  have hbl := World.block_lt_of_cell? _ _ hc0
  clear hc0
  obtain ⟨num, rfl⟩ := Int.eq_ofNat_of_zero_le h3
  obtain ⟨kind, rfl⟩ := Int.eq_ofNat_of_zero_le (show 0 ≤ kind by omega)
  obtain ⟨e, rfl⟩ := Int.eq_ofNat_of_zero_le he'.1
  obtain ⟨s, rfl⟩ := Int.eq_ofNat_of_zero_le hs'.1
  have HT := Lib.hid ht
  have HB := Lib.hid hb
  have H5 := Lib.hid h5
  have hlt := Lib.hid ht.lt
  have HE := Lib.hid (show e < 9223372036854775808 by omega)
  have HS := Lib.hid (show s < 9223372036854775808 by omega)
  have hC0 := ((Upd.refl [] _).alloc (.cells Tryd.zeroCells107 107)).get (heap_alloc_new w (.cells #[.int .i64 num, .int .i64 kind, .slice (some ⟨b, o, none⟩) 240 cap] 39)) (by simp)
  have hW0 := isW_made (w.alloc (.cells #[.int .i64 num, .int .i64 kind, .slice (some ⟨b, o, none⟩) 240 cap] 39))
  rw [show (w.alloc (.cells #[.int .i64 num, .int .i64 kind, .slice (some ⟨b, o, none⟩) 240 cap] 39)).heap.size = w.heap.size + 1 by simp] at hW0
  have HC0 := Lib.hid hC0
  have HW0 := Lib.hid hW0
  have U0 := Lib.hid (((Upd.refl [] w).alloc (.cells #[.int .i64 num, .int .i64 kind, .slice (some ⟨b, o, none⟩) 240 cap] 39)).alloc (.cells Tryd.zeroCells107 107))
  clear ht hb h5 ho hC0 hW0 he' hs'
  obtain ⟨k1, _⟩ := cells_of HC0.out
  have k10 := k1 1
  simp only [List.getElem?_toArray, List.getElem?_cons_zero, List.getElem?_cons_succ] at k10
  clear k1
  go_enter Tryd.func20, Tryd.ntmps20
  go_wp2_with (go_at_call 52; refine (in_b _ _ _).mono ?_; rintro e w' ⟨rfl, rfl⟩)
  refine (put_any (k := 1) HW0.out (by decide) (by omega) (by simp)).mono ?_
  rintro r w2 ⟨rfl, g2, u2⟩
  have HC2 := Lib.hid (u2.get HC0.out (by simp))
  have G2 := Lib.hid g2
  have U2 := Lib.hid (U0.out.step u2 (fun x hx => .inr (by simp at hx; omega)))
  clear g2 u2 HC0 HW0 k10
  obtain ⟨k1, _⟩ := cells_of HC2.out
  have k10 := k1 0
  simp only [List.getElem?_toArray, List.getElem?_cons_zero] at k10
  clear k1
  go_wp2_with fail
  refine (put_any (k := 2) G2.out (by decide) (by omega) (by simp [be_len])).mono ?_
  rintro r w3 ⟨rfl, g3, u3⟩
  have HC3 := Lib.hid (u3.get HC2.out (by simp))
  have G3 := Lib.hid g3
  have U3 := Lib.hid (U2.out.step u3 (fun x hx => .inr (by simp at hx; omega)))
  clear g3 u3 HC2 G2 k10
  go_wp2_with fail
  refine (put_any (k := 4) G3.out (by decide) HE.out (by simp [be_len])).mono ?_
  rintro r w4 ⟨rfl, g4, u4⟩
  have HC4 := Lib.hid (u4.get HC3.out (by simp))
  have G4 := Lib.hid g4
  have U4 := Lib.hid (U3.out.step u4 (fun x hx => .inr (by simp at hx; omega)))
  clear g4 u4 HC3 G3
  go_wp2_with fail
  refine (put_any (k := 5) G4.out (by decide) HS.out (by simp [be_len])).mono ?_
  rintro r w5 ⟨rfl, g5, u5⟩
  have HC5 := Lib.hid (u5.get HC4.out (by simp))
  have G5 := Lib.hid g5
  have hU5 := U4.out.step u5 (fun x hx => .inr (by simp at hx; omega))
  have U5 := Lib.hid hU5
  have HB5 := Lib.hid ((HB.out.upd hU5 (by simp)).text 240 cap (by have := H5.out; omega))
  rw [List.take_of_length_le (by have := H5.out; omega)] at HB5
  have hB5 := HB5.out
  clear g5 u5 HC4 G4 hU5
  obtain ⟨k1, _⟩ := cells_of HC5.out
  have k10 := k1 2
  simp only [List.getElem?_toArray, List.getElem?_cons_zero, List.getElem?_cons_succ] at k10
  clear k1
  go_wp2_with fail
  refine (text_any G5.out (by rw [strOf_size]; simp [be_len]; have := H5.out; omega) (by simp [be_len])).mono ?_
  rintro r w6 ⟨rfl, g6, u6⟩
  rw [strBytes_nums HB.out.1] at g6
  have e6 : [] ++ be kind 1 ++ be num 2 ++ be e 4 ++ be s 5 ++ body = imageBytes e s ⟨num, kind, body⟩ := by
    unfold imageBytes
    simp
  rw [e6] at g6
  have G6 := Lib.hid g6
  have U6 := Lib.hid (U5.out.step u6 (fun x hx => .inr (by simp at hx; omega)))
  clear g6 u6 hB5 k10 HB5 G5
  go_wp2_with fail
  refine (framed_any G6.out (by rw [imageBytes_len]; have := H5.out; simp only; omega) (HT.out.upd U6.out (by simp)) (by have := hlt.out; omega)).mono ?_
  rintro r w7 ⟨rfl, g7, t7, u7⟩
  have G7 := Lib.hid g7
  have T7 := Lib.hid t7
  have U7 := Lib.hid u7
  clear g7 t7 u7
  go_wp2
  go_ret2
  exact ⟨⟨_, rfl, by omega, G7.out⟩, .inr T7.out, (U6.out.mono (by simp)).step U7.out (fun x hx => by
    simp at hx
    rcases hx with h | h
    · exact .inr (by omega)
    · exact .inl (by simp [h]))⟩
end Go.Proofs.YtkahpkmofeglgaaDoor
