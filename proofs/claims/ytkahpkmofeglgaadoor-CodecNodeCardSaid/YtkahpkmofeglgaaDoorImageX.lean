/-
  PROVED HERE: PutImage of package codec. Conditions: the table may be used; the body can be read.
-/
import Derived.Test.YtkahpkmofeglgaaDoorImageW
namespace Go.Proofs.YtkahpkmofeglgaaDoor
open Go.RowKit

theorem okImage_cases (e s : Int) (x : Img) : okImage e s x = true ∨ (okImage e s x = false ∧ (inB e 4294967295 = false ∨ (inB e 4294967295 = true ∧ inB s 1099511627775 = false) ∨ (inB e 4294967295 = true ∧ inB s 1099511627775 = true ∧ okImg x = false))) := by
  unfold okImage
  cases h1 : inB e 4294967295
  · right; exact ⟨by simp, .inl rfl⟩
  cases h2 : inB s 1099511627775
  · right; exact ⟨by simp, .inr (.inl ⟨rfl, rfl⟩)⟩
  cases h3 : okImg x
  · right; exact ⟨by simp, .inr (.inr ⟨rfl, rfl, rfl⟩)⟩
  · left; simp
set_option maxRecDepth 100000 in
set_option maxHeartbeats 3200000 in
theorem putImage_no {t : Option Addr} {w : World} {a : Option Addr} {cap : Nat} (e s : Int) (x : Img) (h : t = none ∨ ∃ b, t = some ⟨b, 0, none⟩ ∧ okImage e s x = false) (hl : x.body.length ≤ 9223372036854775807) :
    Calls Tryd.prog 20 #[.pointer t, .int .i64 e, .int .i64 s, imgV x (.slice a x.body.length cap)] w fun e w' => e = .returned (.tuple #[.slice none 0 0, .int .i64 1]) ∧ Upd [] w w' := by
  rcases h with rfl | ⟨b, rfl, ho⟩
  · unfold imgV
    go_enter Tryd.func20, Tryd.ntmps20
    go_wp2
    go_ret2
    exact ⟨rfl, (Upd.refl [] w).alloc _⟩
  · rcases okImage_cases e s x with h1 | ⟨_, h1⟩
    · rw [ho] at h1; cases h1
    clear ho
    obtain ⟨num, kind, body⟩ := x
    unfold imgV
    simp only at h1 hl ⊢
    rcases h1 with h1 | ⟨h1, h2⟩ | ⟨h1, h2, h3⟩
    rotate_right
    · rcases okImg_cases ⟨num, kind, body⟩ with h4 | ⟨_, h4⟩
      · rw [h3] at h4; cases h4
      simp only at h4
      clear h3
      rcases h4 with h4 | ⟨h4, h5⟩ | ⟨h4, h5, h6⟩ | ⟨h4, h5, h6, h7⟩
      all_goals
        go_enter Tryd.func20, Tryd.ntmps20
        go_wp2_with (go_at_call 52; refine (in_b _ _ _).mono ?_; rintro e w' ⟨rfl, rfl⟩)
        go_ret2
        exact ⟨rfl, (Upd.refl [] w).alloc _⟩
    all_goals
      go_enter Tryd.func20, Tryd.ntmps20
      go_wp2_with (go_at_call 52; refine (in_b _ _ _).mono ?_; rintro e w' ⟨rfl, rfl⟩)
      go_ret2
      exact ⟨rfl, (Upd.refl [] w).alloc _⟩
set_option maxRecDepth 100000 in
set_option maxHeartbeats 3200000 in
theorem putImage_yes {t : Nat} {w : World} {a : Option Addr} {cap : Nat} {e s : Int} {x : Img} (ht : TabOk w t) (hb : IsBytes w a x.body) (ho : okImage e s x = true) :
    Calls Tryd.prog 20 #[pt t, .int .i64 e, .int .i64 s, imgV x (.slice a x.body.length cap)] w fun r w' => BlkOut w.heap.size (frame (imageBytes e s x)) r w' ∧ TabOk w' t ∧ Upd [t] w w' := by
  unfold okImage at ho
  simp only [Bool.and_eq_true] at ho
  obtain ⟨ho, he, hs⟩ := ho
  obtain ⟨h1, h2, h3, h4, h5⟩ := okImg_parts ho
  have hin : inB x.num 1023 = true := by rw [inB_true]; omega
  have he' := inB_true.1 he
  have hs' := inB_true.1 hs
  obtain ⟨num, kind, body⟩ := x
  simp only at h1 h2 h3 h4 h5 hin hb
  unfold imgV
  simp only
  rw [h5]
  obtain ⟨b, o, rfl, hc0⟩ := hb.2 0 (by omega)
  have hbl := World.block_lt_of_cell? _ _ hc0
  clear hc0
  obtain ⟨num, rfl⟩ := Int.eq_ofNat_of_zero_le h3
  obtain ⟨kind, rfl⟩ := Int.eq_ofNat_of_zero_le (show 0 ≤ kind by omega)
  obtain ⟨e, rfl⟩ := Int.eq_ofNat_of_zero_le he'.1
  obtain ⟨s, rfl⟩ := Int.eq_ofNat_of_zero_le hs'.1
  have HT := Lib.hid ht
  have HB := Lib.hid hb
  have H5 := Lib.hid h5
  have hlt := Lib.hid ht.lt
  have HE := Lib.hid (show e < 9223372036854775808 by omega)
  have HS := Lib.hid (show s < 9223372036854775808 by omega)
  have hC0 := ((Upd.refl [] _).alloc (.cells Tryd.zeroCells107 107)).get (heap_alloc_new w (.cells #[.int .i64 num, .int .i64 kind, .slice (some ⟨b, o, none⟩) 240 cap] 39)) (by simp)
  have hW0 := isW_made (w.alloc (.cells #[.int .i64 num, .int .i64 kind, .slice (some ⟨b, o, none⟩) 240 cap] 39))
  rw [show (w.alloc (.cells #[.int .i64 num, .int .i64 kind, .slice (some ⟨b, o, none⟩) 240 cap] 39)).heap.size = w.heap.size + 1 by simp] at hW0
  have HC0 := Lib.hid hC0
  have HW0 := Lib.hid hW0
  have U0 := Lib.hid (((Upd.refl [] w).alloc (.cells #[.int .i64 num, .int .i64 kind, .slice (some ⟨b, o, none⟩) 240 cap] 39)).alloc (.cells Tryd.zeroCells107 107))
  clear ht hb h5 ho hC0 hW0 he' hs'
  obtain ⟨k1, _⟩ := cells_of HC0.out
  have k10 := k1 1
  simp only [List.getElem?_toArray, List.getElem?_cons_zero, List.getElem?_cons_succ] at k10
  clear k1
  go_enter Tryd.func20, Tryd.ntmps20
  go_wp2_with (go_at_call 52; refine (in_b _ _ _).mono ?_; rintro e w' ⟨rfl, rfl⟩)
  refine (put_any (k := 1) HW0.out (by decide) (by omega) (by simp)).mono ?_
  rintro r w2 ⟨rfl, g2, u2⟩
  have HC2 := Lib.hid (u2.get HC0.out (by simp))
  have G2 := Lib.hid g2
  have U2 := Lib.hid (U0.out.step u2 (fun x hx => .inr (by simp at hx; omega)))
  clear g2 u2 HC0 HW0 k10
  obtain ⟨k1, _⟩ := cells_of HC2.out
  have k10 := k1 0
  simp only [List.getElem?_toArray, List.getElem?_cons_zero] at k10
  clear k1
  go_wp2_with fail
  refine (put_any (k := 2) G2.out (by decide) (by omega) (by simp [be_len])).mono ?_
  rintro r w3 ⟨rfl, g3, u3⟩
  have HC3 := Lib.hid (u3.get HC2.out (by simp))
  have G3 := Lib.hid g3
  have U3 := Lib.hid (U2.out.step u3 (fun x hx => .inr (by simp at hx; omega)))
  clear g3 u3 HC2 G2 k10
  go_wp2_with fail
  refine (put_any (k := 4) G3.out (by decide) HE.out (by simp [be_len])).mono ?_
  rintro r w4 ⟨rfl, g4, u4⟩
  have HC4 := Lib.hid (u4.get HC3.out (by simp))
  have G4 := Lib.hid g4
  have U4 := Lib.hid (U3.out.step u4 (fun x hx => .inr (by simp at hx; omega)))
  clear g4 u4 HC3 G3
  go_wp2_with fail
  refine (put_any (k := 5) G4.out (by decide) HS.out (by simp [be_len])).mono ?_
  rintro r w5 ⟨rfl, g5, u5⟩
  have HC5 := Lib.hid (u5.get HC4.out (by simp))
  have G5 := Lib.hid g5
  have hU5 := U4.out.step u5 (fun x hx => .inr (by simp at hx; omega))
  have U5 := Lib.hid hU5
  have HB5 := Lib.hid ((HB.out.upd hU5 (by simp)).text 240 cap (by have := H5.out; omega))
  rw [List.take_of_length_le (by have := H5.out; omega)] at HB5
  have hB5 := HB5.out
  clear g5 u5 HC4 G4 hU5
  obtain ⟨k1, _⟩ := cells_of HC5.out
  have k10 := k1 2
  simp only [List.getElem?_toArray, List.getElem?_cons_zero, List.getElem?_cons_succ] at k10
  clear k1
  go_wp2_with fail
  refine (text_any G5.out (by rw [strOf_size]; simp [be_len]; have := H5.out; omega) (by simp [be_len])).mono ?_
  rintro r w6 ⟨rfl, g6, u6⟩
  rw [strBytes_nums HB.out.1] at g6
  have e6 : [] ++ be kind 1 ++ be num 2 ++ be e 4 ++ be s 5 ++ body = imageBytes e s ⟨num, kind, body⟩ := by
    unfold imageBytes
    simp
  rw [e6] at g6
  have G6 := Lib.hid g6
  have U6 := Lib.hid (U5.out.step u6 (fun x hx => .inr (by simp at hx; omega)))
  clear g6 u6 hB5 k10 HB5 G5
  go_wp2_with fail
  refine (framed_any G6.out (by rw [imageBytes_len]; have := H5.out; simp only; omega) (HT.out.upd U6.out (by simp)) (by have := hlt.out; omega)).mono ?_
  rintro r w7 ⟨rfl, g7, t7, u7⟩
  have G7 := Lib.hid g7
  have T7 := Lib.hid t7
  have U7 := Lib.hid u7
  clear g7 t7 u7
  go_wp2
  go_ret2
  exact ⟨⟨_, rfl, by omega, G7.out⟩, .inr T7.out, (U6.out.mono (by simp)).step U7.out (fun x hx => by
    simp at hx
    rcases hx with h | h
    · exact .inr (by omega)
    · exact .inl (by simp [h]))⟩
end Go.Proofs.YtkahpkmofeglgaaDoor
