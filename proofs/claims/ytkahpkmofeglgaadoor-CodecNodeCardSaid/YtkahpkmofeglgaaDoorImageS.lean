/-
  PROVED HERE: the document's PutImage. Conditions: the body can be read.
-/
import Derived.Test.YtkahpkmofeglgaaDoorImageR
namespace Go.Proofs.YtkahpkmofeglgaaDoor
open Go.RowKit

theorem okImage_cases' (e s : Int) (x : Img) : okImage e s x = true ∨ (okImage e s x = false ∧ (okImg x = false ∨ (okImg x = true ∧ inB e 4294967295 = false) ∨ (okImg x = true ∧ inB e 4294967295 = true ∧ inB s 1099511627775 = false))) := by
  unfold okImage
  cases h3 : okImg x
  · right; exact ⟨by simp, .inl rfl⟩
  cases h1 : inB e 4294967295
  · right; exact ⟨by simp, .inr (.inl ⟨rfl, rfl⟩)⟩
  cases h2 : inB s 1099511627775
  · right; exact ⟨by simp, .inr (.inr ⟨rfl, rfl, rfl⟩)⟩
  · left; simp
theorem putImage_none {e s : Int} {x : Img} (h : okImage e s x = false) : putImage e s x = none := by unfold putImage; rw [h]; rfl
theorem putImage_some {e s : Int} {x : Img} (h : okImage e s x = true) : putImage e s x = some (frame (imageBytes e s x)) := by unfold putImage; rw [h]; rfl
set_option maxRecDepth 100000 in
set_option maxHeartbeats 3200000 in
theorem rputImage_no {w : World} {a : Option Addr} {cap : Nat} (e s : Int) (x : Img) (hb : IsBytes w a x.body) (ho : okImage e s x = false) (hl : x.body.length ≤ 9223372036854775807) :
    Calls Tryd.prog 21 #[.int .i64 e, .int .i64 s, imgV x (.slice a x.body.length cap)] w fun r w' => PutOut w.heap.size (putImage e s x) r w' ∧ Upd [] w w' := by
  rw [putImage_none ho]
  have hx := heap_alloc_new w (.cells #[.int .i64 x.num, .int .i64 x.kind, .slice a x.body.length cap] 39)
  have hu := (Upd.refl [] w).alloc (.cells #[.int .i64 x.num, .int .i64 x.kind, .slice a x.body.length cap] 39)
  have HB := Lib.hid (hb.upd hu (by simp))
  have HX := Lib.hid hx
  have HU := Lib.hid hu
  have hno : okImg x = false → Calls Tryd.prog 29 #[.agg #[.int .i64 x.num, .int .i64 x.kind, .slice a x.body.length cap]] (w.alloc (.cells #[.int .i64 x.num, .int .i64 x.kind, .slice a x.body.length cap] 39)) fun e w' => PutOut (w.alloc (.cells #[.int .i64 x.num, .int .i64 x.kind, .slice a x.body.length cap] 39)).heap.size none e w' ∧ Upd [] (w.alloc (.cells #[.int .i64 x.num, .int .i64 x.kind, .slice a x.body.length cap] 39)) w' := fun h => by
    have := rputPage_no (w := w.alloc (.cells #[.int .i64 x.num, .int .i64 x.kind, .slice a x.body.length cap] 39)) (a := a) (cap := cap) x h hl
    rw [putPage_none h] at this
    exact this
  have hyes : okImg x = true → Calls Tryd.prog 29 #[.agg #[.int .i64 x.num, .int .i64 x.kind, .slice a x.body.length cap]] (w.alloc (.cells #[.int .i64 x.num, .int .i64 x.kind, .slice a x.body.length cap] 39)) fun e w' => PutOut (w.alloc (.cells #[.int .i64 x.num, .int .i64 x.kind, .slice a x.body.length cap] 39)).heap.size (some (frame (pageBytes x))) e w' ∧ Upd [] (w.alloc (.cells #[.int .i64 x.num, .int .i64 x.kind, .slice a x.body.length cap] 39)) w' := fun h => by
    have := rputPage_yes (cap := cap) HB.out h
    rw [putPage_some h] at this
    exact this
  have HNO := Lib.hid hno
  have HYES := Lib.hid hyes
  rcases okImage_cases' e s x with h1 | ⟨_, h1⟩
  · rw [ho] at h1; cases h1
  clear ho hb hx hu hno hyes
  unfold imgV
  rcases h1 with h1 | ⟨h1, h2⟩ | ⟨h1, h2, h3⟩
  · have HC := Lib.hid (HNO.out h1)
    clear h1 HNO HYES
    go_enter Tryd.func21, Tryd.ntmps21
    go_wp2_with fail
    refine HC.out.mono ?_
    rintro r w1 ⟨⟨v, rfl, hv⟩, u1⟩
    have U1 := Lib.hid u1
    clear hv u1
    simp only [Option.isSome_none, Bool.false_eq_true, if_false]
    go_wp2
    go_ret2
    exact ⟨PutOut.no _ _, HU.out.trans U1.out⟩
  all_goals
    have HC := Lib.hid (HYES.out h1)
    clear h1 HNO HYES
    go_enter Tryd.func21, Tryd.ntmps21
    go_wp2_with fail
    refine HC.out.mono ?_
    rintro r w1 ⟨⟨v, rfl, hv⟩, u1⟩
    have U1 := Lib.hid u1
    clear hv u1
    simp only [Option.isSome_some, if_true]
    go_wp2_with (go_at_call 56; refine (rin_b _ _ _).mono ?_; rintro e w' ⟨rfl, rfl⟩)
    go_ret2
    exact ⟨PutOut.no _ _, HU.out.trans U1.out⟩
set_option maxRecDepth 100000 in
set_option maxHeartbeats 3200000 in
theorem rputImage_yes {w : World} {a : Option Addr} {cap : Nat} {e s : Int} {x : Img} (hb : IsBytes w a x.body) (ho : okImage e s x = true) :
    Calls Tryd.prog 21 #[.int .i64 e, .int .i64 s, imgV x (.slice a x.body.length cap)] w fun r w' => PutOut w.heap.size (putImage e s x) r w' ∧ Upd [] w w' := by
  rw [putImage_some ho]
  have hyes := rputPage_yes (cap := cap) (hb.upd ((Upd.refl [] w).alloc (.cells #[.int .i64 x.num, .int .i64 x.kind, .slice a x.body.length cap] 39)) (by simp)) (by unfold okImage at ho; simp only [Bool.and_eq_true] at ho; exact ho.1)
  rw [putPage_some (by unfold okImage at ho; simp only [Bool.and_eq_true] at ho; exact ho.1)] at hyes
  unfold okImage at ho
  simp only [Bool.and_eq_true] at ho
  obtain ⟨ho, he, hs⟩ := ho
  obtain ⟨h1, h2, h3, h4, h5⟩ := okImg_parts ho
  have he' := inB_true.1 he
  have hs' := inB_true.1 hs
  obtain ⟨num, kind, body⟩ := x
  unfold imgV at hyes
  simp only at h1 h2 h3 h4 h5 hb hyes
  unfold imgV
  simp only
  rw [h5] at hyes ⊢
  obtain ⟨b, o, rfl, hc0⟩ := hb.2 0 (by omega)
  have hbl := World.block_lt_of_cell? _ _ hc0
  clear hc0
  obtain ⟨num, rfl⟩ := Int.eq_ofNat_of_zero_le h3
  obtain ⟨kind, rfl⟩ := Int.eq_ofNat_of_zero_le (show 0 ≤ kind by omega)
  obtain ⟨e, rfl⟩ := Int.eq_ofNat_of_zero_le he'.1
  obtain ⟨s, rfl⟩ := Int.eq_ofNat_of_zero_le hs'.1
  have HB := Lib.hid hb
  have H5 := Lib.hid h5
  have HC := Lib.hid hyes
  have hx := heap_alloc_new w (.cells #[.int .i64 num, .int .i64 kind, .slice (some ⟨b, o, none⟩) 240 cap] 39)
  have HX := Lib.hid hx
  have HU := Lib.hid ((Upd.refl [] w).alloc (.cells #[.int .i64 num, .int .i64 kind, .slice (some ⟨b, o, none⟩) 240 cap] 39))
  clear hb h5 ho hx hyes he' hs'
  go_enter Tryd.func21, Tryd.ntmps21
  go_wp2_with fail
  refine HC.out.mono ?_
  rintro r W ⟨⟨v, rfl, hv⟩, u1⟩
  have HXW := Lib.hid (u1.get HX.out (by simp))
  have HUW := Lib.hid (HU.out.trans u1)
  have HSZ := Lib.hid (show w.heap.size ≤ W.heap.size from (HU.out.trans u1).size)
  have HS : Hid (∀ w', Upd [] W w' → w'.cell? ⟨w.heap.size, 0, none⟩ = some (.int .i64 (num : Int)) ∧ w'.cell? ⟨w.heap.size, 1, none⟩ = some (.int .i64 (kind : Int))) := fun w' u => by
    obtain ⟨k1, _⟩ := cells_of ((u1.get HX.out (by simp) |> fun h => u.get h (by simp)))
    exact ⟨k1 0, k1 1⟩
  clear hv u1 HX HC
  simp only [Option.isSome_some, if_true]
  go_wp2_with (go_at_call 56; refine (rin_b _ _ _).mono ?_; rintro e w' ⟨rfl, rfl⟩)
  have hE0 := HS.out W.drew (Upd.refl [] W).drew
  have HSZD := Lib.hid (show w.heap.size ≤ W.drew.heap.size from HSZ.out)
  have HN0 := Lib.hid (IsOut.nil W.drew w.heap.size)
  first | (go_region_held (fun w' => w'.cell? ⟨w.heap.size, 0, none⟩ = some (.int .i64 (num : Int)) ∧ w'.cell? ⟨w.heap.size, 1, none⟩ = some (.int .i64 (kind : Int))) (first | exact hE0 | exact hE3 | exact hE4) (first
    | (go_at_call 57; (with_reducible refine (rput_k 1 1 rfl HN0.out HSZD.out (by decide) (by decide)).mono ?_); rintro e w3 ⟨v3, rfl, g3, m3⟩; have U3 := Lib.hid (show Upd [] W w3 from (Upd.refl [] W).drew.trans m3.fresh); have hE3 := HS.out _ U3.out; have G3 := Lib.hid g3; have M3 := Lib.hid m3; clear g3 m3)
    | (go_at_call 57; (with_reducible refine (rput_k 2 2 rfl G3.out (by have := HSZ.out; have := U3.out.size; omega) (by decide) (by simp [be_len])).mono ?_); rintro e w4 ⟨v4, rfl, g4, m4⟩; have M4 := Lib.hid (M3.out.trans m4); have U4 := Lib.hid (show Upd [] W w4 from (Upd.refl [] W).drew.trans M4.out.fresh); have hE4 := HS.out _ U4.out; have G4 := Lib.hid g4; clear g4 m4))) | fail
  have HSZ4 := Lib.hid (show w.heap.size ≤ w4.heap.size from Nat.le_trans HSZ.out U4.out.size)
  clear hE0 hE3 hE4 M3 U3 G3
  go_wp2_with fail
  refine (rput_k 4 4 rfl G4.out HSZ4.out (by decide) (by simp [be_len])).mono ?_
  rintro r w5 ⟨v5, rfl, g5, m5⟩
  have G5 := Lib.hid g5
  have M5 := Lib.hid (M4.out.trans m5)
  have HSZ5 := Lib.hid (show w.heap.size ≤ w5.heap.size from Nat.le_trans HSZ4.out m5.upd.size)
  clear g5 m5
  go_wp2_with fail
  refine (rput_k 5 5 rfl G5.out HSZ5.out (by decide) (by simp [be_len])).mono ?_
  rintro r w6 ⟨v6, rfl, g6, m6⟩
  have G6 := Lib.hid g6
  have M6 := Lib.hid (M5.out.trans m6)
  have hU6 : Upd [] W w6 := (Upd.refl [] W).drew.trans (M5.out.trans m6).fresh
  have HSZ6 := Lib.hid (show w.heap.size ≤ w6.heap.size from Nat.le_trans HSZ5.out m6.upd.size)
  have HB6 := Lib.hid (HB.out.upd (HUW.out.trans hU6) (by simp))
  have hcell := (cells_of (hU6.get HXW.out (by simp))).1 2
  simp only [List.getElem?_toArray, List.getElem?_cons_zero, List.getElem?_cons_succ] at hcell
  clear g6 m6 hU6
  go_wp2_with (at_builtin; refine wpList_pushes (p := body) rfl (.tmp 40) (.tmp 43) rfl rfl rfl G6.out ⟨b, o, none⟩ 240 cap H5.out.symm rfl HB6.out.news HB6.out.1 (by have := H5.out; omega) (by simp [be_len]; have := H5.out; omega) HSZ6.out ?_; intro v7 w7 g7 m7; have G7 := Lib.hid g7; have M7 := Lib.hid (M6.out.trans m7); clear g7 m7)
  have e7 : [] ++ be kind 1 ++ be num 2 ++ be e 4 ++ be s 5 ++ body = imageBytes e s ⟨num, kind, body⟩ := by
    unfold imageBytes
    simp
  rw [e7] at G7
  have U7 := Lib.hid (show Upd [] W w7 from (Upd.refl [] W).drew.trans M7.out.fresh)
  have HSZ7 := Lib.hid (Nat.le_trans HSZ.out U7.out.size)
  refine (rframed_any G7.out HSZ7.out (by rw [imageBytes_len]; have := H5.out; simp only; omega)).mono ?_
  rintro r w8 ⟨v8, rfl, g8, m8⟩
  have G8 := Lib.hid g8
  have M8 := Lib.hid (M7.out.trans m8)
  clear g8 m8
  go_wp2
  go_ret2
  exact ⟨PutOut.yes G8.out.ret, HUW.out.trans ((Upd.refl [] W).drew.trans M8.out.fresh)⟩
end Go.Proofs.YtkahpkmofeglgaaDoor
