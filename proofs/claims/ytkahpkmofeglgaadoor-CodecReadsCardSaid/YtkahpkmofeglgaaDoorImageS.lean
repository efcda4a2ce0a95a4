/-
  PROVED HERE: the document's PutPage and PutImage. Conditions: the body can be read.
  PROVED HERE: the document's PutImage. Conditions: the body can be read.
-/
import Derived.Test.YtkahpkmofeglgaaDoorImageX
import Derived.Deep.RegionHeld3
namespace Go.Proofs.YtkahpkmofeglgaaDoor
open Go.RowKit

theorem IsBytes.news {w : World} {b o : Nat} {l : List Nat} (h : IsBytes w (some ⟨b, o, none⟩) l) : ∀ j u, (u8s l)[j]? = some u → w.cell? ((⟨b, o, none⟩ : Addr).add j) = some u := by
  intro j u hj
  rw [u8s_get] at hj
  by_cases hjl : j < l.length
  · rw [List.getElem?_eq_getElem hjl] at hj
    obtain ⟨b', o', e, hc⟩ := h.2 j hjl
    cases e
    rw [add_off, hc]
    simpa using hj
  · rw [List.getElem?_eq_none (by omega)] at hj; cases hj
theorem rput_k {v : Value} {n B : Nat} {l : List Nat} {w : World} (k : Nat) (ki : Int) (hki : ki = (k : Int)) (h : IsOut w B v l) (hB : B ≤ w.heap.size) (hk : k ≤ 8) (hr : l.length + k ≤ 100000000000000) :
    Calls Tryd.prog 57 #[v, .int .i64 n, .int .i64 ki] w fun e w' => ∃ v', e = .returned v' ∧ IsOut w' B v' (l ++ be n k) ∧ Mine v w v' w' := by
  subst hki; exact rput_any h hB hk hr
theorem okImg_cases' (x : Img) : okImg x = true ∨ (okImg x = false ∧ (decide (x.kind < 1) = true ∨ (decide (x.kind < 1) = false ∧ decide (5 < x.kind) = true) ∨ (decide (x.kind < 1) = false ∧ decide (5 < x.kind) = false ∧ inB x.num 1023 = false) ∨ (decide (x.kind < 1) = false ∧ decide (5 < x.kind) = false ∧ inB x.num 1023 = true ∧ ((x.body.length : Int) != 240) = true))) := by
  rcases okImg_cases x with h | ⟨h, h1 | ⟨h1, h2⟩ | ⟨h1, h2, h3⟩ | ⟨h1, h2, h3, h4⟩⟩
  · exact .inl h
  · by_cases h2 : x.kind < 1
    · exact .inr ⟨h, .inl (decide_eq_true h2)⟩
    by_cases h3 : 5 < x.kind
    · exact .inr ⟨h, .inr (.inl ⟨decide_eq_false h2, decide_eq_true h3⟩)⟩
    · exact .inr ⟨h, .inr (.inr (.inl ⟨decide_eq_false h2, decide_eq_false h3, h1⟩))⟩
  · exact .inr ⟨h, .inl h2⟩
  · exact .inr ⟨h, .inr (.inl ⟨h2, h3⟩)⟩
  · exact .inr ⟨h, .inr (.inr (.inr ⟨h2, h3, h1, h4⟩))⟩
theorem putPage_none {x : Img} (h : okImg x = false) : putPage x = none := by unfold putPage; rw [h]; rfl
theorem putPage_some {x : Img} (h : okImg x = true) : putPage x = some (frame (pageBytes x)) := by unfold putPage; rw [h]; rfl
set_option maxRecDepth 100000 in
set_option maxHeartbeats 3200000 in
theorem rputPage_no {w : World} {a : Option Addr} {cap : Nat} (x : Img) (ho : okImg x = false) (hl : x.body.length ≤ 9223372036854775807) :
    Calls Tryd.prog 29 #[imgV x (.slice a x.body.length cap)] w fun e w' => PutOut w.heap.size (putPage x) e w' ∧ Upd [] w w' := by
  rw [putPage_none ho]
  obtain ⟨num, kind, body⟩ := x
  unfold imgV
  rcases okImg_cases' ⟨num, kind, body⟩ with h1 | ⟨_, h1⟩
  · rw [ho] at h1; cases h1
  simp only at h1 hl
  clear ho
  rcases h1 with h1 | ⟨h1, h2⟩ | ⟨h1, h2, h3⟩ | ⟨h1, h2, h3, h4⟩
  all_goals
    go_enter Tryd.func29, Tryd.ntmps29
    go_wp2_with (go_at_call 56; refine (rin_b _ _ _).mono ?_; rintro e w' ⟨rfl, rfl⟩)
    go_ret2
    exact ⟨PutOut.no _ _, (Upd.refl [] w).alloc _⟩
set_option maxRecDepth 100000 in
set_option maxHeartbeats 3200000 in
theorem rputPage_yes {w : World} {a : Option Addr} {cap : Nat} {x : Img} (hb : IsBytes w a x.body) (ho : okImg x = true) :
    Calls Tryd.prog 29 #[imgV x (.slice a x.body.length cap)] w fun e w' => PutOut w.heap.size (putPage x) e w' ∧ Upd [] w w' := by
  rw [putPage_some ho]
  obtain ⟨h1, h2, h3, h4, h5⟩ := okImg_parts ho
  have hin : inB x.num 1023 = true := by rw [inB_true]; omega
  obtain ⟨num, kind, body⟩ := x
  simp only at h1 h2 h3 h4 h5 hin hb
  unfold imgV
  simp only
  rw [h5]
  obtain ⟨b, o, rfl, hc0⟩ := hb.2 0 (by omega)
  have hbl := World.block_lt_of_cell? _ _ hc0
  clear hc0
  obtain ⟨num, rfl⟩ := Int.eq_ofNat_of_zero_le h3
  obtain ⟨kind, rfl⟩ := Int.eq_ofNat_of_zero_le (show 0 ≤ kind by omega)
  have HB := Lib.hid hb
  have H5 := Lib.hid h5
  have hx := heap_alloc_new w (.cells #[.int .i64 num, .int .i64 kind, .slice (some ⟨b, o, none⟩) 240 cap] 39)
  have hu := (Upd.refl [] w).alloc (.cells #[.int .i64 num, .int .i64 kind, .slice (some ⟨b, o, none⟩) 240 cap] 39)
  generalize hW : w.alloc (.cells #[.int .i64 num, .int .i64 kind, .slice (some ⟨b, o, none⟩) 240 cap] 39) = W at hx hu
  have hsz : W.heap.size = w.heap.size + 1 := by rw [← hW]; simp
  have HWE := Lib.hid hW
  have HX := Lib.hid hx
  have HU := Lib.hid hu
  have HSZ := Lib.hid hsz
  have HS : Hid (∀ w', Upd [] W w' → w'.cell? ⟨w.heap.size, 0, none⟩ = some (.int .i64 (num : Int)) ∧ w'.cell? ⟨w.heap.size, 1, none⟩ = some (.int .i64 (kind : Int))) := fun w' u => by
    obtain ⟨k1, _⟩ := cells_of (u.get hx (by simp))
    exact ⟨k1 0, k1 1⟩
  have HL : Hid (IsOut (W.alloc (.cells #[.int .u8 80, .int .u8 80, .int .u8 65, .int .u8 71] 5 (4, 5))).drew w.heap.size (.slice (some ⟨W.heap.size, 0, none⟩) 4 4) [80, 80, 65, 71]) := by
    have := heap_alloc_new W.drew (.cells #[.int .u8 80, .int .u8 80, .int .u8 65, .int .u8 71] 5 (4, 5))
    rw [show W.drew.heap.size = W.heap.size from rfl] at this
    exact isOut_lit (l := [80, 80, 65, 71]) this (fun x hx => by simp at hx; omega) (by omega) (by decide)
  have UL := Lib.hid (show Upd [] W (W.alloc (.cells #[.int .u8 80, .int .u8 80, .int .u8 65, .int .u8 71] 5 (4, 5))).drew from ((Upd.refl [] W).alloc _).drew)
  have hcv : ∀ (n c : Nat), (convert 27 27 (.slice (some ⟨W.heap.size, 0, none⟩) n c)).run Tryd.prog (W.alloc (.cells #[.int .u8 80, .int .u8 80, .int .u8 65, .int .u8 71] 5)).drew = .ok (.slice (some ⟨W.heap.size, 0, none⟩) n c) (W.alloc (.cells #[.int .u8 80, .int .u8 80, .int .u8 65, .int .u8 71] 5 (4, 5))).drew := fun n c => Lib.run_convert_bytes_const (P := Tryd.prog) W.drew 27 5 #[.int .u8 80, .int .u8 80, .int .u8 65, .int .u8 71] n c Tryd.underlying27 Tryd.underlying5
  clear hb h5 ho hx hu hsz hW
  go_enter Tryd.func29, Tryd.ntmps29
  go_wp2_with (go_at_call 56; refine (rin_b _ _ _).mono ?_; rintro e w' ⟨rfl, rfl⟩)
  rw [HWE.out]
  have hE0 := HS.out W.drew (Upd.refl [] W).drew
  have hE1 := HS.out _ ((Upd.refl [] W).alloc (.cells #[.int .u8 80, .int .u8 80, .int .u8 65, .int .u8 71] 5)).drew
  have hE2 := HS.out _ UL.out
  first | (go_region_held (fun w' => w'.cell? ⟨w.heap.size, 0, none⟩ = some (.int .i64 (num : Int)) ∧ w'.cell? ⟨w.heap.size, 1, none⟩ = some (.int .i64 (kind : Int))) (first | exact hE0 | exact hE1 | exact hE2 | exact hE3 | exact hE4) (first
    | (go_at_call 57; (with_reducible refine (rput_k 1 1 rfl HL.out (by have := HSZ.out; simp; omega) (by decide) (by decide)).mono ?_); rintro e w3 ⟨v3, rfl, g3, m3⟩; have U3 := Lib.hid (UL.out.step m3.upd (fun x hx => by simp [Value.ownBlock] at hx; right; have := HSZ.out; omega)); have hE3 := HS.out _ U3.out; have G3 := Lib.hid g3; have M3 := Lib.hid m3; clear g3 m3)
    | (go_at_call 57; (with_reducible refine (rput_k 4 4 rfl G3.out (by have := HSZ.out; have := U3.out.size; omega) (by decide) (by simp [be_len])).mono ?_); rintro e w4 ⟨v4, rfl, g4, m4⟩; have M4 := Lib.hid (M3.out.trans m4); have U4 := Lib.hid (UL.out.step M4.out.upd (fun x hx => by simp [Value.ownBlock] at hx; right; have := HSZ.out; omega)); have hE4 := HS.out _ U4.out; have G4 := Lib.hid g4; clear g4 m4))) | fail
  have U4' := Lib.hid (HU.out.trans U4.out)
  have HSZ4 := Lib.hid (show w.heap.size ≤ w4.heap.size from U4'.out.size)
  clear hcv hE0 hE1 hE2 hE3 hE4 M3 U3 G3
  go_wp2_with fail
  refine (filled_any (n := 12) G4.out HSZ4.out (by decide) (by simp [be_len])).mono ?_
  rintro e w5 ⟨v5, rfl, g5, m5⟩
  have G5 := Lib.hid g5
  have M5 := Lib.hid (M4.out.trans m5)
  clear g5 m5
  have hU5 := (HU.out.trans UL.out).step M5.out.upd (fun x hx => .inr (by simp [Value.ownBlock] at hx; have := HSZ.out; omega))
  have U5 := Lib.hid hU5
  have UW5 := Lib.hid (UL.out.step M5.out.upd (fun x hx => .inr (by simp [Value.ownBlock] at hx; omega)))
  have HB5 := Lib.hid (HB.out.upd hU5 (by simp))
  have HSZ5 := Lib.hid hU5.size
  have hcell := (cells_of (UW5.out.get HX.out (by simp))).1 2
  simp only [List.getElem?_toArray, List.getElem?_cons_zero, List.getElem?_cons_succ] at hcell
  clear hU5
  go_wp2_with (at_builtin; refine wpList_pushes (p := body) rfl (.tmp 39) (.tmp 42) rfl rfl rfl G5.out ⟨b, o, none⟩ 240 cap H5.out.symm rfl HB5.out.news HB5.out.1 (by have := H5.out; omega) (by rw [pad_len (by simp [be_len])]; have := H5.out; omega) HSZ5.out ?_; intro v6 w6 g6 m6; have G6 := Lib.hid g6; have M6 := Lib.hid (M5.out.trans m6); clear g6 m6)
  have e6 : pad ([80, 80, 65, 71] ++ be kind 1 ++ be num 4) 12 ++ body = pageBytes ⟨num, kind, body⟩ := by
    unfold pad pageBytes
    simp [be_len]
  rw [e6] at G6
  have U6 := Lib.hid ((HU.out.trans UL.out).step M6.out.upd (fun x hx => .inr (by simp [Value.ownBlock] at hx; have := HSZ.out; omega)))
  have HSZ6 := Lib.hid U6.out.size
  refine (rframed_any G6.out HSZ6.out (by rw [pageBytes_len]; have := H5.out; simp only; omega)).mono ?_
  rintro e w7 ⟨v7, rfl, g7, m7⟩
  have G7 := Lib.hid g7
  have M7 := Lib.hid (M6.out.trans m7)
  clear g7 m7
  go_wp2
  go_ret2
  exact ⟨PutOut.yes G7.out.ret, (HU.out.trans UL.out).step M7.out.upd (fun x hx => .inr (by simp [Value.ownBlock] at hx; have := HSZ.out; omega))⟩
end Go.Proofs.YtkahpkmofeglgaaDoor
namespace Go.Proofs.YtkahpkmofeglgaaDoor
open Go.RowKit

theorem okImage_cases' (e s : Int) (x : Img) : okImage e s x = true ∨ (okImage e s x = false ∧ (okImg x = false ∨ (okImg x = true ∧ inB e 4294967295 = false) ∨ (okImg x = true ∧ inB e 4294967295 = true ∧ inB s 1099511627775 = false))) := by
  unfold okImage
  cases h3 : okImg x
  · right; exact ⟨by simp, .inl rfl⟩
  cases h1 : inB e 4294967295
  · right; exact ⟨by simp, .inr (.inl ⟨rfl, rfl⟩)⟩
  cases h2 : inB s 1099511627775
  · right; exact ⟨by simp, .inr (.inr ⟨rfl, rfl, rfl⟩)⟩
  · left; simp
theorem putImage_none {e s : Int} {x : Img} (h : okImage e s x = false) : putImage e s x = none := by unfold putImage; rw [h]; rfl
theorem putImage_some {e s : Int} {x : Img} (h : okImage e s x = true) : putImage e s x = some (frame (imageBytes e s x)) := by unfold putImage; rw [h]; rfl
set_option maxRecDepth 100000 in
set_option maxHeartbeats 3200000 in
theorem rputImage_no {w : World} {a : Option Addr} {cap : Nat} (e s : Int) (x : Img) (hb : IsBytes w a x.body) (ho : okImage e s x = false) (hl : x.body.length ≤ 9223372036854775807) :
    Calls Tryd.prog 21 #[.int .i64 e, .int .i64 s, imgV x (.slice a x.body.length cap)] w fun r w' => PutOut w.heap.size (putImage e s x) r w' ∧ Upd [] w w' := by
  rw [putImage_none ho]
  have hx := heap_alloc_new w (.cells #[.int .i64 x.num, .int .i64 x.kind, .slice a x.body.length cap] 39)
  have hu := (Upd.refl [] w).alloc (.cells #[.int .i64 x.num, .int .i64 x.kind, .slice a x.body.length cap] 39)
  have HB := Lib.hid (hb.upd hu (by simp))
  have HX := Lib.hid hx
  have HU := Lib.hid hu
  have hno : okImg x = false → Calls Tryd.prog 29 #[.agg #[.int .i64 x.num, .int .i64 x.kind, .slice a x.body.length cap]] (w.alloc (.cells #[.int .i64 x.num, .int .i64 x.kind, .slice a x.body.length cap] 39)) fun e w' => PutOut (w.alloc (.cells #[.int .i64 x.num, .int .i64 x.kind, .slice a x.body.length cap] 39)).heap.size none e w' ∧ Upd [] (w.alloc (.cells #[.int .i64 x.num, .int .i64 x.kind, .slice a x.body.length cap] 39)) w' := fun h => by
    have := rputPage_no (w := w.alloc (.cells #[.int .i64 x.num, .int .i64 x.kind, .slice a x.body.length cap] 39)) (a := a) (cap := cap) x h hl
    rw [putPage_none h] at this
    exact this
  have hyes : okImg x = true → Calls Tryd.prog 29 #[.agg #[.int .i64 x.num, .int .i64 x.kind, .slice a x.body.length cap]] (w.alloc (.cells #[.int .i64 x.num, .int .i64 x.kind, .slice a x.body.length cap] 39)) fun e w' => PutOut (w.alloc (.cells #[.int .i64 x.num, .int .i64 x.kind, .slice a x.body.length cap] 39)).heap.size (some (frame (pageBytes x))) e w' ∧ Upd [] (w.alloc (.cells #[.int .i64 x.num, .int .i64 x.kind, .slice a x.body.length cap] 39)) w' := fun h => by
    have := rputPage_yes (cap := cap) HB.out h
    rw [putPage_some h] at this
    exact this
  have HNO := Lib.hid hno
  have HYES := Lib.hid hyes
  rcases okImage_cases' e s x with h1 | ⟨_, h1⟩
  · rw [ho] at h1; cases h1
  clear ho hb hx hu hno hyes
  unfold imgV
  rcases h1 with h1 | ⟨h1, h2⟩ | ⟨h1, h2, h3⟩
  · have HC := Lib.hid (HNO.out h1)
    clear h1 HNO HYES
    go_enter Tryd.func21, Tryd.ntmps21
    go_wp2_with fail
    refine HC.out.mono ?_
    rintro r w1 ⟨⟨v, rfl, hv⟩, u1⟩
    have U1 := Lib.hid u1
    clear hv u1
    simp only [Option.isSome_none, Bool.false_eq_true, if_false]
    go_wp2
    go_ret2
    exact ⟨PutOut.no _ _, HU.out.trans U1.out⟩
  all_goals
    have HC := Lib.hid (HYES.out h1)
    clear h1 HNO HYES
    go_enter Tryd.func21, Tryd.ntmps21
    go_wp2_with fail
    refine HC.out.mono ?_
    rintro r w1 ⟨⟨v, rfl, hv⟩, u1⟩
    have U1 := Lib.hid u1
    clear hv u1
    simp only [Option.isSome_some, if_true]
    go_wp2_with (go_at_call 56; refine (rin_b _ _ _).mono ?_; rintro e w' ⟨rfl, rfl⟩)
    go_ret2
    exact ⟨PutOut.no _ _, HU.out.trans U1.out⟩
set_option maxRecDepth 100000 in
set_option maxHeartbeats 3200000 in
theorem rputImage_yes {w : World} {a : Option Addr} {cap : Nat} {e s : Int} {x : Img} (hb : IsBytes w a x.body) (ho : okImage e s x = true) :
    Calls Tryd.prog 21 #[.int .i64 e, .int .i64 s, imgV x (.slice a x.body.length cap)] w fun r w' => PutOut w.heap.size (putImage e s x) r w' ∧ Upd [] w w' := by
  rw [putImage_some ho]
  have hyes := rputPage_yes (cap := cap) (hb.upd ((Upd.refl [] w).alloc (.cells #[.int .i64 x.num, .int .i64 x.kind, .slice a x.body.length cap] 39)) (by simp)) (by unfold okImage at ho; simp only [Bool.and_eq_true] at ho; exact ho.1)
  rw [putPage_some (by unfold okImage at ho; simp only [Bool.and_eq_true] at ho; exact ho.1)] at hyes
  unfold okImage at ho
  simp only [Bool.and_eq_true] at ho
  obtain ⟨ho, he, hs⟩ := ho
  obtain ⟨h1, h2, h3, h4, h5⟩ := okImg_parts ho
  have he' := inB_true.1 he
  have hs' := inB_true.1 hs
  obtain ⟨num, kind, body⟩ := x
  unfold imgV at hyes
  simp only at h1 h2 h3 h4 h5 hb hyes
  unfold imgV
  simp only
  rw [h5] at hyes ⊢
  obtain ⟨b, o, rfl, hc0⟩ := hb.2 0 (by omega)
  have hbl := World.block_lt_of_cell? _ _ hc0
  clear hc0
  obtain ⟨num, rfl⟩ := Int.eq_ofNat_of_zero_le h3
  obtain ⟨kind, rfl⟩ := Int.eq_ofNat_of_zero_le (show 0 ≤ kind by omega)
  obtain ⟨e, rfl⟩ := Int.eq_ofNat_of_zero_le he'.1
  obtain ⟨s, rfl⟩ := Int.eq_ofNat_of_zero_le hs'.1
  have HB := Lib.hid hb
  have H5 := Lib.hid h5
  have HC := Lib.hid hyes
  have hx := heap_alloc_new w (.cells #[.int .i64 num, .int .i64 kind, .slice (some ⟨b, o, none⟩) 240 cap] 39)
  have HX := Lib.hid hx
  have HU := Lib.hid ((Upd.refl [] w).alloc (.cells #[.int .i64 num, .int .i64 kind, .slice (some ⟨b, o, none⟩) 240 cap] 39))
  clear hb h5 ho hx hyes he' hs'
  go_enter Tryd.func21, Tryd.ntmps21
  go_wp2_with fail
  refine HC.out.mono ?_
  rintro r W ⟨⟨v, rfl, hv⟩, u1⟩
  have HXW := Lib.hid (u1.get HX.out (by simp))
  have HUW := Lib.hid (HU.out.trans u1)
  have HSZ := Lib.hid (show w.heap.size ≤ W.heap.size from (HU.out.trans u1).size)
  have HS : Hid (∀ w', Upd [] W w' → w'.cell? ⟨w.heap.size, 0, none⟩ = some (.int .i64 (num : Int)) ∧ w'.cell? ⟨w.heap.size, 1, none⟩ = some (.int .i64 (kind : Int))) := fun w' u => by
    obtain ⟨k1, _⟩ := cells_of ((u1.get HX.out (by simp) |> fun h => u.get h (by simp)))
    exact ⟨k1 0, k1 1⟩
  clear hv u1 HX HC
  simp only [Option.isSome_some, if_true]
  go_wp2_with (go_at_call 56; refine (rin_b _ _ _).mono ?_; rintro e w' ⟨rfl, rfl⟩)
  have hE0 := HS.out W.drew (Upd.refl [] W).drew
  have HSZD := Lib.hid (show w.heap.size ≤ W.drew.heap.size from HSZ.out)
  have HN0 := Lib.hid (IsOut.nil W.drew w.heap.size)
  first | (go_region_held (fun w' => w'.cell? ⟨w.heap.size, 0, none⟩ = some (.int .i64 (num : Int)) ∧ w'.cell? ⟨w.heap.size, 1, none⟩ = some (.int .i64 (kind : Int))) (first | exact hE0 | exact hE3 | exact hE4) (first
    | (go_at_call 57; (with_reducible refine (rput_k 1 1 rfl HN0.out HSZD.out (by decide) (by decide)).mono ?_); rintro e w3 ⟨v3, rfl, g3, m3⟩; have U3 := Lib.hid (show Upd [] W w3 from (Upd.refl [] W).drew.trans m3.fresh); have hE3 := HS.out _ U3.out; have G3 := Lib.hid g3; have M3 := Lib.hid m3; clear g3 m3)
    | (go_at_call 57; (with_reducible refine (rput_k 2 2 rfl G3.out (by have := HSZ.out; have := U3.out.size; omega) (by decide) (by simp [be_len])).mono ?_); rintro e w4 ⟨v4, rfl, g4, m4⟩; have M4 := Lib.hid (M3.out.trans m4); have U4 := Lib.hid (show Upd [] W w4 from (Upd.refl [] W).drew.trans M4.out.fresh); have hE4 := HS.out _ U4.out; have G4 := Lib.hid g4; clear g4 m4))) | fail
  have HSZ4 := Lib.hid (show w.heap.size ≤ w4.heap.size from Nat.le_trans HSZ.out U4.out.size)
  clear hE0 hE3 hE4 M3 U3 G3
  go_wp2_with fail
  refine (rput_k 4 4 rfl G4.out HSZ4.out (by decide) (by simp [be_len])).mono ?_
  rintro r w5 ⟨v5, rfl, g5, m5⟩
  have G5 := Lib.hid g5
  have M5 := Lib.hid (M4.out.trans m5)
  have HSZ5 := Lib.hid (show w.heap.size ≤ w5.heap.size from Nat.le_trans HSZ4.out m5.upd.size)
  clear g5 m5
  go_wp2_with fail
  refine (rput_k 5 5 rfl G5.out HSZ5.out (by decide) (by simp [be_len])).mono ?_
  rintro r w6 ⟨v6, rfl, g6, m6⟩
  have G6 := Lib.hid g6
  have M6 := Lib.hid (M5.out.trans m6)
  have hU6 : Upd [] W w6 := (Upd.refl [] W).drew.trans (M5.out.trans m6).fresh
  have HSZ6 := Lib.hid (show w.heap.size ≤ w6.heap.size from Nat.le_trans HSZ5.out m6.upd.size)
  have HB6 := Lib.hid (HB.out.upd (HUW.out.trans hU6) (by simp))
  have hcell := (cells_of (hU6.get HXW.out (by simp))).1 2
  simp only [List.getElem?_toArray, List.getElem?_cons_zero, List.getElem?_cons_succ] at hcell
  clear g6 m6 hU6
  go_wp2_with (at_builtin; refine wpList_pushes (p := body) rfl (.tmp 40) (.tmp 43) rfl rfl rfl G6.out ⟨b, o, none⟩ 240 cap H5.out.symm rfl HB6.out.news HB6.out.1 (by have := H5.out; omega) (by simp [be_len]; have := H5.out; omega) HSZ6.out ?_; intro v7 w7 g7 m7; have G7 := Lib.hid g7; have M7 := Lib.hid (M6.out.trans m7); clear g7 m7)
  have e7 : [] ++ be kind 1 ++ be num 2 ++ be e 4 ++ be s 5 ++ body = imageBytes e s ⟨num, kind, body⟩ := by
    unfold imageBytes
    simp
  rw [e7] at G7
  have U7 := Lib.hid (show Upd [] W w7 from (Upd.refl [] W).drew.trans M7.out.fresh)
  have HSZ7 := Lib.hid (Nat.le_trans HSZ.out U7.out.size)
  refine (rframed_any G7.out HSZ7.out (by rw [imageBytes_len]; have := H5.out; simp only; omega)).mono ?_
  rintro r w8 ⟨v8, rfl, g8, m8⟩
  have G8 := Lib.hid g8
  have M8 := Lib.hid (M7.out.trans m8)
  clear g8 m8
  go_wp2
  go_ret2
  exact ⟨PutOut.yes G8.out.ret, HUW.out.trans ((Upd.refl [] W).drew.trans M8.out.fresh)⟩
end Go.Proofs.YtkahpkmofeglgaaDoor
