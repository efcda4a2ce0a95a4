/-
  PROVED HERE: LoginWhole returns true, whatever the offers. Conditions: the texts' lengths are those that the form's reach allows.
-/
import Derived.Test.YtlhdjgibkiffaaaGreatDoorLogZ
namespace Go.Proofs.YtlhdjgibkiffaaaGreatDoor
open Go.RowKit Go.Shelf
theorem firstB (n : Txt) : ({ data := #[73, 110, 105, 116, 105, 97, 116, 111, 114, 78, 97, 109, 101, 61] } : ByteArray) ++ txt n ++ { data := #[0] } = txt (printP (onePs n)) := by
  apply ByteArray.ext
  simp [printP, onePs, kName]
set_option maxRecDepth 100000 in
theorem restB (h d l : Txt) : ({ data := #[72, 101, 97, 100, 101, 114, 68, 105, 103, 101, 115, 116, 61] } : ByteArray) ++ txt h ++ { data := #[0, 68, 97, 116, 97, 68, 105, 103, 101, 115, 116, 61] } ++ txt d ++ { data := #[0, 77, 97, 120, 82, 101, 99, 118, 68, 97, 116, 97, 83, 101, 103, 109, 101, 110, 116, 76, 101, 110, 103, 116, 104, 61] } ++ txt l ++ { data := #[0] } = txt (printP (restPs h d l)) := by
  apply ByteArray.ext
  simp [printP, restPs, kHead, kData, kLen]
theorem conv_txt (w : World) (t : Txt) (ht : t.length ≤ 9223372036854775807) : ∃ cap w', (convert 9 28 (.string (txt t))).run Tryz.prog w = .ok (.slice (some ⟨w.heap.size, 0, none⟩) t.length cap) w' ∧ Upd [] w w' ∧ w.heap.size < w'.heap.size ∧ IsTxtV w' (.slice (some ⟨w.heap.size, 0, none⟩) t.length cap) t := by
  have hs : (txt t).size = t.length := by show t.toArray.size = t.length; simp
  have h := run_bytes_of_string (P := Tryz.prog) w 9 28 5 (txt t) Tryz.underlying9 Tryz.underlying28 Tryz.underlying5
  have hg := grownCap_ge w (txt t).size 0 5
  have hm := grownCap_le_maxLen w (txt t).size 0 5 (by rw [hs]; unfold maxLen; omega)
  generalize grownCap w (txt t).size 0 5 = C at h hg hm
  rw [hs] at h hg
  have hal := alloc_last w.drew (.cells (bytesRow (txt t) C) 5 ((bytesRow (txt t) C).size, (bytesRow (txt t) C).size + 1))
  have hu : Upd [] w (w.drew.alloc (.cells (bytesRow (txt t) C) 5 ((bytesRow (txt t) C).size, (bytesRow (txt t) C).size + 1))) := ((Upd.refl [] w).drew).alloc _
  have hz : w.heap.size < (w.drew.alloc (.cells (bytesRow (txt t) C) 5 ((bytesRow (txt t) C).size, (bytesRow (txt t) C).size + 1))).heap.size := lt_of_get hal
  generalize w.drew.alloc (.cells (bytesRow (txt t) C) 5 ((bytesRow (txt t) C).size, (bytesRow (txt t) C).size + 1)) = w' at h hal hu hz
  refine ⟨C, w', h, hu, hz, some ⟨w.heap.size, 0, none⟩, C, rfl, fun i hi => ⟨w.heap.size, 0, rfl, hz, ?_⟩, hg, fun e => (by cases e), hm⟩
  have hc : w'.cell? ⟨w.heap.size, 0 + i, none⟩ = (bytesRow (txt t) C)[0 + i]? := by simp [World.cell?, show w'.heap[w.heap.size]? = _ from hal]
  rw [hc, Nat.zero_add, bytesRow_at (txt t) C i (by simpa using hi)]
  simp
theorem IsTxtV.updB {w w' : World} {g o n c : Nat} {t : Txt} {T : List Nat} (h : IsTxtV w (.slice (some ⟨g, o, none⟩) n c) t) (u : Upd T w w') (hg : g ∉ T) : IsTxtV w' (.slice (some ⟨g, o, none⟩) n c) t := by
  obtain ⟨p, c', e, h2, h3⟩ := h
  cases e
  refine ⟨_, _, rfl, fun i hi => ?_, h3⟩
  obtain ⟨g', o', k1, k2, k3⟩ := h2 i hi
  cases k1
  exact ⟨_, _, rfl, Nat.lt_of_lt_of_le k2 u.size, (World.cell?_of_block (a := ⟨g, _, none⟩) (u.block g k2 hg)).trans k3⟩
theorem conv_txt2 (w : World) (t : Txt) (ht : t.length ≤ 9223372036854775807) : ∃ g cap w', (convert 9 28 (.string (txt t))).run Tryz.prog w = .ok (.slice (some ⟨g, 0, none⟩) t.length cap) w' ∧ Upd [] w w' ∧ w.heap.size ≤ g ∧ IsTxtV w' (.slice (some ⟨g, 0, none⟩) t.length cap) t := by
  obtain ⟨cap, w', h1, h2, _, h4⟩ := conv_txt w t ht
  exact ⟨_, cap, w', h1, h2, Nat.le_refl _, h4⟩
theorem IsTxtV.setC {w : World} {v : Value} {t : Txt} (h : IsTxtV w v t) {a : Addr} {v0 : Value} (hv : w.cell? a = some v0) (hn : ∀ x, v0 ≠ .int .u8 x) (u : Value) : IsTxtV (w.setCell a u) v t := by
  obtain ⟨p, c, h1, h2, h3⟩ := h
  refine ⟨p, c, h1, fun i hi => ?_, h3⟩
  obtain ⟨g, o, k1, k2, k3⟩ := h2 i hi
  refine ⟨g, o, k1, by simpa [World.setCell] using k2, ?_⟩
  rw [World.cell?_setCell_other]
  · exact k3
  · intro e
    rw [e, k3] at hv
    cases hv
    exact hn _ rfl
theorem take_to2 {W : World} {b mb : Nat} {l l' : Lg} {A : Array Value} {p : Pd} {dv : Value} {a : An} (h : takeP l p = (l', a)) (hl : LgAt W b mb l) (hp : PdIs A p dv) (hd : IsTxtV W dv p.data) (hdl : p.data.length ≤ 1048576) (hal : l.ans.length ≤ 500) (hlt : l.taken ≤ 8) (hV : ∀ W', Upd [b, mb] W W' → Vars W') :
    Calls Tryz.prog 10 #[.pointer (some ⟨b, 0, none⟩), .agg A] W fun e W' => ∃ vp vc m, e = .returned (.agg #[.int .i64 (a.flags : Nat), .int .i64 a.status, .slice vp a.text.length vc, .bool a.done]) ∧ IsTxtV W' (.slice vp a.text.length vc) a.text ∧ LgAt W' b m l' ∧ (m = mb ∨ W.heap.size ≤ m) ∧ Upd [b, mb] W W' := by
  have hx := take_any hl hp hd hdl hal hlt hV
  rw [h] at hx
  refine hx.mono ?_
  rintro e w ⟨⟨v, rfl, hv⟩, ⟨m, hm, hm2⟩, hu⟩
  obtain ⟨vp, vc, rfl, hv2⟩ := id hv
  exact ⟨vp, vc, m, rfl, hv, hm, hm2, hu⟩
abbrev qR (fl : Int) (isid tsih tag : Int) (dp : Option Addr) (dc : Nat) (t : Txt) : Rw := ⟨3, true, fl, 0, isid, tsih, tag, 0, 0, 0, 0, 0, 0, 0, 0, 0, 0, 0, 0, 0, 0, 0, 0, 0, 0, 0, dp, dc, t⟩
theorem req_cells (isid tsih tag : Int) (dp : Option Addr) (dc : Nat) : (#[.int .i64 3, .bool true, .int .i64 135, .int .i64 0, .int .i64 isid, .int .i64 tsih, .int .i64 tag, .int .i64 0, .int .i64 0, .int .i64 0, .int .u8 0, .int .u8 0, .int .u8 0, .int .u8 0, .int .u8 0, .int .u8 0, .int .u8 0, .int .u8 0, .int .u8 0, .int .u8 0, .int .u8 0, .int .u8 0, .int .u8 0, .int .u8 0, .int .u8 0, .int .u8 0, .slice dp 41 dc] : Array Value) = (rwV (qR 135 isid tsih tag dp dc reqT)).toArray := by
  have e : reqT.length = 41 := by decide
  simp [e]
theorem request_lit (w : World) : Calls Tryz.prog 13 #[] w fun e w' => (∃ dp dc, e = .returned (.agg #[.int .i64 3, .bool true, .int .i64 135, .int .i64 0, .int .i64 7, .int .i64 0, .int .i64 1, .int .i64 0, .int .i64 0, .int .i64 0, .int .u8 0, .int .u8 0, .int .u8 0, .int .u8 0, .int .u8 0, .int .u8 0, .int .u8 0, .int .u8 0, .int .u8 0, .int .u8 0, .int .u8 0, .int .u8 0, .int .u8 0, .int .u8 0, .int .u8 0, .int .u8 0, .slice dp 41 dc])) ∧ Below w.heap.size w w' := by
  refine (request_any w).mono ?_
  rintro e w' ⟨⟨dp, dc, rfl, _⟩, hb⟩
  exact ⟨⟨dp, dc, by rw [req_cells 7 0 1 dp dc]⟩, hb⟩
theorem box_ids {w : World} {P : Nat} {isid tsih tag : Int} {dp : Option Addr} {dc : Nat} (h : w.heap[P]? = some (.cells #[.int .i64 3, .bool true, .int .i64 135, .int .i64 0, .int .i64 7, .int .i64 0, .int .i64 1, .int .i64 0, .int .i64 0, .int .i64 0, .int .u8 0, .int .u8 0, .int .u8 0, .int .u8 0, .int .u8 0, .int .u8 0, .int .u8 0, .int .u8 0, .int .u8 0, .int .u8 0, .int .u8 0, .int .u8 0, .int .u8 0, .int .u8 0, .int .u8 0, .int .u8 0, .slice dp 41 dc] 37 (0, 0))) :
    (((w.setCell ⟨P, 4, none⟩ (.int .i64 isid)).setCell ⟨P, 5, none⟩ (.int .i64 tsih)).setCell ⟨P, 6, none⟩ (.int .i64 tag)).heap[P]? = some (.cells (rwV (qR 135 isid tsih tag dp dc reqT)).toArray 37 (0, 0)) := by
  rw [← req_cells]
  exact heap_setCell_same _ P 6 _ _ _ (heap_setCell_same _ P 5 _ _ _ (heap_setCell_same w P 4 _ _ _ h))
theorem q_is (fl : Nat) (hf : fl < 256) (isid tsih tag : Int) (dp : Option Addr) (dc : Nat) (t : Txt) : PdIs (rwV (qR (fl : Nat) isid tsih tag dp dc t)).toArray (wq fl isid tsih tag t) (.slice dp t.length dc) :=
  ⟨rfl, rfl, rfl, rfl, rfl, rfl, rfl, rfl, rfl, rfl, hf, (by decide : (0 : Nat) < 65536)⟩
/-- The PDU's box, its data being set. -/
theorem box_data {w : World} {P : Nat} {fl isid tsih tag : Int} {dp dq : Option Addr} {dc dk : Nat} {t u : Txt} (h : w.heap[P]? = some (.cells (rwV (qR fl isid tsih tag dp dc t)).toArray 37 (0, 0))) :
    (w.setCell ⟨P, 26, none⟩ (.slice dq u.length dk)).heap[P]? = some (.cells (rwV (qR fl isid tsih tag dq dk u)).toArray 37 (0, 0)) := by
  rw [heap_setCell_same w P 26 _ _ _ h]
  simp
theorem box_flags {w : World} {P : Nat} {fl fm isid tsih tag : Int} {dp : Option Addr} {dc : Nat} {t : Txt} (h : w.heap[P]? = some (.cells (rwV (qR fl isid tsih tag dp dc t)).toArray 37 (0, 0))) :
    (w.setCell ⟨P, 2, none⟩ (.int .i64 fm)).heap[P]? = some (.cells (rwV (qR fm isid tsih tag dp dc t)).toArray 37 (0, 0)) := by
  rw [heap_setCell_same w P 2 _ _ _ h]
  simp
set_option maxRecDepth 100000 in
set_option maxHeartbeats 16000000 in
theorem whole_any {w : World} (n h d l : Txt) (isid tsih tag : Int) (hn : n.length ≤ 140737488355327) (hh : h.length ≤ 140737488355327) (hd : d.length ≤ 140737488355327) (hl : l.length ≤ 140737488355327) (hV : ∀ W, Below w.heap.size w W → Vars W) :
    Calls Tryz.prog 4 #[.string (txt n), .string (txt h), .string (txt d), .string (txt l), .int .i64 isid, .int .i64 tsih, .int .i64 tag] w fun e w' => e = .returned (.bool true) ∧ Below w.heap.size w w' := by
  have HV := Lib.hid hV
  clear hV
  go_enter Tryz.func4, Tryz.ntmps4
  go_wp2_with fail
  refine (known_any _ HV.out).mono ?_
  rintro e w1 ⟨rfl, hb1⟩
  have HB1 := Lib.hid hb1
  clear hb1
  have hsz : ∀ a : Txt, (txt a).size = a.length := fun a => rfl
  go_wp2_with fail
  rw [firstB, restB]
  clear hsz
  refine (raw_any _ n (by omega)).mono ?_
  rintro e w2 ⟨rfl, hb2⟩
  have HB2 := Lib.hid (HB1.out.trans (hb2.mono HB1.out.size))
  clear hb2 HB1
  cases hrn : rawP n
  case true =>
    go_wp2_with fail
    go_ret
    exact ⟨rfl, HB2.out⟩
  go_wp2_with fail
  refine (raw_any _ h (by omega)).mono ?_
  rintro e w3 ⟨rfl, hb3⟩
  have HB3 := Lib.hid (HB2.out.trans (hb3.mono HB2.out.size))
  clear hb3 HB2
  cases hrh : rawP h
  case true =>
    go_wp2_with fail
    go_ret
    exact ⟨rfl, HB3.out⟩
  go_wp2_with fail
  refine (raw_any _ d (by omega)).mono ?_
  rintro e w4 ⟨rfl, hb4⟩
  have HB4 := Lib.hid (HB3.out.trans (hb4.mono HB3.out.size))
  clear hb4 HB3
  cases hrd : rawP d
  case true =>
    go_wp2_with fail
    go_ret
    exact ⟨rfl, HB4.out⟩
  go_wp2_with fail
  refine (raw_any _ l (by omega)).mono ?_
  rintro e w5 ⟨rfl, hb5⟩
  have HB5 := Lib.hid (HB4.out.trans (hb5.mono HB4.out.size))
  clear hb5 HB4
  cases hrl : rawP l
  case true =>
    go_wp2_with fail
    go_ret
    exact ⟨rfl, HB5.out⟩
  by_cases hne : n = []
  case pos =>
    subst hne
    go_wp2_with fail
    go_ret
    exact ⟨rfl, HB5.out⟩
  have hne2 : List.isEmpty n = false := by cases n with | nil => exact absurd rfl hne | cons => rfl
  obtain ⟨x, z, a, hx, hz, hxz⟩ := whole_plain hrn hrh hrd hrl hne isid tsih tag
  have hy := take_y hrn hne isid tsih tag
  have HX := Lib.hid hx
  have HZ := Lib.hid hz
  have HY := Lib.hid hy
  have HXZ := Lib.hid hxz
  have HFL := Lib.hid (⟨(raw_val hrn).2, (raw_val hrh).2, (raw_val hrd).2, (raw_val hrl).2⟩ : n.length ≤ 200 ∧ h.length ≤ 200 ∧ d.length ≤ 200 ∧ l.length ≤ 200)
  clear hx hz hxz hy hrn hrh hrd hrl hne
  generalize hF : printP (onePs n) = F at *
  generalize hR : printP (restPs h d l) = R at *
  have HFR := Lib.hid (show F.length ≤ 300 ∧ R.length ≤ 700 by
    have h1 := HFL.out
    subst hF
    subst hR
    simp only [printP_length, onePs, restPs, total_cons, total_nil, kName, kHead, kData, kLen, List.length_cons, List.length_nil]
    omega)
  clear hF hR
  go_wp2_with fail
  refine (request_lit _).mono ?_
  rintro e w6 ⟨⟨dp, dc, rfl⟩, hb6⟩
  have HB6 := Lib.hid (HB5.out.trans (hb6.mono HB5.out.size))
  clear hb6 HB5
  have hz6 := alloc_last w6 (.cells #[.int .i64 0, .bool false, .int .i64 0, .int .i64 0, .int .i64 0, .int .i64 0, .int .i64 0, .int .i64 0, .int .i64 0, .int .i64 0, .int .u8 0, .int .u8 0, .int .u8 0, .int .u8 0, .int .u8 0, .int .u8 0, .int .u8 0, .int .u8 0, .int .u8 0, .int .u8 0, .int .u8 0, .int .u8 0, .int .u8 0, .int .u8 0, .int .u8 0, .int .u8 0, .slice none 0 0] 37)
  have HZ6 := Lib.hid hz6
  have HAZ := Lib.hid (HB6.out.alloc HB6.out.size (.cells #[.int .i64 0, .bool false, .int .i64 0, .int .i64 0, .int .i64 0, .int .i64 0, .int .i64 0, .int .i64 0, .int .i64 0, .int .i64 0, .int .u8 0, .int .u8 0, .int .u8 0, .int .u8 0, .int .u8 0, .int .u8 0, .int .u8 0, .int .u8 0, .int .u8 0, .int .u8 0, .int .u8 0, .int .u8 0, .int .u8 0, .int .u8 0, .int .u8 0, .int .u8 0, .slice none 0 0] 37))
  clear hz6
  go_wp2_with (first
  | (show wpList _ _ _ ({ dst := _, op := .store 37 (.tmp 17) (.tmp 55), type := _, pos := _, after := _, guard := _ } :: _) _ _; refine wpList_store_whole rfl 37 (.tmp 17) (.tmp 55) rfl w6.heap.size _ rfl rfl _ _ HZ6.out infoPdu rfl rfl ?_; intro wb hgb hub hzb
     have c4 := (cells_of hgb).1 4
     have c5 := (cells_of hgb).1 5
     have c6 := (cells_of hgb).1 6
     have f4 := (cells_of hgb).2 4
     have f5 := (cells_of hgb).2 5
     have f6 := (cells_of hgb).2 6
     simp only [List.getElem?_toArray, List.getElem?_cons_zero, List.getElem?_cons_succ] at c4 c5 c6
     have hux : Upd [w6.heap.size] wb (((wb.setCell ⟨w6.heap.size, 4, none⟩ (.int .i64 isid)).setCell ⟨w6.heap.size, 5, none⟩ (.int .i64 tsih)).setCell ⟨w6.heap.size, 6, none⟩ (.int .i64 tag)) := (((Upd.refl [w6.heap.size] wb).setCell (.inl (by simp)) _).setCell (.inl (by simp)) _).setCell (.inl (by simp)) _
     have HP6 := Lib.hid (box_ids (isid := isid) (tsih := tsih) (tag := tag) hgb)
     have HAL6 := Lib.hid (HAZ.out.trans ((hub.trans hux).below HAZ.out.size (fun y hy => by have := HB6.out.size; simp at hy; omega)))
     have hsb : w6.heap.size < (((wb.setCell ⟨w6.heap.size, 4, none⟩ (.int .i64 isid)).setCell ⟨w6.heap.size, 5, none⟩ (.int .i64 tsih)).setCell ⟨w6.heap.size, 6, none⟩ (.int .i64 tag)).heap.size := lt_of_get HP6.out
     have HSB := Lib.hid hsb
     clear hgb hub hzb hux hsb HZ6 HAZ))
  refine (new_any _).mono ?_
  rintro e w7 ⟨b1, m1, rfl, hb1, hm1, hl1, hb7⟩
  have HP7 := Lib.hid ((Upd.of_below hb7).get HP6.out (by simp))
  have HB7 := Lib.hid (HAL6.out.trans (hb7.mono HAL6.out.size))
  have HL1 := Lib.hid hl1
  have hw6 : w.heap.size ≤ w6.heap.size := HB6.out.size
  have hb1' : w6.heap.size < b1 ∧ w6.heap.size < m1 := by have := HSB.out; omega
  have HS1 := Lib.hid hb1'
  clear hb1 hm1 hl1 hb7 HB6 HAL6 HP6 hb1'
  go_wp2_with fail
  refine (new_any _).mono ?_
  rintro e w8 ⟨b2, m2, rfl, hb2, hm2, hl2, hb8⟩
  have HP8 := Lib.hid ((Upd.of_below hb8).get HP7.out (by simp))
  have HB8 := Lib.hid (HB7.out.trans (hb8.mono HB7.out.size))
  have HL1b := Lib.hid (HL1.out.below hb8)
  have HL2 := Lib.hid hl2
  have hs12 : b1 < w7.heap.size ∧ m1 < w7.heap.size ∧ w7.heap.size ≤ b2 ∧ w7.heap.size ≤ m2 ∧ b2 < w8.heap.size ∧ m2 < w8.heap.size ∧ w6.heap.size < b1 ∧ w6.heap.size < m1 := ⟨HL1.out.lt, HL1.out.ltm, hb2, hm2, hl2.lt, hl2.ltm, HS1.out⟩
  have HS := Lib.hid hs12
  clear hb2 hm2 hl2 hb8 HL1 HB7 HP7 HS1 hs12
  obtain ⟨FR, hFR⟩ : ∃ y, y = F ++ R := ⟨_, rfl⟩
  have HFRL := Lib.hid (show FR.length ≤ 1000 by rw [hFR, List.length_append]; have := HFR.out; omega)
  obtain ⟨cap9, w9, hcv, hu9, hs9, ht9⟩ := conv_txt w8 FR (by have := HFRL.out; omega)
  have htx : txt FR = txt F ++ txt R := by rw [hFR, txt_append]
  rw [htx] at hcv
  have HP9 := Lib.hid (hu9.get HP8.out (by simp))
  have hbd := box_data (dq := some ⟨w8.heap.size, 0, none⟩) (dk := cap9) (u := FR) HP9.out
  have hu10 : Upd [w6.heap.size] w9 (w9.setCell ⟨w6.heap.size, 26, none⟩ (.slice (some ⟨w8.heap.size, 0, none⟩) FR.length cap9)) := (Upd.refl [w6.heap.size] w9).setCell (.inl (by simp)) _
  obtain ⟨w10, hw10⟩ : ∃ y, y = w9.setCell ⟨w6.heap.size, 26, none⟩ (.slice (some ⟨w8.heap.size, 0, none⟩) FR.length cap9) := ⟨_, rfl⟩
  rw [← hw10] at hbd hu10
  have HW10 := Lib.hid hw10
  have HP10 := Lib.hid hbd
  have hu810 : Upd [w6.heap.size] w8 w10 := (hu9.mono (by simp)).trans hu10
  have HB10 := Lib.hid (HB8.out.trans (hu810.below HB8.out.size (fun y hy => by simp at hy; omega)))
  have HT10 := Lib.hid (ht9.updB hu10 (by have := HS.out; simp; omega))
  have HL110 := Lib.hid (HL1b.out.upd hu810 (by have := HS.out; simp; omega) (by have := HS.out; simp; omega))
  have HL210 := Lib.hid (HL2.out.upd hu810 (by have := HS.out; simp; omega) (by have := HS.out; simp; omega))
  have hs10 : w8.heap.size ≤ w10.heap.size := hu810.size
  have HS10 := Lib.hid hs10
  have hc9 := cells_of HP9.out
  have c26 := hc9.1 26
  have f26 := hc9.2 26
  simp only [List.getElem?_toArray, List.getElem?_cons_zero, List.getElem?_cons_succ] at c26
  have hsF : (txt F).size = F.length := rfl
  have hsR : (txt R).size = R.length := rfl
  have hlF := HFR.out.1
  have hlR := HFR.out.2
  have HTAKE1 := Lib.hid (take_to2 HX.out HL110.out (q_is 135 (by decide) isid tsih tag (some ⟨w8.heap.size, 0, none⟩) cap9 (F ++ R)) (hFR ▸ HT10.out) (by have := HFRL.out; rw [← hFR]; show FR.length ≤ _; omega) (by decide) (by decide) (fun W' hW => HV.out W' (HB10.out.trans (hW.below HB10.out.size (fun y hy => by have := HS.out; simp at hy; omega)))))
  rw [← hFR] at HTAKE1
  clear hw10 hbd hu10 hu810 hs10 hu9 ht9 htx hFR HL1b HL2 HB8 HP8 HX
  go_wp2_with (rw [← HW10.out]; show wpList _ _ _ ({ dst := _, op := .load 37 (.tmp 17), type := _, pos := _, after := _, guard := _ } :: _) _ _; refine wpList_load_cells rfl 37 (.tmp 17) rfl w6.heap.size 0 27 rfl (rwV (qR 135 isid tsih tag (some ⟨w8.heap.size, 0, none⟩) cap9 FR)) _ (cells_list HP10.out) Tryz.underlying37 rfl infoPdu rfl ?_)
  refine HTAKE1.out.mono ?_
  rintro e w11 ⟨xp, xc, m1b, rfl, hxt, hl11, hm11, hu11⟩
  have HP11 := Lib.hid (hu11.get HP10.out (by have := HS.out; simp; omega))
  have HB11 := Lib.hid (HB10.out.trans (hu11.below HB10.out.size (fun y hy => by have := HS.out; simp at hy; omega)))
  have hm1b : m1b = m1 ∨ w8.heap.size ≤ m1b := by have := HS10.out; omega
  have hlt11 : m1b < w11.heap.size ∧ b1 < w11.heap.size ∧ w8.heap.size ≤ w11.heap.size := ⟨hl11.ltm, hl11.lt, by have := HS10.out; have := hu11.size; omega⟩
  have HL11 := Lib.hid hl11
  have HL211 := Lib.hid (HL210.out.upd hu11 (by have := HS.out; simp; omega) (by have := HS.out; simp; omega))
  have HXT := Lib.hid hxt
  have HM1B := Lib.hid hm1b
  have HLT11 := Lib.hid hlt11
  have hp0 : w6.heap.size < w11.heap.size := lt_of_get HP11.out
  have hc11 := cells_of HP11.out
  have c2 := hc11.1 2
  have f2 := hc11.2 2
  simp only [List.getElem?_toArray, List.getElem?_cons_zero, List.getElem?_cons_succ] at c2
  have hu12 : Upd [w6.heap.size] w11 ((w11.setCell ⟨w6.heap.size, 2, none⟩ (.int .i64 129)).alloc (.cells #[.int .i64 (a.flags : Nat), .int .i64 a.status, .slice xp a.text.length xc, .bool a.done] 35)) := ((Upd.refl [w6.heap.size] w11).setCell (.inl (by simp)) _).alloc _
  have hp12 := ((Upd.refl [] (w11.setCell ⟨w6.heap.size, 2, none⟩ (.int .i64 129))).alloc (.cells #[.int .i64 (a.flags : Nat), .int .i64 a.status, .slice xp a.text.length xc, .bool a.done] 35)).get (box_flags (fm := 129) HP11.out) (by simp)
  have hx12 := alloc_last (w11.setCell ⟨w6.heap.size, 2, none⟩ (.int .i64 129)) (.cells #[.int .i64 (a.flags : Nat), .int .i64 a.status, .slice xp a.text.length xc, .bool a.done] 35)
  rw [show (w11.setCell ⟨w6.heap.size, 2, none⟩ (.int .i64 129)).heap.size = w11.heap.size by simp [World.setCell]] at hx12
  obtain ⟨g13, cap13, w13, hcv13, hu13, hg13, ht13⟩ := conv_txt2 ((w11.setCell ⟨w6.heap.size, 2, none⟩ (.int .i64 129)).alloc (.cells #[.int .i64 (a.flags : Nat), .int .i64 a.status, .slice xp a.text.length xc, .bool a.done] 35)) F (by omega)
  have hg13' : w11.heap.size < g13 := by have : ((w11.setCell ⟨w6.heap.size, 2, none⟩ (.int .i64 129)).alloc (.cells #[.int .i64 (a.flags : Nat), .int .i64 a.status, .slice xp a.text.length xc, .bool a.done] 35)).heap.size = w11.heap.size + 1 := by simp [World.setCell]
                                         omega
  have hp13 := hu13.get hp12 (by simp)
  have hu14 : Upd [w6.heap.size] w13 (w13.setCell ⟨w6.heap.size, 26, none⟩ (.slice (some ⟨g13, 0, none⟩) F.length cap13)) := (Upd.refl [w6.heap.size] w13).setCell (.inl (by simp)) _
  have hbd14 := box_data (dq := some ⟨g13, 0, none⟩) (dk := cap13) (u := F) hp13
  obtain ⟨w14, hw14⟩ : ∃ y, y = w13.setCell ⟨w6.heap.size, 26, none⟩ (.slice (some ⟨g13, 0, none⟩) F.length cap13) := ⟨_, rfl⟩
  rw [← hw14] at hu14 hbd14
  have HW14 := Lib.hid hw14
  have hw14x := hw14
  have HP14 := Lib.hid hbd14
  have hu1114 : Upd [w6.heap.size] w11 w14 := (hu12.trans (hu13.mono (by simp))).trans hu14
  have hx14 := ((hu13.mono (T := [w6.heap.size]) (by simp)).trans hu14).get hx12 (by simp; omega)
  have HX14 := Lib.hid hx14
  have HB14 := Lib.hid (HB11.out.trans (hu1114.below HB11.out.size (fun y hy => by have := hw6; simp at hy; omega)))
  have HT14 := Lib.hid (ht13.updB hu14 (by simp; omega))
  have HL14 := Lib.hid (HL11.out.upd hu1114 (by have := HS.out; simp; omega) (by have := HS.out; have := HM1B.out; simp; omega))
  have HL214 := Lib.hid (HL211.out.upd hu1114 (by have := HS.out; simp; omega) (by have := HS.out; simp; omega))
  have hc13 := cells_of hp13
  have d26 := hc13.1 26
  have e26 := hc13.2 26
  simp only [List.getElem?_toArray, List.getElem?_cons_zero, List.getElem?_cons_succ] at d26
  have HXT14 := Lib.hid (show IsTxtV w14 (.slice xp a.text.length xc) a.text from by rw [hw14x]; exact ((((HXT.out.setC c2 (fun _ e => by cases e) _).below ((Below.refl _ _).alloc (Nat.le_refl _) _)).below hu13.all).setC d26 (fun _ e => by cases e) _))
  have HTAKE2 := Lib.hid (take_to HY.out HL214.out (q_is 129 (by decide) isid tsih tag (some ⟨g13, 0, none⟩) cap13 F) HT14.out (by show F.length ≤ _; omega) (by decide) (by decide) (fun W' hW => HV.out W' (HB14.out.trans (hW.below HB14.out.size (fun y hy => by have := HS.out; simp at hy; omega)))))
  have hs14 : w11.heap.size < w14.heap.size := lt_of_get hx14
  have HS14 := Lib.hid hs14
  clear hw14x hm11 hu11 hl11 hxt hm1b hlt11 hc11 hu12 hp12 hx12 hu13 ht13 hp13 hu14 hbd14 hw14 hu1114 hx14 hc13 hs14 hg13 hg13' HL110 HL210 HB10 HP10 HT10 hcv c26 f26 hc9 hs9
  go_wp2_with (rw [← HW14.out]; show wpList _ _ _ ({ dst := _, op := .load 37 (.tmp 17), type := _, pos := _, after := _, guard := _ } :: _) _ _; refine wpList_load_cells rfl 37 (.tmp 17) rfl w6.heap.size 0 27 rfl (rwV (qR 129 isid tsih tag (some ⟨g13, 0, none⟩) cap13 F)) _ (cells_list HP14.out) Tryz.underlying37 rfl infoPdu rfl ?_)
  refine HTAKE2.out.mono ?_
  rintro e w15 ⟨yp, yc, m2b, rfl, -, hl15, hm15, hu15⟩
  simp only [List.length_nil]
  rw [show ((129 : Nat) : Int) = 129 from rfl]
  have HP15 := Lib.hid (hu15.get HP14.out (by have := HS.out; simp; omega))
  have HB15 := Lib.hid (HB14.out.trans (hu15.below HB14.out.size (fun y hy => by have := HS.out; simp at hy; omega)))
  have hm2b : m2b = m2 ∨ w11.heap.size < m2b := by have := HS14.out; omega
  have HM2B := Lib.hid hm2b
  have HL115 := Lib.hid (HL14.out.upd hu15 (by have := HS.out; simp; omega) (by have := HS.out; have := HM1B.out; simp; omega))
  have HL215 := Lib.hid hl15
  have HX15 := Lib.hid (hu15.get HX14.out (by have := HS.out; have := HLT11.out; simp; omega))
  have HXT15 := Lib.hid (HXT14.out.updT hu15 HL214.out.noU8)
  have hs15 : w11.heap.size < w15.heap.size := lt_of_get HX15.out
  have HS15 := Lib.hid hs15
  have hp5 : w6.heap.size < w15.heap.size := lt_of_get HP15.out
  have hc15 := cells_of HP15.out
  have r2 := hc15.1 2
  have q2 := hc15.2 2
  simp only [List.getElem?_toArray, List.getElem?_cons_zero, List.getElem?_cons_succ] at r2
  have hu16 : Upd [w6.heap.size] w15 ((w15.setCell ⟨w6.heap.size, 2, none⟩ (.int .i64 135)).alloc (.cells #[.int .i64 129, .int .i64 0, .slice yp 0 yc, .bool false] 35)) := ((Upd.refl [w6.heap.size] w15).setCell (.inl (by simp)) _).alloc _
  have hp16 := ((Upd.refl [] (w15.setCell ⟨w6.heap.size, 2, none⟩ (.int .i64 135))).alloc (.cells #[.int .i64 129, .int .i64 0, .slice yp 0 yc, .bool false] 35)).get (box_flags (fm := 135) HP15.out) (by simp)
  have hx16 := alloc_last (w15.setCell ⟨w6.heap.size, 2, none⟩ (.int .i64 135)) (.cells #[.int .i64 129, .int .i64 0, .slice yp 0 yc, .bool false] 35)
  rw [show (w15.setCell ⟨w6.heap.size, 2, none⟩ (.int .i64 135)).heap.size = w15.heap.size by simp [World.setCell]] at hx16
  obtain ⟨g17, cap17, w17, hcv17, hu17, hg17, ht17⟩ := conv_txt2 ((w15.setCell ⟨w6.heap.size, 2, none⟩ (.int .i64 135)).alloc (.cells #[.int .i64 129, .int .i64 0, .slice yp 0 yc, .bool false] 35)) R (by omega)
  have hg17' : w15.heap.size < g17 := by have : ((w15.setCell ⟨w6.heap.size, 2, none⟩ (.int .i64 135)).alloc (.cells #[.int .i64 129, .int .i64 0, .slice yp 0 yc, .bool false] 35)).heap.size = w15.heap.size + 1 := by simp [World.setCell]
                                         omega
  have hp17 := hu17.get hp16 (by simp)
  have hu18 : Upd [w6.heap.size] w17 (w17.setCell ⟨w6.heap.size, 26, none⟩ (.slice (some ⟨g17, 0, none⟩) R.length cap17)) := (Upd.refl [w6.heap.size] w17).setCell (.inl (by simp)) _
  have hbd18 := box_data (dq := some ⟨g17, 0, none⟩) (dk := cap17) (u := R) hp17
  obtain ⟨w18, hw18⟩ : ∃ y, y = w17.setCell ⟨w6.heap.size, 26, none⟩ (.slice (some ⟨g17, 0, none⟩) R.length cap17) := ⟨_, rfl⟩
  rw [← hw18] at hu18 hbd18
  have HW18 := Lib.hid hw18
  have hw18x := hw18
  have HP18 := Lib.hid hbd18
  have hu1518 : Upd [w6.heap.size] w15 w18 := (hu16.trans (hu17.mono (by simp))).trans hu18
  have HY18 := Lib.hid (((hu17.mono (T := [w6.heap.size]) (by simp)).trans hu18).get hx16 (by simp; omega))
  have HX18 := Lib.hid (hu1518.get HX15.out (by simp; omega))
  have HB18 := Lib.hid (HB15.out.trans (hu1518.below HB15.out.size (fun y hy => by have := hw6; simp at hy; omega)))
  have HT18 := Lib.hid (ht17.updB hu18 (by simp; omega))
  have HL118 := Lib.hid (HL115.out.upd hu1518 (by have := HS.out; simp; omega) (by have := HS.out; have := HM1B.out; simp; omega))
  have HL218 := Lib.hid (HL215.out.upd hu1518 (by have := HS.out; simp; omega) (by have := HS.out; have := HM2B.out; simp; omega))
  have hc17 := cells_of hp17
  have s26 := hc17.1 26
  have u26 := hc17.2 26
  simp only [List.getElem?_toArray, List.getElem?_cons_zero, List.getElem?_cons_succ] at s26
  have HXT18 := Lib.hid (show IsTxtV w18 (.slice xp a.text.length xc) a.text from by rw [hw18x]; exact ((((HXT15.out.setC r2 (fun _ e => by cases e) _).below ((Below.refl _ _).alloc (Nat.le_refl _) _)).below hu17.all).setC s26 (fun _ e => by cases e) _))
  have HTAKE3 := Lib.hid (take_to2 HZ.out HL218.out (q_is 135 (by decide) isid tsih tag (some ⟨g17, 0, none⟩) cap17 R) HT18.out (by show R.length ≤ _; omega) (by simp [yL]) (by simp [yL]) (fun W' hW => HV.out W' (HB18.out.trans (hW.below HB18.out.size (fun y hy => by have := HS.out; have := HM2B.out; have := HLT11.out; simp at hy; omega)))))
  have hs18 : w15.heap.size < w18.heap.size := lt_of_get HY18.out
  have HS18 := Lib.hid hs18
  clear hw18x hm15 hu15 hl15 hm2b hc15 hu16 hp16 hx16 hu17 ht17 hp17 hu18 hbd18 hw18 hu1518 hc17 hs15 hs18 hg17 hg17' c2 f2 hcv13 d26 e26
  go_wp2_with (rw [← HW18.out]; show wpList _ _ _ ({ dst := _, op := .load 37 (.tmp 17), type := _, pos := _, after := _, guard := _ } :: _) _ _; refine wpList_load_cells rfl 37 (.tmp 17) rfl w6.heap.size 0 27 rfl (rwV (qR 135 isid tsih tag (some ⟨g17, 0, none⟩) cap17 R)) _ (cells_list HP18.out) Tryz.underlying37 rfl infoPdu rfl ?_)
  refine HTAKE3.out.mono ?_
  rintro e w19 ⟨zp, zc, m2c, rfl, hzt, hl19, hm19, hu19⟩
  have hmm2 : m2b < w15.heap.size := HL215.out.ltm
  have HB19 := Lib.hid (HB18.out.trans (hu19.below HB18.out.size (fun y hy => by have := HS.out; have := HM2B.out; have := HLT11.out; simp at hy; omega)))
  have HL119 := Lib.hid (HL118.out.upd hu19 (by have := HS.out; have := HM2B.out; have := HLT11.out; simp; omega) (by have := HS.out; have := HM2B.out; have := HM1B.out; have := HLT11.out; simp; omega))
  have HL219 := Lib.hid hl19
  have hx19 := hu19.get HX18.out (by have := HS.out; have := HM2B.out; have := HLT11.out; simp; omega)
  have hy19 := hu19.get HY18.out (by have := HS.out; have := HM2B.out; have := HLT11.out; have := HS15.out; simp; omega)
  have HXT19 := Lib.hid (HXT18.out.updT hu19 HL218.out.noU8)
  have HZT := Lib.hid hzt
  have hs19 : w11.heap.size < w19.heap.size := lt_of_get hx19
  have hs19b : w15.heap.size < w19.heap.size := lt_of_get hy19
  have hxc := (cells_of hx19).1
  have hyc := (cells_of hy19).1
  have x0 := hxc 0
  have x1 := hxc 1
  have x2 := hxc 2
  have x3 := hxc 3
  have y0 := hyc 0
  have y1 := hyc 1
  have y2 := hyc 2
  have y3 := hyc 3
  simp only [List.getElem?_toArray, List.getElem?_cons_zero, List.getElem?_cons_succ] at x0 x1 x2 x3 y0 y1 y2 y3
  have HX19 := Lib.hid hx19
  have HSA := Lib.hid (bsame_any (HXT19.out.below ((Below.refl _ _).alloc (Nat.le_refl _) (.cells #[.int .i64 (a.flags : Nat), .int .i64 a.status, .slice zp a.text.length zc, .bool a.done] 35))) (HZT.out.below ((Below.refl _ _).alloc (Nat.le_refl _) (.cells #[.int .i64 (a.flags : Nat), .int .i64 a.status, .slice zp a.text.length zc, .bool a.done] 35))))
  rw [decide_eq_true (rfl : a.text = a.text)] at HSA
  clear hmm2 hl19 hx19 hy19 hzt hxc hyc hu19 hm19 r2 q2 s26 u26 hcv17
  go_wp2_with fail
  refine HSA.out.mono ?_
  rintro e w20 ⟨rfl, hb20⟩
  have hu20 : Upd [] w19 w20 := ((Upd.refl [] w19).alloc _).trans (Upd.of_below hb20)
  have HB20 := Lib.hid (HB19.out.trans (hu20.below HB19.out.size (by simp)))
  have x1b := (cells_of (hu20.get HX19.out (by simp))).1 1
  simp only [List.getElem?_toArray, List.getElem?_cons_zero, List.getElem?_cons_succ] at x1b
  have HL120 := Lib.hid (HL119.out.upd hu20 (by simp) (by simp))
  have HL220 := Lib.hid (HL219.out.upd hu20 (by simp) (by simp))
  clear hb20 hu20
  by_cases hst : a.status = 0
  case neg =>
    have hst2 : (a.status != 0) = true := bne_iff_ne.2 hst
    clear hst
    go_wp2_with fail
    go_ret
    exact ⟨rfl, HB20.out⟩
  case pos =>
    have hxz := HXZ.out hst
    have hst2 : (a.status != 0) = false := by rw [hst]; rfl
    clear hst
    have HTM := Lib.hid hxz
    clear hxz
    go_wp2_with fail
    refine (terms_any HL120.out).mono ?_
    rintro e w21 ⟨rfl, hb21⟩
    have HB21 := Lib.hid (HB20.out.trans (hb21.mono HB20.out.size))
    have HL221 := Lib.hid (HL220.out.below hb21)
    clear hb21
    go_wp2_with fail
    refine (terms_any HL221.out).mono ?_
    rintro e w22 ⟨rfl, hb22⟩
    have HB22 := Lib.hid (HB21.out.trans (hb22.mono HB21.out.size))
    clear hb22
    rw [← HTM.out]
    go_wp2_with fail
    go_ret
    exact ⟨rfl, HB22.out⟩
end Go.Proofs.YtlhdjgibkiffaaaGreatDoor
