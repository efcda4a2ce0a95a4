/-
  PROVED HERE: LoginEnds returns true, whatever the PDUs. Conditions: their data are of at most 1048576 bytes.
-/
import Derived.Test.YtlhdjgibkiffaaaGreatDoorLogJ
namespace Go.Proofs.YtlhdjgibkiffaaaGreatDoor
open Go.RowKit Go.Shelf
set_option maxRecDepth 100000 in
set_option maxHeartbeats 16000000 in
theorem ends_any {w : World} {v0 : Value} {rows : List Rw} (h0 : IsRws w v0 rows) (hl : rows.length ≤ 1048576) (hd : ∀ i (h : i < rows.length), rows[i].data.length ≤ 1048576) (hV : ∀ W, Below w.heap.size w W → Vars W) :
    Calls Tryz.prog 3 #[v0] w fun e w' => e = .returned (.bool true) ∧ Below w.heap.size w w' := by
  obtain ⟨p, cap, rfl, hle, hcap, hrow⟩ := h0
  have HROW := Lib.hid hrow
  have HV := Lib.hid hV
  have HD := Lib.hid hd
  clear hV hrow hd
  go_enter Tryz.func3, Tryz.ntmps3
  go_wp2_with fail
  refine (new_any _).mono ?_
  rintro e w1 ⟨b, m, rfl, hb, hm, hlg, hb1⟩
  have HL1 := Lib.hid hlg
  have HB1 := Lib.hid hb1
  clear hlg hb1
  go_wp2_with fail
  refine (known_any _ (fun W h => HV.out W (HB1.out.trans (h.mono HB1.out.size)))).mono ?_
  rintro e w2 ⟨rfl, hb2⟩
  have HL2 := Lib.hid (HL1.out.below hb2)
  have HB2 := Lib.hid (HB1.out.trans (hb2.mono HB1.out.size))
  clear hb2 HL1 HB1
  go_wp2_with fail
  go_loopw [4, 5, 6] (fun ov gd i wr => ∃ (k : Nat) (l : Lg) (m : Nat), k ≤ rows.length ∧ i = .int .i64 k ∧ ov = .bool l.over ∧ gd = .int .i64 (l.taken : Nat) ∧ Fine l ∧ w.heap.size ≤ m ∧ LgAt wr b m l ∧ Below w.heap.size w wr) (fun _ _ i _ => rows.length - (intOf i).toNat)
  case atStart => exact ⟨0, Lg.new, m, by omega, rfl, rfl, rfl, Fine.new, hm, HL2.out, HB2.out⟩
  case round =>
    obtain ⟨k, l, m, hk, rfl, rfl, rfl, hfine, hm, hlg, hbw⟩ := hrel
    have HF := Lib.hid hfine
    have HL := Lib.hid hlg
    have HB := Lib.hid hbw
    clear hfine hlg hbw HL2 HB2
    by_cases hkl : k < rows.length
    · obtain ⟨g, o, rfl, hg, hc, ht⟩ := HROW.out k hkl
      have hdk := HD.out k hkl
      generalize hr : rows[k] = r at *
      have HC := Lib.hid (fun W (hW : Below w.heap.size w W) j u hu => (hW.cell (p := ⟨g, o + k * 27 + j, none⟩) hg).trans (hc j u hu))
      have HT := Lib.hid ht
      have HDK := Lib.hid hdk
      clear hc ht hdk
      go_wp2_with (show wpList _ _ _ ({ dst := _, op := .load 30 (.tmp 25), type := _, pos := _, after := _, guard := _ } :: _) _ _; refine wpList_load_cells rfl 30 (.tmp 25) rfl g (o + k * 27) 27 rfl (rwV r) _ (HC.out _ HB.out) Tryz.underlying30 rfl infoPdr rfl ?_)
      refine (fits_any _ r).mono ?_
      rintro e w3 ⟨rfl, hb3⟩
      have HB3 := Lib.hid (HB.out.trans (hb3.mono HB.out.size))
      have HL3 := Lib.hid (HL.out.below hb3)
      clear hb3 HL HB
      cases hft : fitsP r with
      | false =>
        go_wp2_with fail
        go_roundw
        case rel => exact ⟨k + 1, l, m, by omega, rfl, rfl, rfl, HF.out, hm, HL3.out, HB3.out⟩
        case measure => simp [intOf]; omega
      | true =>
        have HFT := Lib.hid hft
        clear hft
        go_wp2_with fail
        refine (terms_any HL3.out).mono ?_
        rintro e w4 ⟨rfl, hb4⟩
        have HX4 := Lib.hid (alloc_last w4 (.cells (tmV l.tm).toArray 32))
        have HB4 := Lib.hid ((HB3.out.trans (hb4.mono HB3.out.size)).alloc (HB3.out.trans (hb4.mono HB3.out.size)).size (.cells (tmV l.tm).toArray 32))
        have HL4 := Lib.hid ((HL3.out.below hb4).upd ((Upd.refl [] w4).alloc (.cells (tmV l.tm).toArray 32)) (by simp) (by simp))
        have hb4s : b < w4.heap.size ∧ m < w4.heap.size := ⟨(HL3.out.below hb4).lt, (HL3.out.below hb4).ltm⟩
        have HB4S := Lib.hid hb4s
        clear hb4 HL3 HB3 hb4s
        go_wp2_with (show wpList _ _ _ ({ dst := _, op := .load 30 (.tmp 34), type := _, pos := _, after := _, guard := _ } :: _) _ _; refine wpList_load_cells rfl 30 (.tmp 34) rfl g (o + k * 27) 27 rfl (rwV r) _ (HC.out _ HB4.out) Tryz.underlying30 rfl infoPdr rfl ?_)
        refine (given_any _ r).mono ?_
        rintro e w5 ⟨rfl, hb5⟩
        have HX5 := Lib.hid ((Upd.of_below hb5).get HX4.out (by simp))
        have HB5 := Lib.hid (HB4.out.trans (hb5.mono HB4.out.size))
        have HL5 := Lib.hid (HL4.out.below hb5)
        clear hb5 HX4 HB4 HL4
        rcases htk : takeP l (pdOf r) with ⟨l2, fl, st, tx, dn⟩
        have HTK := Lib.hid (take_to htk HL5.out (rw_is HFT.out) (HT.out.below HB5.out) HDK.out (by have h1 := HF.out.ans; have h2 := HF.out.taken; omega) HF.out.taken (fun W' h => HV.out W' (HB5.out.trans (h.below HB5.out.size (fun x hx => by simp at hx; omega)))))
        have HTP := Lib.hid htk
        clear htk
        go_wp2_with fail
        refine HTK.out.mono ?_
        rintro e w6 ⟨vp, vc, m2, rfl, -, hl6, hm6, hu6⟩
        have hm2 : w.heap.size ≤ m2 := by have := HB5.out.size; omega
        have HX6 := Lib.hid (hu6.get HX5.out (by have := HB4S.out; simp; omega))
        have HB6 := Lib.hid (HB5.out.trans (hu6.below HB5.out.size (fun x hx => by simp at hx; omega)))
        have HL6 := Lib.hid hl6
        have HA6 := Lib.hid (alloc_last w6 (.cells [.int .i64 (fl : Nat), .int .i64 st, .slice vp tx.length vc, .bool dn].toArray 35))
        have hs6 : w4.heap.size < w6.heap.size := lt_of_get HX6.out
        clear hl6 hm6 hu6 HX5 HB5 HL5 HTK
        go_wp2_with fail
        refine (terms_any (HL6.out.upd ((Upd.refl [] w6).alloc _) (by simp) (by simp))).mono ?_
        rintro e w7 ⟨rfl, hb7⟩
        have hu7 : Upd [] w6 w7 := ((Upd.refl [] w6).alloc _).trans (Upd.of_below hb7)
        have HB7 := Lib.hid (HB6.out.trans (hu7.below HB6.out.size (by simp)))
        have HL7 := Lib.hid (HL6.out.upd hu7 (by simp) (by simp))
        have hx := (cells_of ((Upd.of_below hb7).get HA6.out (by simp))).1
        have ht := (cells_of (hu7.get HX6.out (by simp))).1
        have x0 := hx 0
        have x1 := hx 1
        have x2 := hx 2
        have x3 := hx 3
        have t0 := ht 0
        have t1 := ht 1
        have t2 := ht 2
        have t3 := ht 3
        have t4 := ht 4
        have t5 := ht 5
        have hs7 : w6.heap.size < w7.heap.size := lt_of_get ((Upd.of_below hb7).get HA6.out (by simp))
        have hs4 : w4.heap.size < w7.heap.size := by omega
        simp only [List.getElem?_toArray, List.getElem?_cons_zero, List.getElem?_cons_succ] at x0 x1 x2 x3 t0 t1 t2 t3 t4 t5
        clear hx ht hu7 hb7 HX6 HB6 HL6 HA6
        by_cases hst : st = 0
        case neg =>
          have hno := take_no (p := pdOf r) HF.out (by rw [HTP.out]; exact hst)
          rw [HTP.out] at hno
          obtain ⟨e1, e2, e3, e4⟩ := hno
          simp only [An.mk.injEq, true_and] at e1 e2
          obtain ⟨rfl, rfl, rfl⟩ := e2
          subst e1
          have hst2 : (st != 0) = true := bne_iff_ne.2 hst
          have hst3 : (st == 0) = false := beq_eq_false_iff_ne.2 hst
          have HF2 := Lib.hid e4
          have HS := Lib.hid hst
          have hge := HF.out.send0
          have hle2 := HF.out.send1
          have htk8 := HF.out.taken
          clear hst e4
          cases hov : l.over with
          | true =>
            have h523 : st = 523 := e3 hov
            subst h523
            go_wp2_with fail
            go_roundw
            case rel => exact ⟨k + 1, { l with over := true }, m2, by omega, rfl, rfl, rfl, HF2.out, hm2, HL7.out.upd ((Upd.refl [] w7).alloc _) (by simp) (by simp), HB7.out.alloc HB7.out.size _⟩
            case measure => simp [intOf]; omega
          | false =>
            go_wp2_with fail
            go_roundw
            case rel => exact ⟨k + 1, { l with over := true }, m2, by omega, rfl, rfl, rfl, HF2.out, hm2, HL7.out.upd ((Upd.refl [] w7).alloc _) (by simp) (by simp), HB7.out.alloc HB7.out.size _⟩
            case measure => simp [intOf]; omega
        case pos =>
          have hok := take_ok (p := pdOf r) HF.out (by rw [HTP.out]; exact hst)
          rw [HTP.out] at hok
          obtain ⟨hov, htk, hov2, hf2, -⟩ := hok
          simp only at htk hov2 hf2
          subst hst
          have hge := hf2.send0
          have hle2 := hf2.send1
          have htk8 : l.taken ≤ 7 := by have := hf2.taken; omega
          have hnm : List.isEmpty l2.tm.name = false := by
            have h := hf2.name (by omega)
            cases hx : l2.tm.name with
            | nil => exact absurd hx h
            | cons => rfl
          have HF2 := Lib.hid hf2
          have HTK2 := Lib.hid htk
          have HOV2 := Lib.hid hov2
          rw [hov]
          clear hf2 htk hov2
          cases dn with
          | true =>
            go_wp2_with fail
            go_roundw
            case rel => exact ⟨k + 1, l2, m2, by omega, rfl, by rw [HOV2.out], by rw [HTK2.out]; rfl, HF2.out, hm2, HL7.out.upd ((Upd.refl [] w7).alloc _) (by simp) (by simp), HB7.out.alloc HB7.out.size _⟩
            case measure => simp [intOf]; omega
          | false =>
            go_wp2_with fail
            go_roundw
            case rel => exact ⟨k + 1, l2, m2, by omega, rfl, by rw [HOV2.out], by rw [HTK2.out]; rfl, HF2.out, hm2, HL7.out.upd ((Upd.refl [] w7).alloc _) (by simp) (by simp), HB7.out.alloc HB7.out.size _⟩
            case measure => simp [intOf]; omega
    · obtain rfl : k = rows.length := by omega
      go_wp2_with fail
      go_ret
      exact ⟨rfl, HB.out⟩
end Go.Proofs.YtlhdjgibkiffaaaGreatDoor
