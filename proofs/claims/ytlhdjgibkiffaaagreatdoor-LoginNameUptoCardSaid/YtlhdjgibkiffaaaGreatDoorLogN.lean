/-
  PROVED HERE: LoginName returns true, whatever the PDUs. Conditions: their data are of at most 1048576 bytes.
-/
import Derived.Test.YtlhdjgibkiffaaaGreatDoorLogJ
namespace Go.Proofs.YtlhdjgibkiffaaaGreatDoor
open Go.RowKit Go.Shelf
theorem Upd.drewN {S : List Nat} {a w : World} (h : Upd S a w) (n : Nat) : Upd S a (w.drewN n) := ⟨h.os, h.tape, h.output, h.size, h.block⟩
/-- The terms are those of request f. -/
def NameOk (rows : List Rw) (l : Lg) (f : Nat) : Prop := ∃ (h : f < rows.length) (ps : List Pr), parseP rows[f].data = some ps ∧ findP ps kName = some l.tm.name ∧ l.tm.isid = rows[f].wide ∧ l.tm.tsih = rows[f].short
def NameRel (rows : List Rw) (l : Lg) (fr : Value) : Prop := (fr = .int .i64 (-1) ∧ l.taken = 0) ∨ ∃ f : Nat, fr = .int .i64 (f : Nat) ∧ l.taken ≠ 0 ∧ NameOk rows l f
set_option maxRecDepth 100000 in
set_option maxHeartbeats 16000000 in
theorem name_any2 {w : World} {v0 : Value} {rows : List Rw} (h0 : IsRws w v0 rows) (hl : rows.length ≤ 1048576) (hd : ∀ i (h : i < rows.length), rows[i].data.length ≤ 1048576) (hV : ∀ W, Below w.heap.size w W → Vars W) :
    Calls Tryz.prog 5 #[v0] w fun e w' => e = .returned (.bool true) ∧ Below w.heap.size w w' := by
  obtain ⟨p, cap, rfl, hle, hcap, hrow⟩ := h0
  have HROW := Lib.hid hrow
  have HV := Lib.hid hV
  have HD := Lib.hid hd
  clear hV hrow hd
  go_enter Tryz.func5, Tryz.ntmps5
  go_wp2_with fail
  refine (new_any _).mono ?_
  rintro e w1 ⟨b, m, rfl, hb, hm, hlg, hb1⟩
  have HL1 := Lib.hid hlg
  have HB1 := Lib.hid hb1
  clear hlg hb1
  go_wp2_with fail
  refine (known_any _ (fun W h => HV.out W (HB1.out.trans (h.mono HB1.out.size)))).mono ?_
  rintro e w2 ⟨rfl, hb2⟩
  have HL2 := Lib.hid (HL1.out.below hb2)
  have HB2 := Lib.hid (HB1.out.trans (hb2.mono HB1.out.size))
  clear hb2 HL1 HB1
  go_wp2_with fail
  go_loopw [4, 5] (fun fr i wr => ∃ (k : Nat) (l : Lg) (m : Nat), k ≤ rows.length ∧ i = .int .i64 k ∧ NameRel rows l fr ∧ Fine l ∧ w.heap.size ≤ m ∧ LgAt wr b m l ∧ Below w.heap.size w wr) (fun _ i _ => rows.length - (intOf i).toNat)
  case atStart => exact ⟨0, Lg.new, m, by omega, rfl, .inl ⟨rfl, rfl⟩, Fine.new, hm, HL2.out, HB2.out⟩
  case round =>
    obtain ⟨k, l, m, hk, rfl, hnr, hfine, hm, hlg, hbw⟩ := hrel
    rcases hnr with ⟨rfl, h00⟩ | ⟨f, rfl, hnz, hfo⟩
    · skip
      have HF := Lib.hid hfine
      have HL := Lib.hid hlg
      have HB := Lib.hid hbw
      clear hfine hlg hbw HL2 HB2
      by_cases hkl : k < rows.length
      · obtain ⟨g, o, rfl, hg, hc, ht⟩ := HROW.out k hkl
        have hdk := HD.out k hkl
        have HC := Lib.hid (fun W (hW : Below w.heap.size w W) j u hu => (hW.cell (p := ⟨g, o + k * 27 + j, none⟩) hg).trans (hc j u hu))
        have HRK := Lib.hid (show rows[k]? = some rows[k] from List.getElem?_eq_getElem hkl)
        generalize rows[k] = r at *
        have HT := Lib.hid ht
        have HDK := Lib.hid hdk
        clear hc ht hdk
        go_wp2_with (show wpList _ _ _ ({ dst := _, op := .load 30 (.tmp 27), type := _, pos := _, after := _, guard := _ } :: _) _ _; refine wpList_load_cells rfl 30 (.tmp 27) rfl g (o + k * 27) 27 rfl (rwV r) _ (HC.out _ HB.out) Tryz.underlying30 rfl infoPdr rfl ?_)
        refine (fits_any _ r).mono ?_
        rintro e w3 ⟨rfl, hb3⟩
        have HB3 := Lib.hid (HB.out.trans (hb3.mono HB.out.size))
        have HL3 := Lib.hid (HL.out.below hb3)
        clear hb3 HL HB
        cases hft : fitsP r with
        | false =>
          go_wp2_with fail
          go_roundw
          case rel => exact ⟨k + 1, l, m, by omega, rfl, .inl ⟨rfl, h00⟩, HF.out, hm, HL3.out, HB3.out⟩
          case measure => simp [intOf]; omega
        | true =>
          have HFT := Lib.hid hft
          clear hft
          go_wp2_with (show wpList _ _ _ ({ dst := _, op := .load 30 (.tmp 34), type := _, pos := _, after := _, guard := _ } :: _) _ _; refine wpList_load_cells rfl 30 (.tmp 34) rfl g (o + k * 27) 27 rfl (rwV r) _ (HC.out _ HB3.out) Tryz.underlying30 rfl infoPdr rfl ?_)
          refine (given_any _ r).mono ?_
          rintro e w5 ⟨rfl, hb5⟩
          have HB5 := Lib.hid (HB3.out.trans (hb5.mono HB3.out.size))
          have HL5 := Lib.hid (HL3.out.below hb5)
          clear hb5 HB3 HL3
          rcases htk : takeP l (pdOf r) with ⟨l2, fl, st, tx, dn⟩
          have HTK := Lib.hid (take_to htk HL5.out (rw_is HFT.out) (HT.out.below HB5.out) HDK.out (by have h1 := HF.out.ans; have h2 := HF.out.taken; omega) HF.out.taken (fun W' h => HV.out W' (HB5.out.trans (h.below HB5.out.size (fun x hx => by simp at hx; omega)))))
          have HTP := Lib.hid htk
          clear htk
          go_wp2_with fail
          refine HTK.out.mono ?_
          rintro e w6 ⟨vp, vc, m2, rfl, -, hl6, hm6, hu6⟩
          have hm2 : w.heap.size ≤ m2 := by have := HB5.out.size; omega
          have HB6 := Lib.hid ((HB5.out.trans (hu6.below HB5.out.size (fun x hx => by simp at hx; omega))).alloc (HB5.out.trans (hu6.below HB5.out.size (fun x hx => by simp at hx; omega))).size (.cells [.int .i64 (fl : Nat), .int .i64 st, .slice vp tx.length vc, .bool dn].toArray 35))
          have HL6 := Lib.hid (hl6.upd ((Upd.refl [] w6).alloc (.cells [.int .i64 (fl : Nat), .int .i64 st, .slice vp tx.length vc, .bool dn].toArray 35)) (by simp) (by simp))
          clear hl6 hm6 hu6 HB5 HL5 HTK
          by_cases hst : st = 0
          case neg =>
            have hno := take_no (p := pdOf r) HF.out (by rw [HTP.out]; exact hst)
            rw [HTP.out] at hno
            obtain ⟨e1, e2, e3, e4⟩ := hno
            simp only [An.mk.injEq, true_and] at e1 e2
            obtain ⟨rfl, rfl, rfl⟩ := e2
            have hst2 : (st != 0) = true := bne_iff_ne.2 hst
            clear e1 e3 e4 hst
            go_wp2_with fail
            go_ret
            exact ⟨rfl, HB6.out⟩
          case pos =>
            have hok := take_ok (p := pdOf r) HF.out (by rw [HTP.out]; exact hst)
            rw [HTP.out] at hok
            obtain ⟨hov, htk, hov2, hf2, ps, hps, hz, hnz2⟩ := hok
            simp only at htk hov2 hf2 hz hnz2
            subst hst
            have HF2 := Lib.hid hf2
            have HTK2 := Lib.hid htk
            have hzz := hz h00
            have hdt : (pdOf r).data = r.data := rfl
            rw [hdt] at hps
            obtain ⟨hfn, his, hts⟩ := hzz
            have HNO := Lib.hid (⟨hkl, ps, by rw [show rows[k] = r from Option.some.inj ((List.getElem?_eq_getElem hkl).symm.trans HRK.out)]; exact hps, hfn, by rw [show rows[k] = r from Option.some.inj ((List.getElem?_eq_getElem hkl).symm.trans HRK.out)]; exact his, by rw [show rows[k] = r from Option.some.inj ((List.getElem?_eq_getElem hkl).symm.trans HRK.out)]; exact hts⟩ : NameOk rows l2 k)
            have his' : r.wide = l2.tm.isid := his.symm
            have hts' : r.short = l2.tm.tsih := hts.symm
            have HC2 := Lib.hid (fun W (hW : Below w.heap.size w W) => (⟨HC.out W hW 26 _ rfl, by have h := HC.out W hW 4 _ rfl; rw [his'] at h; exact h, by have h := HC.out W hW 5 _ rfl; rw [hts'] at h; exact h⟩ : W.cell? ⟨g, o + k * 27 + 26, none⟩ = some (.slice r.dp r.data.length r.dc) ∧ W.cell? ⟨g, o + k * 27 + 4, none⟩ = some (.int .i64 l2.tm.isid) ∧ W.cell? ⟨g, o + k * 27 + 5, none⟩ = some (.int .i64 l2.tm.tsih)))
            clear hov htk hov2 hf2 hz hnz2 his hts his' hts' hdt
            have c26 := (HC2.out _ HB6.out).1
            obtain ⟨_, _, hqe, hqt, hqc, hqn, hqm⟩ := HT.out.below HB6.out
            cases hqe
            have hpa := parse_any r.dp r.data r.dc hqt hqc hqn (by have := HDK.out; omega)
            rw [hps] at hpa
            simp only [Option.getD_some] at hpa
            have HPA := Lib.hid hpa
            have HFN := Lib.hid hfn
            clear hpa hqt hqc hqn hqm hfn hps
            go_wp2_with fail
            refine HPA.out.mono ?_
            rintro e w7 ⟨⟨v7, rfl, h7⟩, hb7⟩
            have e0 : errP (some ps) = 0 := rfl
            rw [e0]
            have HFD := Lib.hid (find_any kName h7)
            rw [HFN.out] at HFD
            simp only [Option.getD_some, Option.isSome_some] at HFD
            obtain ⟨p7, c7, rfl⟩ : ∃ a b, v7 = .slice a ps.length b := by
              rcases h7 with ⟨rfl, rfl⟩ | ⟨g, o, c, rfl, _⟩
              · exact ⟨_, _, rfl⟩
              · exact ⟨_, _, rfl⟩
            have HB7 := Lib.hid (HB6.out.trans (hb7.mono HB6.out.size))
            have HL7 := Lib.hid (HL6.out.below hb7)
            clear h7 hb7 HPA HL6 HB6 c26
            go_wp2_with fail
            refine HFD.out.mono ?_
            rintro e w8 ⟨rfl, hb8⟩
            have HB8 := Lib.hid (HB7.out.trans (hb8.mono HB7.out.size))
            have HL8 := Lib.hid (HL7.out.below hb8)
            clear hb8 HB7 HL7 HFD
            go_wp2_with fail
            refine (terms_any HL8.out).mono ?_
            rintro e w9 ⟨rfl, hb9⟩
            have HB9 := Lib.hid (HB8.out.trans (hb9.mono HB8.out.size))
            have HL9 := Lib.hid (HL8.out.below hb9)
            obtain ⟨-, y4, y5⟩ := HC2.out _ HB9.out
            have hgs : g < w9.heap.size := Nat.lt_of_lt_of_le hg HB9.out.size
            clear hb9 HB8 HL8
            go_wp2_with fail
            go_quiet (fail)
            go_wp2
            go_roundw
            case rel => exact ⟨k + 1, l2, m2, by omega, rfl, .inr ⟨k, rfl, by have := HTK2.out; omega, HNO.out⟩, HF2.out, hm2, HL9.out.upd ((((Upd.refl [] w9).alloc _).drewN _)) (by simp) (by simp), below_drewN (HB9.out.alloc HB9.out.size _) _⟩
            case measure => simp [intOf]; omega
      · obtain rfl : k = rows.length := by omega
        go_wp2_with fail
        go_ret
        exact ⟨rfl, HB.out⟩
    · have HFO := Lib.hid hfo
      clear hfo
      have HF := Lib.hid hfine
      have HL := Lib.hid hlg
      have HB := Lib.hid hbw
      clear hfine hlg hbw HL2 HB2
      by_cases hkl : k < rows.length
      · obtain ⟨g, o, rfl, hg, hc, ht⟩ := HROW.out k hkl
        have hdk := HD.out k hkl
        have HC := Lib.hid (fun W (hW : Below w.heap.size w W) j u hu => (hW.cell (p := ⟨g, o + k * 27 + j, none⟩) hg).trans (hc j u hu))
        have HRK := Lib.hid (show rows[k]? = some rows[k] from List.getElem?_eq_getElem hkl)
        generalize rows[k] = r at *
        have HT := Lib.hid ht
        have HDK := Lib.hid hdk
        clear hc ht hdk
        go_wp2_with (show wpList _ _ _ ({ dst := _, op := .load 30 (.tmp 27), type := _, pos := _, after := _, guard := _ } :: _) _ _; refine wpList_load_cells rfl 30 (.tmp 27) rfl g (o + k * 27) 27 rfl (rwV r) _ (HC.out _ HB.out) Tryz.underlying30 rfl infoPdr rfl ?_)
        refine (fits_any _ r).mono ?_
        rintro e w3 ⟨rfl, hb3⟩
        have HB3 := Lib.hid (HB.out.trans (hb3.mono HB.out.size))
        have HL3 := Lib.hid (HL.out.below hb3)
        clear hb3 HL HB
        cases hft : fitsP r with
        | false =>
          go_wp2_with fail
          go_roundw
          case rel => exact ⟨k + 1, l, m, by omega, rfl, .inr ⟨f, rfl, hnz, HFO.out⟩, HF.out, hm, HL3.out, HB3.out⟩
          case measure => simp [intOf]; omega
        | true =>
          have HFT := Lib.hid hft
          clear hft
          go_wp2_with (show wpList _ _ _ ({ dst := _, op := .load 30 (.tmp 34), type := _, pos := _, after := _, guard := _ } :: _) _ _; refine wpList_load_cells rfl 30 (.tmp 34) rfl g (o + k * 27) 27 rfl (rwV r) _ (HC.out _ HB3.out) Tryz.underlying30 rfl infoPdr rfl ?_)
          refine (given_any _ r).mono ?_
          rintro e w5 ⟨rfl, hb5⟩
          have HB5 := Lib.hid (HB3.out.trans (hb5.mono HB3.out.size))
          have HL5 := Lib.hid (HL3.out.below hb5)
          clear hb5 HB3 HL3
          rcases htk : takeP l (pdOf r) with ⟨l2, fl, st, tx, dn⟩
          have HTK := Lib.hid (take_to htk HL5.out (rw_is HFT.out) (HT.out.below HB5.out) HDK.out (by have h1 := HF.out.ans; have h2 := HF.out.taken; omega) HF.out.taken (fun W' h => HV.out W' (HB5.out.trans (h.below HB5.out.size (fun x hx => by simp at hx; omega)))))
          have HTP := Lib.hid htk
          clear htk
          go_wp2_with fail
          refine HTK.out.mono ?_
          rintro e w6 ⟨vp, vc, m2, rfl, -, hl6, hm6, hu6⟩
          have hm2 : w.heap.size ≤ m2 := by have := HB5.out.size; omega
          have HB6 := Lib.hid ((HB5.out.trans (hu6.below HB5.out.size (fun x hx => by simp at hx; omega))).alloc (HB5.out.trans (hu6.below HB5.out.size (fun x hx => by simp at hx; omega))).size (.cells [.int .i64 (fl : Nat), .int .i64 st, .slice vp tx.length vc, .bool dn].toArray 35))
          have HL6 := Lib.hid (hl6.upd ((Upd.refl [] w6).alloc (.cells [.int .i64 (fl : Nat), .int .i64 st, .slice vp tx.length vc, .bool dn].toArray 35)) (by simp) (by simp))
          clear hl6 hm6 hu6 HB5 HL5 HTK
          by_cases hst : st = 0
          case neg =>
            have hno := take_no (p := pdOf r) HF.out (by rw [HTP.out]; exact hst)
            rw [HTP.out] at hno
            obtain ⟨e1, e2, e3, e4⟩ := hno
            simp only [An.mk.injEq, true_and] at e1 e2
            obtain ⟨rfl, rfl, rfl⟩ := e2
            have hst2 : (st != 0) = true := bne_iff_ne.2 hst
            clear e1 e3 e4 hst
            go_wp2_with fail
            go_ret
            exact ⟨rfl, HB6.out⟩
          case pos =>
            have hok := take_ok (p := pdOf r) HF.out (by rw [HTP.out]; exact hst)
            rw [HTP.out] at hok
            obtain ⟨hov, htk, hov2, hf2, ps, hps, hz, hnz2⟩ := hok
            simp only at htk hov2 hf2 hz hnz2
            subst hst
            have HF2 := Lib.hid hf2
            have HTK2 := Lib.hid htk
            obtain ⟨hnm, his, hts⟩ := hnz2 hnz
            obtain ⟨hfl, ps, hps, hfn, hwi, hsh⟩ := HFO.out
            obtain ⟨g', o', hge, _, hcf, htf⟩ := HROW.out f hfl
            cases hge
            have hdf := HD.out f hfl
            have HNO := Lib.hid (⟨hfl, ps, hps, by rw [hnm]; exact hfn, his.trans hwi, hts.trans hsh⟩ : NameOk rows l2 f)
            have hq1 : rows[f].wide = l2.tm.isid := hwi.symm.trans his.symm
            have hq2 : rows[f].short = l2.tm.tsih := hsh.symm.trans hts.symm
            rw [← hnm] at hfn
            generalize rows[f] = q at *
            have HC2 := Lib.hid (fun W (hW : Below w.heap.size w W) => (⟨(hW.cell (p := ⟨g, o + f * 27 + 26, none⟩) hg).trans (hcf 26 _ rfl), by have h := (hW.cell (p := ⟨g, o + f * 27 + 4, none⟩) hg).trans (hcf 4 _ rfl); rw [hq1] at h; exact h, by have h := (hW.cell (p := ⟨g, o + f * 27 + 5, none⟩) hg).trans (hcf 5 _ rfl); rw [hq2] at h; exact h⟩ : W.cell? ⟨g, o + f * 27 + 26, none⟩ = some (.slice q.dp q.data.length q.dc) ∧ W.cell? ⟨g, o + f * 27 + 4, none⟩ = some (.int .i64 l2.tm.isid) ∧ W.cell? ⟨g, o + f * 27 + 5, none⟩ = some (.int .i64 l2.tm.tsih)))
            have HTF := Lib.hid htf
            clear hov htk hov2 hf2 hz hnz2 his hts hnm hwi hsh hq1 hq2 hcf htf
            have c26 := (HC2.out _ HB6.out).1
            obtain ⟨_, _, hqe, hqt, hqc, hqn, hqm⟩ := HTF.out.below HB6.out
            cases hqe
            have hpa := parse_any q.dp q.data q.dc hqt hqc hqn (by have := hdf; omega)
            rw [hps] at hpa
            simp only [Option.getD_some] at hpa
            have HPA := Lib.hid hpa
            have HFN := Lib.hid hfn
            clear hpa hqt hqc hqn hqm hfn hps
            go_wp2_with fail
            refine HPA.out.mono ?_
            rintro e w7 ⟨⟨v7, rfl, h7⟩, hb7⟩
            have e0 : errP (some ps) = 0 := rfl
            rw [e0]
            have HFD := Lib.hid (find_any kName h7)
            rw [HFN.out] at HFD
            simp only [Option.getD_some, Option.isSome_some] at HFD
            obtain ⟨p7, c7, rfl⟩ : ∃ a b, v7 = .slice a ps.length b := by
              rcases h7 with ⟨rfl, rfl⟩ | ⟨g, o, c, rfl, _⟩
              · exact ⟨_, _, rfl⟩
              · exact ⟨_, _, rfl⟩
            have HB7 := Lib.hid (HB6.out.trans (hb7.mono HB6.out.size))
            have HL7 := Lib.hid (HL6.out.below hb7)
            clear h7 hb7 HPA HL6 HB6 c26
            go_wp2_with fail
            refine HFD.out.mono ?_
            rintro e w8 ⟨rfl, hb8⟩
            have HB8 := Lib.hid (HB7.out.trans (hb8.mono HB7.out.size))
            have HL8 := Lib.hid (HL7.out.below hb8)
            clear hb8 HB7 HL7 HFD
            go_wp2_with fail
            refine (terms_any HL8.out).mono ?_
            rintro e w9 ⟨rfl, hb9⟩
            have HB9 := Lib.hid (HB8.out.trans (hb9.mono HB8.out.size))
            have HL9 := Lib.hid (HL8.out.below hb9)
            obtain ⟨-, y4, y5⟩ := HC2.out _ HB9.out
            have hgs : g < w9.heap.size := Nat.lt_of_lt_of_le hg HB9.out.size
            clear hb9 HB8 HL8
            go_wp2_with fail
            go_quiet (fail)
            go_wp2
            go_roundw
            case rel => exact ⟨k + 1, l2, m2, by omega, rfl, .inr ⟨f, rfl, by have := HTK2.out; omega, HNO.out⟩, HF2.out, hm2, HL9.out.upd ((((Upd.refl [] w9).alloc _).drewN _)) (by simp) (by simp), below_drewN (HB9.out.alloc HB9.out.size _) _⟩
            case measure => simp [intOf]; omega
      · obtain rfl : k = rows.length := by omega
        go_wp2_with fail
        go_ret
        exact ⟨rfl, HB.out⟩
end Go.Proofs.YtlhdjgibkiffaaaGreatDoor
