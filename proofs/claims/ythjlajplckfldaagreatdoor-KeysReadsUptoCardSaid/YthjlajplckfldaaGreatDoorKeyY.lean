/-
  PROVED HERE: the law KeysReads comes out true, for texts of at most 2^20 bytes. Conditions: those that each theorem names.
-/
import Derived.Test.YthjlajplckfldaaGreatDoorKeyK
import Derived.Test.YthjlajplckfldaaGreatDoorKeyH
import Derived.Test.YthjlajplckfldaaGreatDoorKeyRQ
import Derived.Test.YthjlajplckfldaaGreatDoorKeyRS
namespace Go.Proofs.YthjlajplckfldaaGreatDoor
open Go.RowKit Go.Shelf
theorem IsPrs.sl {w : World} {v : Value} {l : List Pr} (h : IsPrs w v l) : ∃ p c, v = .slice p l.length c := by
  rcases h with ⟨rfl, rfl⟩ | ⟨g, o, c, rfl, _⟩
  · exact ⟨_, _, rfl⟩
  · exact ⟨_, _, rfl⟩
set_option maxRecDepth 100000 in
set_option maxHeartbeats 8000000 in
theorem reads_any {w : World} {v0 : Value} {d : Txt} (h0 : IsTxtV w v0 d) (hl : d.length ≤ 1048576) (hV : ∀ W, Below w.heap.size w W → Vars W) : Calls Tryz.prog 4 #[v0] w fun e w' => e = .returned (.bool true) ∧ Below w.heap.size w w' := by
  have H0 := Lib.hid h0
  have HV := Lib.hid hV
  obtain ⟨dp, dc, rfl, td, ld, nd, _⟩ := h0
  have HPA := Lib.hid (parse_any dp d dc td ld nd (by omega))
  clear hV td ld nd hl
  go_enter Tryz.func4, Tryz.ntmps4
  go_wp2_with fail
  refine HPA.out.mono ?_
  rintro e w1 ⟨⟨v1, rfl, h1⟩, hb1⟩
  have HB1 := Lib.hid hb1
  have H1 := Lib.hid h1
  have HRQ := Lib.hid (rparse_any (H0.out.below hb1))
  obtain ⟨p1, c1, rfl⟩ := h1.sl
  clear hb1 h1 HPA
  go_wp2_with fail
  refine HRQ.out.mono ?_
  rintro e w2 ⟨⟨v2, rfl, h2⟩, hb2⟩
  have HB2 := Lib.hid (HB1.out.trans (hb2.mono HB1.out.size))
  have H1b := Lib.hid (H1.out.below hb2)
  obtain ⟨p2, c2, rfl⟩ := h2.sl
  have hsm := same_any H1b.out.arg h2.arg
  clear hb2 HRQ H1
  cases hp : parseP d with
  | none =>
    rw [hp] at hsm
    simp only [Option.getD_none, decide_true, List.length_nil] at hsm
    have HSM := Lib.hid (hsm (by simp))
    simp only [errP_none, Option.getD_none, List.length_nil]
    clear hp hsm h2 H1b
    go_wp2_with fail
    with_reducible refine HSM.out.mono ?_
    rintro e w3 ⟨rfl, hb3⟩
    have HB3 := Lib.hid (HB2.out.trans (hb3.mono HB2.out.size))
    have HKN := Lib.hid (known_any (w := w3) (fun W hW => HV.out W (HB3.out.trans (hW.mono HB3.out.size))))
    clear hb3 HSM
    go_wp2_with fail
    refine HKN.out.mono ?_
    rintro e w4 ⟨rfl, hb4⟩
    have HB4 := Lib.hid (HB3.out.trans (hb4.mono HB3.out.size))
    clear hb4 HKN
    go_wp2_with fail
    go_ret
    exact ⟨rfl, HB4.out⟩
  | some l =>
    rw [hp] at hsm H1b
    simp only [Option.getD_some, decide_true] at hsm H1b
    obtain ⟨_, hm, hpd⟩ := parseP_some hp
    have hl16 := ((mayP_iff l).1 hm).2.2.1
    have HSM := Lib.hid (hsm (by omega))
    simp only [errP_some, Option.getD_some]
    have HM := Lib.hid hm
    have HPD := Lib.hid hpd
    have HL16 := Lib.hid hl16
    clear hp hsm h2 hm hpd hl16
    go_wp2_with fail
    with_reducible refine HSM.out.mono ?_
    rintro e w3 ⟨rfl, hb3⟩
    have HB3 := Lib.hid (HB2.out.trans (hb3.mono HB2.out.size))
    have H1c := Lib.hid (H1b.out.below hb3)
    have HKN := Lib.hid (known_any (w := w3) (fun W hW => HV.out W (HB3.out.trans (hW.mono HB3.out.size))))
    clear hb3 HSM H1b
    go_wp2_with fail
    refine HKN.out.mono ?_
    rintro e w4 ⟨rfl, hb4⟩
    have HB4 := Lib.hid (HB3.out.trans (hb4.mono HB3.out.size))
    have hpr := print_any (H1c.out.below hb4) (by have := HL16.out; omega)
    rw [printO_yes HM.out] at hpr
    simp only [errP_some, Option.getD_some] at hpr
    have HPR := Lib.hid hpr
    clear hb4 HKN H1c hpr
    go_wp2_with fail
    with_reducible refine HPR.out.mono ?_
    rintro e w5 ⟨⟨v5, rfl, h5⟩, hb5⟩
    have HB5 := Lib.hid (HB4.out.trans (hb5.mono HB4.out.size))
    have hsa := bsame_any h5 (H0.out.below HB5.out)
    rw [decide_eq_true HPD.out] at hsa
    have HSA := Lib.hid hsa
    obtain ⟨p5, c5, rfl, -⟩ := h5
    clear hb5 hsa HPR
    generalize (printP l).length = n5 at *
    go_wp2_with fail
    with_reducible refine HSA.out.mono ?_
    rintro e w6 ⟨rfl, hb6⟩
    have HB6 := Lib.hid (HB5.out.trans (hb6.mono HB5.out.size))
    clear hb6 HSA
    go_wp2_with fail
    go_ret
    exact ⟨rfl, HB6.out⟩
end Go.Proofs.YthjlajplckfldaaGreatDoor
