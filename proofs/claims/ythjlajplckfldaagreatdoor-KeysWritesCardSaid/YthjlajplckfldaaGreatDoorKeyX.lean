/-
  PROVED HERE: the law KeysWrites comes out true. Conditions: those that each theorem names.
-/
import Derived.Test.YthjlajplckfldaaGreatDoorKeyK
import Derived.Test.YthjlajplckfldaaGreatDoorKeyG
import Derived.Test.YthjlajplckfldaaGreatDoorKeyH
import Derived.Test.YthjlajplckfldaaGreatDoorKeyRP
import Derived.Test.YthjlajplckfldaaGreatDoorKeyRS
namespace Go.Proofs.YthjlajplckfldaaGreatDoor
open Go.RowKit Go.Shelf
set_option maxRecDepth 100000 in
set_option maxHeartbeats 8000000 in
theorem writes_any {w : World} {v0 : Value} {l : List Pr} (h0 : IsPrsA w v0 l) (hl : l.length ≤ 4398046511103) (hL : ∀ p ∈ l, p.1.length ≤ 9223372036854775807 ∧ p.2.length ≤ 9223372036854775807) (hV : ∀ W, Below w.heap.size w W → Vars W) : Calls Tryz.prog 3 #[v0] w fun e w' => e = .returned (.bool true) ∧ Below w.heap.size w w' := by
  obtain ⟨p0, c0, rfl⟩ := h0.slice
  have H0 := Lib.hid h0
  have HLL := Lib.hid hL
  have HL := Lib.hid hl
  have HV := Lib.hid hV
  have HG := Lib.hid (given_any h0 hl)
  clear h0 hL hV hl
  go_enter Tryz.func3, Tryz.ntmps3
  go_wp2_with fail
  refine HG.out.mono ?_
  rintro e w1 ⟨⟨v1, rfl, h1⟩, hb1⟩
  have HB1 := Lib.hid hb1
  have HP := Lib.hid (print_any h1 (by have := HL.out; omega))
  obtain ⟨p1, c1, rfl⟩ : ∃ p c, v1 = .slice p l.length c := by
    rcases h1 with ⟨rfl, rfl⟩ | ⟨g, o, c, rfl, _⟩
    · exact ⟨_, _, rfl⟩
    · exact ⟨_, _, rfl⟩
  clear h1 hb1 HG
  go_wp2_with fail
  refine HP.out.mono ?_
  rintro e w2 ⟨⟨v2, rfl, h2⟩, hb2⟩
  have HB2 := Lib.hid (HB1.out.trans (hb2.mono HB1.out.size))
  have HR := Lib.hid (rprint_any (H0.out.below HB2.out) HLL.out)
  have H2 := Lib.hid h2
  obtain ⟨p2, n2, c2, rfl⟩ : ∃ p n c, v2 = .slice p n c := by obtain ⟨p, c, e, _⟩ := h2; exact ⟨_, _, _, e⟩
  clear hb2 HP h2
  go_wp2_with fail
  refine HR.out.mono ?_
  rintro e w3 ⟨⟨v3, rfl, h3⟩, hb3⟩
  have HB3 := Lib.hid (HB2.out.trans (hb3.mono HB2.out.size))
  have H2b := Lib.hid (H2.out.below hb3)
  have HS := Lib.hid (bsame_any H2b.out h3)
  obtain ⟨p3, n3, c3, rfl⟩ : ∃ p n c, v3 = .slice p n c := by obtain ⟨p, c, e, _⟩ := h3; exact ⟨_, _, _, e⟩
  rw [decide_eq_true rfl] at HS
  clear hb3 HR h3 H2
  cases hpr : printO l with
  | none =>
    rw [errP_none]
    clear hpr
    go_wp2_with fail
    refine HS.out.mono ?_
    rintro e w4 ⟨rfl, hb4⟩
    have HB4 := Lib.hid (HB3.out.trans (hb4.mono HB3.out.size))
    have HKN := Lib.hid (known_any (w := w4) (fun W hW => HV.out W (HB4.out.trans (hW.mono HB4.out.size))))
    clear hb4 HS
    go_wp2_with fail
    refine HKN.out.mono ?_
    rintro e w5 ⟨rfl, hb5⟩
    have HB5 := Lib.hid (HB4.out.trans (hb5.mono HB4.out.size))
    clear hb5 HKN
    go_wp2_with fail
    go_ret
    exact ⟨rfl, HB5.out⟩
  | some t =>
    rw [errP_some]
    have hm : mayP l = true ∧ t = printP l := by
      unfold printO at hpr
      split at hpr
      · rename_i h; exact ⟨h, (Option.some.inj hpr).symm⟩
      · cases hpr
    have HM := Lib.hid hm.1
    have HT := Lib.hid hm.2
    rw [hpr, Option.getD_some] at H2b
    clear hpr hm
    go_wp2_with fail
    refine HS.out.mono ?_
    rintro e w4 ⟨rfl, hb4⟩
    have HB4 := Lib.hid (HB3.out.trans (hb4.mono HB3.out.size))
    have H2c := Lib.hid (H2b.out.below hb4)
    have HKN := Lib.hid (known_any (w := w4) (fun W hW => HV.out W (HB4.out.trans (hW.mono HB4.out.size))))
    clear hb4 HS H2b
    go_wp2_with fail
    refine HKN.out.mono ?_
    rintro e w5 ⟨rfl, hb5⟩
    have HB5 := Lib.hid (HB4.out.trans (hb5.mono HB4.out.size))
    obtain ⟨p9, c9, e9, t9, l9, n9, _⟩ := H2c.out.below hb5
    cases e9
    have htl : t.length ≤ 1024 := by rw [HT.out, printP_length]; exact ((mayP_iff l).1 HM.out).2.2.2
    have hpa := parse_any p2 t c2 t9 l9 n9 (by omega)
    rw [show parseP t = some l by rw [HT.out]; exact parseP_printed HM.out, errP_some, Option.getD_some] at hpa
    have HPA := Lib.hid hpa
    clear hb5 HKN H2c t9 l9 n9 hpa htl
    go_wp2_with fail
    with_reducible refine HPA.out.mono ?_
    rintro e w6 ⟨⟨v6, rfl, h6⟩, hb6⟩
    have HB6 := Lib.hid (HB5.out.trans (hb6.mono HB5.out.size))
    have HSA := Lib.hid (same_any h6.arg (H0.out.below HB6.out) (by have := HL.out; omega))
    rw [decide_eq_true rfl] at HSA
    obtain ⟨p6, c6, rfl⟩ : ∃ p c, v6 = .slice p l.length c := by
      rcases h6 with ⟨rfl, rfl⟩ | ⟨g, o, c, rfl, _⟩
      · exact ⟨_, _, rfl⟩
      · exact ⟨_, _, rfl⟩
    clear hb6 HPA h6
    go_wp2_with fail
    refine HSA.out.mono ?_
    rintro e w7 ⟨rfl, hb7⟩
    have HB7 := Lib.hid (HB6.out.trans (hb7.mono HB6.out.size))
    clear hb7 HSA
    go_wp2_with fail
    go_ret
    exact ⟨rfl, HB7.out⟩
end Go.Proofs.YthjlajplckfldaaGreatDoor
