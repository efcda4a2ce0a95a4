/-
  PROVED HERE: the law KeysFinds comes out true. Conditions: those that each theorem names.
-/
import Derived.Test.YthjlajplckfldaaGreatDoorKeyK
import Derived.Test.YthjlajplckfldaaGreatDoorKeyG
import Derived.Test.YthjlajplckfldaaGreatDoorKeyRF
import Derived.Test.YthjlajplckfldaaGreatDoorKeyRC
import Derived.Test.YthjlajplckfldaaGreatDoorKeyRN
namespace Go.Proofs.YthjlajplckfldaaGreatDoor
open Go.RowKit Go.Shelf
set_option maxRecDepth 100000 in
set_option maxHeartbeats 8000000 in
theorem finds_any {w : World} {v0 v2 : Value} {l : List Pr} {own : List Txt} (key : Txt) (least most : Int) (h0 : IsPrsA w v0 l) (hl : l.length ≤ 4398046511103) (h2 : IsTxts w v2 own) (hk : key.length ≤ 281474976710656) (hV : ∀ W, Below w.heap.size w W → Vars W) : Calls Tryz.prog 5 #[v0, .string (txt key), v2, .int .i64 least, .int .i64 most] w fun e w' => e = .returned (.bool true) ∧ Below w.heap.size w w' := by
  obtain ⟨p0, c0, rfl⟩ := h0.slice
  obtain ⟨p2, c2, rfl⟩ : ∃ p cap, v2 = .slice p own.length cap := by obtain ⟨p, c, e, _⟩ := h2; exact ⟨p, c, e⟩
  have H0 := Lib.hid h0
  have H2 := Lib.hid h2
  have HK := Lib.hid hk
  have HV := Lib.hid hV
  have HG := Lib.hid (given_any h0 hl)
  clear h0 h2 hk hV hl
  go_enter Tryz.func5, Tryz.ntmps5
  go_wp2_with fail
  refine HG.out.mono ?_
  rintro e w1 ⟨⟨v1, rfl, h1⟩, hb1⟩
  have HB1 := Lib.hid hb1
  have HF := Lib.hid (find_any key h1)
  obtain ⟨p1, c1, rfl⟩ : ∃ p c, v1 = .slice p l.length c := by
    rcases h1 with ⟨rfl, rfl⟩ | ⟨g, o, c, rfl, _⟩
    · exact ⟨_, _, rfl⟩
    · exact ⟨_, _, rfl⟩
  clear h1 hb1 HG
  go_wp2_with fail
  refine HF.out.mono ?_
  rintro e w2 ⟨rfl, hb2⟩
  have HB2 := Lib.hid (HB1.out.trans (hb2.mono HB1.out.size))
  have HF2 := Lib.hid (rfind_any key (H0.out.below HB2.out))
  clear hb2 HF
  generalize (findP l key).getD [] = fv at *
  generalize (findP l key).isSome = fb at *
  go_wp2_with fail
  refine HF2.out.mono ?_
  rintro e w3 ⟨rfl, hb3⟩
  have HB3 := Lib.hid (HB2.out.trans (hb3.mono HB2.out.size))
  have HC := Lib.hid (choose_any key (H2.out.below HB3.out) (by have := HK.out; omega))
  clear hb3 HF2
  go_wp2_with fail
  refine HC.out.mono ?_
  rintro e w4 ⟨rfl, hb4⟩
  have HB4 := Lib.hid (HB3.out.trans (hb4.mono HB3.out.size))
  have HC2 := Lib.hid (rchoose_any key (H2.out.below HB4.out) HK.out)
  clear hb4 HC
  generalize (chooseFrom own [] key).getD [] = cv at *
  generalize (chooseFrom own [] key).isSome = cb at *
  go_wp2_with fail
  refine HC2.out.mono ?_
  rintro e w5 ⟨rfl, hb5⟩
  have HB5 := Lib.hid (HB4.out.trans (hb5.mono HB4.out.size))
  have HN := Lib.hid (number_any (w := w5) key least most HK.out (fun W hW => HV.out W (HB5.out.trans (hW.mono HB5.out.size))))
  clear hb5 HC2
  go_wp2_with fail
  refine HN.out.mono ?_
  rintro e w6 ⟨rfl, hb6⟩
  have HB6 := Lib.hid (HB5.out.trans (hb6.mono HB5.out.size))
  have HN2 := Lib.hid (rnumber_any (w := w6) key least most HK.out)
  clear hb6 HN
  generalize (numR key least most).1 = nv at *
  generalize (numR key least most).2 = nb at *
  go_wp2_with fail
  refine HN2.out.mono ?_
  rintro e w7 ⟨rfl, hb7⟩
  have HB7 := Lib.hid (HB6.out.trans (hb7.mono HB6.out.size))
  have HKN := Lib.hid (known_any (w := w7) (fun W hW => HV.out W (HB7.out.trans (hW.mono HB7.out.size))))
  clear hb7 HN2
  go_wp2_with fail
  refine HKN.out.mono ?_
  rintro e w8 ⟨rfl, hb8⟩
  have HB8 := Lib.hid (HB7.out.trans (hb8.mono HB7.out.size))
  clear hb8 HKN
  go_wp2_with fail
  go_ret
  exact ⟨rfl, HB8.out⟩
end Go.Proofs.YthjlajplckfldaaGreatDoor
