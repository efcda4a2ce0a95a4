/-
  PROVED HERE: the law's own example (two pairs written and read, a key found, an offer chosen from, a number told) comes out true. Conditions: those that each theorem names.
-/
import Derived.Test.YthjlajplckfldaaGreatDoorKeyB
import Derived.Test.YthjlajplckfldaaGreatDoorKeyC
import Derived.Test.YthjlajplckfldaaGreatDoorKeyF
import Derived.Test.YthjlajplckfldaaGreatDoorKeyN
namespace Go.Proofs.YthjlajplckfldaaGreatDoor
open Go.RowKit Go.Shelf
theorem errP_some {α : Type} (x : α) : errP (some x) = 0 := rfl
theorem errP_none {α : Type} : errP (none : Option α) = 43 := rfl
def exL : List Pr := [([65], [49]), ([66], [120, 61, 121])]
theorem ex_print : printO exL = some [65, 61, 49, 0, 66, 61, 120, 61, 121, 0] := by decide +kernel
theorem ex_parse : parseP [65, 61, 49, 0, 66, 61, 120, 61, 121, 0] = some exL := by decide +kernel
theorem ex_find : findP exL [66] = some [120, 61, 121] := by decide +kernel
theorem ex_choose : chooseFrom [[78, 111, 110, 101]] [] [120, 44, 78, 111, 110, 101] = some [78, 111, 110, 101] := by decide +kernel
theorem ex_num : numR [53, 49, 50] 64 1024 = (512, true) := by decide +kernel
set_option maxRecDepth 100000 in
set_option maxHeartbeats 4000000 in
theorem known_any {w : World} (hV : ∀ W, Below w.heap.size w W → Vars W) : Calls Tryz.prog 10 #[] w fun e w' => e = .returned (.bool true) ∧ Below w.heap.size w w' := by
  have HV := Lib.hid hV
  clear hV
  have hb1 : Below w.heap.size w (w.alloc (.cells #[.string (txt [65]), .string (txt [49]), .string (txt [66]), .string (txt [120, 61, 121])] 53)) := (Below.refl _ w).alloc (Nat.le_refl _) _
  have hp1 : IsPrs (w.alloc (.cells #[.string (txt [65]), .string (txt [49]), .string (txt [66]), .string (txt [120, 61, 121])] 53)) (.slice (some ⟨w.heap.size, 0, none⟩) 2 2) exL := by
    refine .inr ⟨w.heap.size, 0, 2, rfl, by decide, by unfold maxLen; omega, by simp, fun i hi => ?_⟩
    have : i = 0 ∨ i = 1 := by simp [exL] at hi; omega
    rcases this with rfl | rfl
    · rw [World.cell?_alloc_new, World.cell?_alloc_new]; exact ⟨rfl, rfl⟩
    · rw [World.cell?_alloc_new, World.cell?_alloc_new]; exact ⟨rfl, rfl⟩
  have hpr := print_any hp1 (by decide)
  rw [ex_print] at hpr
  simp only [errP_some, Option.getD_some] at hpr
  have HPR := Lib.hid hpr
  have HB1 := Lib.hid hb1
  clear hb1 hp1 hpr
  go_enter Tryz.func10, Tryz.ntmps10
  go_wp2_with fail
  refine HPR.out.mono ?_
  rintro e w2 ⟨⟨v2, rfl, p2, c2, rfl, ht2, hc2, hn2, hm2⟩, hb2⟩
  have hcv := piece_string ht2 (by simp) c2
  have hpa := parse_any p2 _ c2 ht2 hc2 hn2 (by decide)
  rw [ex_parse] at hpa
  simp only [errP_some, Option.getD_some, List.length_cons, List.length_nil, Nat.reduceAdd, Nat.zero_add] at hpa hcv
  have hcv2 : ∀ W, Below w2.heap.size w2 W → (convert 23 9 (.slice p2 10 c2)).run Tryz.prog W = .ok (.string (txt [65, 61, 49, 0, 66, 61, 120, 61, 121, 0])) W := fun W hW => piece_string (ht2.below hW) (by simp) c2
  have HPA := Lib.hid hpa
  have HCV := Lib.hid hcv2
  have HB2 := Lib.hid (HB1.out.trans (hb2.mono (by simp)))
  clear hpa hcv hcv2 hb2 ht2 hc2 hn2 hm2 HPR
  simp only [List.length_cons, List.length_nil, Nat.reduceAdd, Nat.zero_add]
  go_wp2_with fail
  refine HPA.out.mono ?_
  rintro e w3 ⟨⟨v3, rfl, h3⟩, hb3⟩
  obtain ⟨p3, c3, rfl⟩ : ∃ p c, v3 = .slice p 2 c := by
    rcases h3 with ⟨_, h⟩ | ⟨g, o, c, rfl, _⟩
    · cases h
    · exact ⟨_, _, rfl⟩
  have hfd := find_any [66] h3
  rw [ex_find] at hfd
  simp only [Option.getD_some, Option.isSome_some] at hfd
  have HFD := Lib.hid hfd
  have HB3 := Lib.hid hb3
  clear hfd hb3 h3 HPA
  go_wp2_with fail
  refine HFD.out.mono ?_
  rintro e w4 ⟨rfl, hb4⟩
  have hch : Calls Tryz.prog 16 #[.string (txt [120, 44, 78, 111, 110, 101]), .slice (some ⟨w4.heap.size, 0, none⟩) 1 1] (w4.alloc (.cells #[.string (txt [78, 111, 110, 101])] 9)) fun e w' => e = .returned (.tuple #[.string (txt [78, 111, 110, 101]), .bool true]) ∧ Below (w4.alloc (.cells #[.string (txt [78, 111, 110, 101])] 9)).heap.size (w4.alloc (.cells #[.string (txt [78, 111, 110, 101])] 9)) w' := by
    have := choose_any (own := [[78, 111, 110, 101]]) (w := w4.alloc (.cells #[.string (txt [78, 111, 110, 101])] 9)) (v := .slice (some ⟨w4.heap.size, 0, none⟩) 1 1) [120, 44, 78, 111, 110, 101] ⟨some ⟨w4.heap.size, 0, none⟩, 1, rfl, by simp, by unfold maxLen; omega, fun i hi => by
      obtain rfl : i = 0 := by simp at hi; omega
      exact ⟨w4.heap.size, 0, rfl, by simp, by rw [World.cell?_alloc_new]; rfl⟩⟩ (by simp)
    rw [ex_choose] at this
    exact this
  have HCH := Lib.hid hch
  have HB4 := Lib.hid hb4
  clear hch hb4 HFD
  go_wp2_with fail
  refine HCH.out.mono ?_
  rintro e w5 ⟨rfl, hb5⟩
  have b5 : Below w2.heap.size w2 w5 := (HB3.out.trans (HB4.out.mono HB3.out.size)).alloc (Nat.le_trans HB3.out.size HB4.out.size) (.cells #[.string (txt [78, 111, 110, 101])] 9) |>.trans (hb5.mono (by have := HB3.out.size; have := HB4.out.size; simp; omega))
  have b5' : Below w.heap.size w w5 := HB2.out.trans (b5.mono HB2.out.size)
  have hnm := number_any (w := w5) [53, 49, 50] 64 1024 (by simp) (fun W hW => HV.out W (b5'.trans (hW.mono b5'.size)))
  rw [ex_num] at hnm
  have HNM := Lib.hid hnm
  have HB5 := Lib.hid b5
  have HB5' := Lib.hid b5'
  clear hnm b5 b5' hb5 HCH HB3 HB4
  go_wp2_with fail
  refine HNM.out.mono ?_
  rintro e w6 ⟨rfl, hb6⟩
  have hcv := HCV.out w6 (HB5.out.trans (hb6.mono HB5.out.size))
  have HB6 := Lib.hid hb6
  clear hb6
  go_wp2_with fail
  go_ret
  exact ⟨rfl, HB5'.out.trans (HB6.out.mono HB5'.out.size)⟩
end Go.Proofs.YthjlajplckfldaaGreatDoor
