/-
  PROVED HERE: the law KeysTurned comes out true. Conditions: those that each theorem names.
-/
import Derived.Test.YthjlajplckfldaaDoorKeyG
import Derived.Test.YthjlajplckfldaaDoorKeyK
namespace Go.Proofs.YthjlajplckfldaaDoor
open Go.RowKit Go.Shelf
theorem take_rev {l : List Pr} {j : Nat} (hj : j < l.length) : l.reverse.take (l.length - j) = l.reverse.take (l.length - (j + 1)) ++ [l[j]] := by
  have h1 : l.length - (j + 1) < l.reverse.length := by simp; omega
  have h2 := List.take_succ_eq_append_getElem h1
  rw [show l.length - j = l.length - (j + 1) + 1 by omega, h2]
  congr 2
  rw [List.getElem_reverse]
  congr 1
  omega
set_option maxRecDepth 100000 in
set_option maxHeartbeats 4000000 in
theorem turned_any {w : World} {v : Value} {l : List Pr} (key : Txt) (h : IsPrsA w v l) (hl : l.length ≤ 4398046511103) (hV : ∀ W, Below w.heap.size w W → Vars W) : Calls Tryd.prog 4 #[v, .string (txt key)] w fun e w' => e = .returned (.bool true) ∧ Below w.heap.size w w' := by
  obtain ⟨p, cap, rfl⟩ : ∃ p cap, v = .slice p l.length cap := h.slice
  have H := Lib.hid h
  have HL := Lib.hid hl
  have HV := Lib.hid hV
  have HG := Lib.hid (fun W hW => given_any (h.below (w' := W) hW) hl)
  clear h hl hV
  go_enter Tryd.func4, Tryd.ntmps4
  go_wp2_with fail
  refine (HG.out w (Below.refl _ _)).mono ?_
  rintro e w1 ⟨⟨v1, rfl, h1⟩, hb1⟩
  have hpr := print_any h1 (by have := HL.out; omega)
  have HPR := Lib.hid hpr
  have HB1 := Lib.hid hb1
  clear hpr h1 hb1
  go_wp2_with fail
  refine HPR.out.mono ?_
  rintro e w2 ⟨⟨v2, rfl, h2⟩, hb2⟩
  have hb2' : Below w.heap.size w w2 := HB1.out.trans (hb2.mono HB1.out.size)
  have HKN := Lib.hid (known_any (w := w2) (fun W hW => HV.out W (hb2'.trans (hW.mono hb2'.size))))
  obtain ⟨p2, c2, rfl, hrest⟩ := h2
  have H2 := Lib.hid hrest
  have HB2 := Lib.hid hb2'
  clear hb2 hb2' hrest HPR
  go_wp2_with fail
  refine HKN.out.mono ?_
  rintro e w3 ⟨rfl, hb3⟩
  have HB3 := Lib.hid (HB2.out.trans (hb3.mono HB2.out.size))
  have HB23 := Lib.hid hb3
  clear hb3 HKN
  cases hm : mayP l with
  | false =>
    rw [printO_no hm]
    simp only [errP_none, Option.getD_none, List.length_nil]
    go_wp2_with fail
    go_ret
    exact ⟨rfl, HB3.out⟩
  | true =>
    have hmi := (mayP_iff l).1 hm
    have HMI := Lib.hid hmi
    have HM := Lib.hid hm
    rw [printO_yes hm] at H2 ⊢
    simp only [errP_some, Option.getD_some] at H2 ⊢
    have hpl : (printP l).length = total l := printP_length l
    rw [hpl]
    rw [hpl] at H2
    have HTL := Lib.hid (show total l ≤ 1024 from hmi.2.2.2)
    have HL16 := Lib.hid (show l.length ≤ 16 from hmi.2.2.1)
    clear hm hmi hpl
    have hw1 : wrap64 ((l.length : Nat) - 1 : Int) = (l.length : Nat) - 1 := IntWalk.wrap64_in _ (by have := HL16.out; omega)
    have HW1 := Lib.hid hw1
    clear hw1
    go_wp2_with fail
    go_loopw [7, 8] (fun u i wr => ∃ k : Nat, k ≤ l.length ∧ i = .int .i64 ((l.length : Int) - 1 - k) ∧ wr.ownsRow w.heap.size 31 2 u (l.reverse.take k).length (prCells (l.reverse.take k)) ∧ Below w.heap.size w wr) (fun _ i _ => (intOf i + 1).toNat)
    case atStart => exact ⟨0, Nat.zero_le _, by have := HW1.out; simpa using this, World.ownsRow_nil _ _ _ _, HB3.out⟩
    case round =>
      obtain ⟨k, hk, rfl, hO, hB⟩ := hrel
      have HO := Lib.hid hO
      have HB := Lib.hid hB
      have hl := HL16.out
      clear hO hB
      by_cases hkl : k < l.length
      · obtain ⟨j, hj⟩ : ∃ j, l.length = k + j + 1 := ⟨l.length - (k + 1), by omega⟩
        have hjl : j < l.length := by omega
        rw [show ((l.length : Nat) : Int) - 1 - (k : Nat) = (j : Nat) by omega]
        obtain ⟨-, g, o, rfl, hg, hc1, hc2, hcc⟩ := H.out.at hjl
        have hcat : l.reverse.take (k + 1) = l.reverse.take k ++ [l[j]] := by
          have := take_rev hjl
          rwa [show l.length - j = k + 1 by omega, show l.length - (j + 1) = k by omega] at this
        generalize hkey : (l[j]).1 = ky at *
        generalize hval : (l[j]).2 = val at *
        have hcat2 : l.reverse.take (k + 1) = l.reverse.take k ++ [(ky, val)] := by rw [hcat, ← hkey, ← hval]
        have HCC := Lib.hid (fun W hW => (⟨by have := hcc W hW 0 _ rfl; rwa [Nat.add_zero] at this, hcc W hW 1 _ rfl⟩ : W.cell? ⟨g, o + j * 2, none⟩ = some (.string (txt ky)) ∧ W.cell? ⟨g, o + j * 2 + 1, none⟩ = some (.string (txt val))))
        have HCAT := Lib.hid hcat2
        have HJ := Lib.hid hj
        have hjl2 : j < l.length := hjl
        clear hcc hkey hval hcat hcat2 hj
        have hlen : (l.reverse.take k).length = k := by rw [List.length_take, List.length_reverse]; omega
        obtain ⟨i0, hi, hz0, hz1, hz2⟩ := info_parts infoPair3
        have hap := run_append_own (P := Tryd.prog) (wr.drew.alloc (.cells [.string (txt ky), .string (txt val)].toArray 31)) w.heap.size 23 23 31 i0 _ 2 32 Tryd.underlying23 hi hz0 hz1 hz2 rfl (by decide) _ (l.reverse.take k).length (prCells (l.reverse.take k)) ((HO.out.drew).alloc _) ⟨wr.heap.size, 0, none⟩ 1 1 [.string (txt ky), .string (txt val)] rfl (news_at wr.drew [.string (txt ky), .string (txt val)] _) (by simp [Value.oneCell']) (by unfold maxLen; omega) (by omega) (by have := HB.out.size; simp; omega)
        obtain ⟨v6, w6, hrun, h6, g6, _⟩ := hap
        obtain ⟨gg6, cap6, rfl⟩ := ownsRow_succ h6
        have h6' : w6.ownsRow w.heap.size 31 2 (.slice (some ⟨gg6, 0, none⟩) (k + 1) cap6) (l.reverse.take (k + 1)).length (prCells (l.reverse.take (k + 1))) := by
          rw [HCAT.out, prCells_append, List.length_append]
          rw [hlen] at h6 ⊢
          simpa [prCells] using h6
        have hb6 : Below w.heap.size w w6 := (HB.out.drew.alloc HB.out.size (.cells [.string (txt ky), .string (txt val)].toArray 31)).trans ((Upd.of_grown g6).below (by have := HB.out.size; simp; omega) (fun x hx => ownsRow_block HO.out x hx))
        rw [hlen] at hrun
        have HRUN := Lib.hid hrun
        have H6 := Lib.hid h6'
        have HB6 := Lib.hid hb6
        clear hrun h6 h6' hb6 hlen g6 hi hz0 hz1 hz2
        go_wp2_with fail
        refine wp_region_order (fun W => Below w.heap.size w W) [0, 1, 2, 3, 4, 5, 6, 7, 8, 9, 10, 11] [[12, 13, 14]] 3 rfl (by kernel_rfl) HB.out.drew ?_
        simp only [List.map_cons, List.map_nil, opAt]
        iterate 12
          apply reads_step rfl
          · intro wq hq
            obtain ⟨q1, q2⟩ := HCC.out wq hq
            go_simp
            all_goals with_reducible rfl
          simp only [Act.put, List.setIfInBounds_toArray, List.set_cons_zero, List.set_cons_succ]
        refine ⟨?_, trivial⟩
        simp only [List.map_cons, List.map_nil, opAt]
        refine ⟨rfl, ?_⟩
        go_simp
        refine ⟨(HB.out.alloc HB.out.size _).drew, ?_⟩
        refine tail_val (w' := w6) (.slice (some ⟨gg6, 0, none⟩) (k + 1) cap6) rfl (exec_append rfl rfl rfl HRUN.out) HB6.out ?_
        refine ⟨rfl, ?_⟩
        go_simp
        refine ⟨HB6.out, ?_⟩
        dsimp only [OnlyN, Exit.then, wpTail, Exit.inBlock]
        go_wp2
        go_roundw
        case rel => exact ⟨k + 1, hkl, by have := HJ.out; congr 1; omega, H6.out, HB6.out⟩
        case measure => simp [intOf]
      · have hkl2 : k = l.length := by omega
        subst hkl2
        rw [show ((l.length : Nat) : Int) - 1 - (l.length : Nat) = -1 by omega]
        have hprs := prs_of_row HO.out
        rw [show l.reverse.take l.length = l.reverse by rw [List.take_of_length_le (by simp)]] at hprs
        have hpr2 := print_any hprs (by rw [List.length_reverse]; have := HL.out; omega)
        rw [printO_yes (by rw [mayP_reverse]; exact HM.out)] at hpr2
        simp only [errP_some, Option.getD_some] at hpr2
        have HPR2 := Lib.hid hpr2
        clear hprs hpr2
        go_wp2_with fail
        refine HPR2.out.mono ?_
        rintro e w4 ⟨⟨v4, rfl, p4, c4, rfl, h4, h5, h6, h7, h8⟩, hb4⟩
        have hpl4 : (printP l.reverse).length = total l := by rw [printP_length, total_reverse]
        have hpa := parse_any p4 (printP l.reverse) c4 h4 h5 h6 (by rw [hpl4]; have := HTL.out; omega)
        rw [parseP_printed (by rw [mayP_reverse]; exact HM.out)] at hpa
        simp only [errP_some, Option.getD_some] at hpa
        rw [hpl4] at hpa ⊢
        have HPA := Lib.hid hpa
        have HB4 := Lib.hid (HB.out.trans (hb4.mono HB.out.size))
        clear hpa h4 h5 h6 h7 h8 hb4 hpl4 HPR2
        go_wp2_with fail
        refine HPA.out.mono ?_
        rintro e w5 ⟨⟨v5, rfl, h5⟩, hb5⟩
        have HB5 := Lib.hid (HB4.out.trans (hb5.mono HB4.out.size))
        have H5 := Lib.hid h5
        clear h5 hb5 HPA
        go_wp2_with fail
        refine (HG.out w5 HB5.out).mono ?_
        rintro e w6 ⟨⟨v6, rfl, h6⟩, hb6⟩
        have HF6 := Lib.hid (find_any key h6)
        have HB56 := Lib.hid hb6
        have HB6 := Lib.hid (HB5.out.trans (hb6.mono HB5.out.size))
        clear h6 hb6
        go_wp2_with fail
        refine HF6.out.mono ?_
        rintro e w7 ⟨rfl, hb7⟩
        have HF7 := Lib.hid (find_any key (H5.out.below (HB56.out.trans (hb7.mono HB56.out.size))))
        rw [findP_reverse HMI.out.2.1] at HF7
        have HB7 := Lib.hid (HB6.out.trans (hb7.mono HB6.out.size))
        clear hb7 HF6
        generalize (findP l key).getD [] = fv at *
        generalize (findP l key).isSome = fb at *
        go_wp2_with fail
        refine HF7.out.mono ?_
        rintro e w8 ⟨rfl, hb8⟩
        have HB8 := Lib.hid (HB7.out.trans (hb8.mono HB7.out.size))
        clear hb8
        go_wp2_with fail
        go_ret
        exact ⟨rfl, HB8.out⟩
end Go.Proofs.YthjlajplckfldaaDoor
