/-
  PROVED HERE: which pairs may be: the program's function is the plain one. Conditions: those that each theorem names.
-/
import Derived.Test.YtlhdjgibkiffaaaGreatDoorKeyL
import Derived.Test.YtlhdjgibkiffaaaGreatDoorQuiet
namespace Go.Proofs.YtlhdjgibkiffaaaGreatDoor
open Go.RowKit

theorem mayFrom_step {l : List Pr} {seen : List Txt} {k : Nat} (hk : k < l.length) : mayFrom seen (l.drop k) = (okKey (l[k]).1 && okVal (l[k]).2 && !seen.contains (l[k]).1 && mayFrom ((l[k]).1 :: seen) (l.drop (k + 1))) := by
  rw [List.drop_eq_getElem_cons hk, mayFrom]
theorem okKey_long {k : Txt} (h : decide ((63 : Int) < (k.length : Nat)) = true) : okKey k = false := by
  have := of_decide_eq_true h
  simp only [okKey]
  rw [decide_eq_false (show ¬ k.length ≤ 63 by omega)]
  simp
theorem okVal_long {v : Txt} (h : decide ((255 : Int) < (v.length : Nat)) = true) : okVal v = false := by
  have := of_decide_eq_true h
  simp only [okVal]
  rw [decide_eq_false (show ¬ v.length ≤ 255 by omega)]
  simp
theorem mayP_bad {l : List Pr} {k : Nat} {S : List Txt} {key val : Txt} (h : mayFrom [] l = mayFrom S (l.drop k)) (hk : k < l.length) (h1 : (l[k]).1 = key) (h2 : (l[k]).2 = val) (hb : okKey key = false ∨ okVal val = false ∨ S.contains key = true) : mayP l = false := by
  unfold mayP
  rw [h, mayFrom_step hk, h1, h2]
  rcases hb with h | h | h <;> simp only [h] <;> simp
theorem mayFrom_good {l : List Pr} {k : Nat} {S : List Txt} {key val : Txt} (h : mayFrom [] l = mayFrom S (l.drop k)) (hk : k < l.length) (h1 : (l[k]).1 = key) (h2 : (l[k]).2 = val) (g1 : okKey key = true) (g2 : okVal val = true) (g3 : S.contains key = false) : mayFrom [] l = mayFrom (key :: S) (l.drop (k + 1)) := by
  rw [h, mayFrom_step hk, h1, h2, g1, g2, g3]
  simp
theorem total_take {l : List Pr} {k : Nat} {key val : Txt} (hk : k < l.length) (h1 : (l[k]).1 = key) (h2 : (l[k]).2 = val) : total (l.take (k + 1)) = total (l.take k) + (key.length + val.length + 2) := by
  rw [List.take_succ_eq_append_getElem hk, total_append, total_one, h1, h2]
theorem box2_cells {wr w2 : World} {x y : Value} {t : TypeId} (hb : Below (wr.alloc (.cells #[x, y] t)).heap.size (wr.alloc (.cells #[x, y] t)) w2) : w2.cell? ⟨wr.heap.size, 0, none⟩ = some x ∧ w2.cell? ⟨wr.heap.size, 1, none⟩ = some y := by
  rw [hb.cell (p := ⟨wr.heap.size, 0, none⟩) (by simp), hb.cell (p := ⟨wr.heap.size, 1, none⟩) (by simp), World.cell?_alloc_new, World.cell?_alloc_new]
  exact ⟨rfl, rfl⟩
theorem box2_put {w2 w4 : World} {b c : Nat} {x y : Value} (hu : Upd [b] w2 w4) (h1 : w2.cell? ⟨c, 0, none⟩ = some x) (h2 : w2.cell? ⟨c, 1, none⟩ = some y) (hb : b < c) : w4.cell? ⟨c, 0, none⟩ = some x ∧ w4.cell? ⟨c, 1, none⟩ = some y := by
  have e := hu.block c (World.block_lt_of_cell? _ _ h1) (by simp; omega)
  exact ⟨(World.cell?_of_block (a := ⟨c, 0, none⟩) e).trans h1, (World.cell?_of_block (a := ⟨c, 1, none⟩) e).trans h2⟩
/-- Between two rounds of may. -/
structure MayAt (w : World) (b : Nat) (l : List Pr) (k : Nat) (S : List Txt) (W : World) : Prop where
  set : SSet Tryz.prog 9 W b k S
  from_ : mayFrom [] l = mayFrom S (l.drop k)
  tot : total (l.take k) ≤ 320 * k
  below : Below w.heap.size w W
  new : w.heap.size ≤ b
theorem infoPair : (Tryz.prog.info? 68).map (·.size) = some 2 := by kernel_rfl
set_option maxRecDepth 100000 in
set_option maxHeartbeats 4000000 in
theorem may_any {w : World} {v : Value} {l : List Pr} (h : IsPrs w v l) (hl : l.length ≤ 140737488355328) : Calls Tryz.prog 23 #[v] w fun e w' => e = .returned (.bool (mayP l)) ∧ Below w.heap.size w w' := by
  obtain ⟨p, cap, rfl⟩ : ∃ p cap, v = .slice p l.length cap := by
    rcases h with ⟨rfl, rfl⟩ | ⟨g, o, cap, rfl, _⟩
    · exact ⟨_, _, rfl⟩
    · exact ⟨_, _, rfl⟩
  have H := Lib.hid h
  have HL := Lib.hid hl
  clear h hl
  have hmm := @run_makeMap Tryz.prog
  go_enter Tryz.func23, Tryz.ntmps23
  go_wp2_with fail
  go_loopw [4, 10] (fun n i wr => ∃ (k : Nat) (S : List Txt), k ≤ l.length ∧ i = .int .i64 k ∧ n = .int .i64 (total (l.take k) : Nat) ∧ MayAt w w.heap.size l k S wr) (fun _ i _ => l.length - (intOf i).toNat)
  case atStart => exact ⟨0, [], Nat.zero_le _, rfl, rfl, ⟨SSet.made w _ _, rfl, by simp [total], (Below.refl _ _).alloc (Nat.le_refl _) _, Nat.le_refl _⟩⟩
  case round =>
    obtain ⟨k, S, hk, rfl, rfl, hM⟩ := hrel
    by_cases hkl : k < l.length
    · obtain ⟨_, g, o, rfl, hg, hc1, hc2, hcc⟩ := H.out.at hkl
      have HCC := Lib.hid (hcc wr hM.below)
      have HM := Lib.hid hM
      have htot := hM.tot
      have hl := HL.out
      clear hM hcc
      generalize hkey : (l[k]).1 = key at *
      generalize hval : (l[k]).2 = val at *
      have HK := Lib.hid (⟨hkey, hval⟩ : (l[k]).1 = key ∧ (l[k]).2 = val)
      have htr := trimS_nil key
      simp only [List.contains_eq_mem] at htr
      clear hkey hval
      rcases Bool.eq_false_or_eq_true (key.isEmpty) with e1 | e1
      · have HBAD := Lib.hid (mayP_bad HM.out.from_ hkl HK.out.1 HK.out.2 (.inl (by simp [okKey, e1])))
        go_wp2_with (first
                | (refine wpList_load_cells rfl 68 (.tmp 12) rfl g (o + k * 2) 2 rfl [.string (txt key), .string (txt val)] _ HCC.out Tryz.underlying68 rfl infoPair rfl ?_)
                | (go_at_call 32; refine (trim_any (by kernel_rfl) key _ (by omega)).mono ?_; rintro e w2 ⟨rfl, hb2⟩; obtain ⟨hx1, hx2⟩ := box2_cells hb2; have HB2 := Lib.hid hb2; clear hb2)
                | (go_at_call 33; refine (has0_any val _).mono ?_; rintro e w3 ⟨rfl, rfl⟩; rw [e5]; have hlk := ((HM.out.set.upd ((Upd.refl [] _).alloc _) (by simp)).upd (Upd.of_below HB2.out) (by simp)).look Tryz.underlying9 Tryz.underlying50 (Tryz.zeroValue4 _) (x := key) (by unfold maxLen; omega); try rw [e6] at hlk)
                | (refine wpList_sput rfl _ _ _ rfl rfl key rfl rfl Tryz.underlying9 Tryz.underlying50 (by unfold maxLen; omega) ((HM.out.set.upd ((Upd.refl [] _).alloc _) (by simp)).upd (Upd.of_below HB2.out) (by simp)) (by unfold maxLen; omega) ?_; intro w4 hs4 hu4 hz4; obtain ⟨hy1, hy2⟩ := box2_put hu4 hx1 hx2 (by have := HM.out.set.lt; omega); have HS4 := Lib.hid hs4; have HU4 := Lib.hid hu4; clear hs4 hu4 hz4 hx1 hx2))
        go_ret
        exact ⟨by rw [HBAD.out]; rfl, HM.out.below.alloc HM.out.below.size _⟩
      rcases Bool.eq_false_or_eq_true (decide ((63 : Int) < (key.length : Nat))) with e2 | e2
      · have HBAD := Lib.hid (mayP_bad HM.out.from_ hkl HK.out.1 HK.out.2 (.inl (okKey_long e2)))
        have e2n := of_decide_eq_true e2
        go_wp2_with (first
                | (refine wpList_load_cells rfl 68 (.tmp 12) rfl g (o + k * 2) 2 rfl [.string (txt key), .string (txt val)] _ HCC.out Tryz.underlying68 rfl infoPair rfl ?_)
                | (go_at_call 32; refine (trim_any (by kernel_rfl) key _ (by omega)).mono ?_; rintro e w2 ⟨rfl, hb2⟩; obtain ⟨hx1, hx2⟩ := box2_cells hb2; have HB2 := Lib.hid hb2; clear hb2)
                | (go_at_call 33; refine (has0_any val _).mono ?_; rintro e w3 ⟨rfl, rfl⟩; rw [e5]; have hlk := ((HM.out.set.upd ((Upd.refl [] _).alloc _) (by simp)).upd (Upd.of_below HB2.out) (by simp)).look Tryz.underlying9 Tryz.underlying50 (Tryz.zeroValue4 _) (x := key) (by unfold maxLen; omega); try rw [e6] at hlk)
                | (refine wpList_sput rfl _ _ _ rfl rfl key rfl rfl Tryz.underlying9 Tryz.underlying50 (by unfold maxLen; omega) ((HM.out.set.upd ((Upd.refl [] _).alloc _) (by simp)).upd (Upd.of_below HB2.out) (by simp)) (by unfold maxLen; omega) ?_; intro w4 hs4 hu4 hz4; obtain ⟨hy1, hy2⟩ := box2_put hu4 hx1 hx2 (by have := HM.out.set.lt; omega); have HS4 := Lib.hid hs4; have HU4 := Lib.hid hu4; clear hs4 hu4 hz4 hx1 hx2))
        go_ret
        exact ⟨by rw [HBAD.out]; rfl, HM.out.below.alloc HM.out.below.size _⟩
      have e2n := of_decide_eq_false e2
      rcases Bool.eq_false_or_eq_true (key.all fun x => decide (x ∈ letters)) with e3 | e3
      rotate_left
      · have HBAD := Lib.hid (mayP_bad HM.out.from_ hkl HK.out.1 HK.out.2 (.inl (by simp [okKey, List.contains_eq_mem, e3])))
        go_wp2_with (first
                | (refine wpList_load_cells rfl 68 (.tmp 12) rfl g (o + k * 2) 2 rfl [.string (txt key), .string (txt val)] _ HCC.out Tryz.underlying68 rfl infoPair rfl ?_)
                | (go_at_call 32; refine (trim_any (by kernel_rfl) key _ (by omega)).mono ?_; rintro e w2 ⟨rfl, hb2⟩; obtain ⟨hx1, hx2⟩ := box2_cells hb2; have HB2 := Lib.hid hb2; clear hb2)
                | (go_at_call 33; refine (has0_any val _).mono ?_; rintro e w3 ⟨rfl, rfl⟩; rw [e5]; have hlk := ((HM.out.set.upd ((Upd.refl [] _).alloc _) (by simp)).upd (Upd.of_below HB2.out) (by simp)).look Tryz.underlying9 Tryz.underlying50 (Tryz.zeroValue4 _) (x := key) (by unfold maxLen; omega); try rw [e6] at hlk)
                | (refine wpList_sput rfl _ _ _ rfl rfl key rfl rfl Tryz.underlying9 Tryz.underlying50 (by unfold maxLen; omega) ((HM.out.set.upd ((Upd.refl [] _).alloc _) (by simp)).upd (Upd.of_below HB2.out) (by simp)) (by unfold maxLen; omega) ?_; intro w4 hs4 hu4 hz4; obtain ⟨hy1, hy2⟩ := box2_put hu4 hx1 hx2 (by have := HM.out.set.lt; omega); have HS4 := Lib.hid hs4; have HU4 := Lib.hid hu4; clear hs4 hu4 hz4 hx1 hx2))
        go_ret
        exact ⟨by rw [HBAD.out]; rfl, (HM.out.below.alloc HM.out.below.size _).trans (HB2.out.mono (by have := HM.out.below.size; simp; omega))⟩
      rcases Bool.eq_false_or_eq_true (decide ((255 : Int) < (val.length : Nat))) with e4 | e4
      · have HBAD := Lib.hid (mayP_bad HM.out.from_ hkl HK.out.1 HK.out.2 (.inr (.inl (okVal_long e4))))
        have e4n := of_decide_eq_true e4
        go_wp2_with (first
                | (refine wpList_load_cells rfl 68 (.tmp 12) rfl g (o + k * 2) 2 rfl [.string (txt key), .string (txt val)] _ HCC.out Tryz.underlying68 rfl infoPair rfl ?_)
                | (go_at_call 32; refine (trim_any (by kernel_rfl) key _ (by omega)).mono ?_; rintro e w2 ⟨rfl, hb2⟩; obtain ⟨hx1, hx2⟩ := box2_cells hb2; have HB2 := Lib.hid hb2; clear hb2)
                | (go_at_call 33; refine (has0_any val _).mono ?_; rintro e w3 ⟨rfl, rfl⟩; rw [e5]; have hlk := ((HM.out.set.upd ((Upd.refl [] _).alloc _) (by simp)).upd (Upd.of_below HB2.out) (by simp)).look Tryz.underlying9 Tryz.underlying50 (Tryz.zeroValue4 _) (x := key) (by unfold maxLen; omega); try rw [e6] at hlk)
                | (refine wpList_sput rfl _ _ _ rfl rfl key rfl rfl Tryz.underlying9 Tryz.underlying50 (by unfold maxLen; omega) ((HM.out.set.upd ((Upd.refl [] _).alloc _) (by simp)).upd (Upd.of_below HB2.out) (by simp)) (by unfold maxLen; omega) ?_; intro w4 hs4 hu4 hz4; obtain ⟨hy1, hy2⟩ := box2_put hu4 hx1 hx2 (by have := HM.out.set.lt; omega); have HS4 := Lib.hid hs4; have HU4 := Lib.hid hu4; clear hs4 hu4 hz4 hx1 hx2))
        go_ret
        exact ⟨by rw [HBAD.out]; rfl, (HM.out.below.alloc HM.out.below.size _).trans (HB2.out.mono (by have := HM.out.below.size; simp; omega))⟩
      have e4n := of_decide_eq_false e4
      rcases Bool.eq_false_or_eq_true (val.contains 0) with e5 | e5
      · have HBAD := Lib.hid (mayP_bad HM.out.from_ hkl HK.out.1 HK.out.2 (.inr (.inl (by unfold okVal; rw [e5]; simp))))
        go_wp2_with (first
                | (refine wpList_load_cells rfl 68 (.tmp 12) rfl g (o + k * 2) 2 rfl [.string (txt key), .string (txt val)] _ HCC.out Tryz.underlying68 rfl infoPair rfl ?_)
                | (go_at_call 32; refine (trim_any (by kernel_rfl) key _ (by omega)).mono ?_; rintro e w2 ⟨rfl, hb2⟩; obtain ⟨hx1, hx2⟩ := box2_cells hb2; have HB2 := Lib.hid hb2; clear hb2)
                | (go_at_call 33; refine (has0_any val _).mono ?_; rintro e w3 ⟨rfl, rfl⟩; rw [e5]; have hlk := ((HM.out.set.upd ((Upd.refl [] _).alloc _) (by simp)).upd (Upd.of_below HB2.out) (by simp)).look Tryz.underlying9 Tryz.underlying50 (Tryz.zeroValue4 _) (x := key) (by unfold maxLen; omega); try rw [e6] at hlk)
                | (refine wpList_sput rfl _ _ _ rfl rfl key rfl rfl Tryz.underlying9 Tryz.underlying50 (by unfold maxLen; omega) ((HM.out.set.upd ((Upd.refl [] _).alloc _) (by simp)).upd (Upd.of_below HB2.out) (by simp)) (by unfold maxLen; omega) ?_; intro w4 hs4 hu4 hz4; obtain ⟨hy1, hy2⟩ := box2_put hu4 hx1 hx2 (by have := HM.out.set.lt; omega); have HS4 := Lib.hid hs4; have HU4 := Lib.hid hu4; clear hs4 hu4 hz4 hx1 hx2))
        go_ret
        exact ⟨by rw [HBAD.out]; rfl, (HM.out.below.alloc HM.out.below.size _).trans (HB2.out.mono (by have := HM.out.below.size; simp; omega))⟩
      rcases Bool.eq_false_or_eq_true (S.contains key) with e6 | e6
      · have HBAD := Lib.hid (mayP_bad HM.out.from_ hkl HK.out.1 HK.out.2 (.inr (.inr e6)))
        go_wp2_with (first
                | (refine wpList_load_cells rfl 68 (.tmp 12) rfl g (o + k * 2) 2 rfl [.string (txt key), .string (txt val)] _ HCC.out Tryz.underlying68 rfl infoPair rfl ?_)
                | (go_at_call 32; refine (trim_any (by kernel_rfl) key _ (by omega)).mono ?_; rintro e w2 ⟨rfl, hb2⟩; obtain ⟨hx1, hx2⟩ := box2_cells hb2; have HB2 := Lib.hid hb2; clear hb2)
                | (go_at_call 33; refine (has0_any val _).mono ?_; rintro e w3 ⟨rfl, rfl⟩; rw [e5]; have hlk := ((HM.out.set.upd ((Upd.refl [] _).alloc _) (by simp)).upd (Upd.of_below HB2.out) (by simp)).look Tryz.underlying9 Tryz.underlying50 (Tryz.zeroValue4 _) (x := key) (by unfold maxLen; omega); try rw [e6] at hlk)
                | (refine wpList_sput rfl _ _ _ rfl rfl key rfl rfl Tryz.underlying9 Tryz.underlying50 (by unfold maxLen; omega) ((HM.out.set.upd ((Upd.refl [] _).alloc _) (by simp)).upd (Upd.of_below HB2.out) (by simp)) (by unfold maxLen; omega) ?_; intro w4 hs4 hu4 hz4; obtain ⟨hy1, hy2⟩ := box2_put hu4 hx1 hx2 (by have := HM.out.set.lt; omega); have HS4 := Lib.hid hs4; have HU4 := Lib.hid hu4; clear hs4 hu4 hz4 hx1 hx2))
        go_ret
        exact ⟨by rw [HBAD.out]; rfl, (HM.out.below.alloc HM.out.below.size _).trans (HB2.out.mono (by have := HM.out.below.size; simp; omega))⟩
      have hgood := mayFrom_good HM.out.from_ hkl HK.out.1 HK.out.2 (by simp [okKey, e1, List.contains_eq_mem, e3]; omega) (by unfold okVal; rw [e5]; simp; omega) e6
      have HGOOD := Lib.hid hgood
      have htk := total_take hkl HK.out.1 HK.out.2
      have HTK := Lib.hid htk
      clear hgood htk
      go_wp2_with (first
              | (refine wpList_load_cells rfl 68 (.tmp 12) rfl g (o + k * 2) 2 rfl [.string (txt key), .string (txt val)] _ HCC.out Tryz.underlying68 rfl infoPair rfl ?_)
              | (go_at_call 32; refine (trim_any (by kernel_rfl) key _ (by omega)).mono ?_; rintro e w2 ⟨rfl, hb2⟩; obtain ⟨hx1, hx2⟩ := box2_cells hb2; have HB2 := Lib.hid hb2; clear hb2)
              | (go_at_call 33; refine (has0_any val _).mono ?_; rintro e w3 ⟨rfl, rfl⟩; rw [e5]; have hlk := ((HM.out.set.upd ((Upd.refl [] _).alloc _) (by simp)).upd (Upd.of_below HB2.out) (by simp)).look Tryz.underlying9 Tryz.underlying50 (Tryz.zeroValue4 _) (x := key) (by unfold maxLen; omega); try rw [e6] at hlk)
              | (refine wpList_sput rfl _ _ _ rfl rfl key rfl rfl Tryz.underlying9 Tryz.underlying50 (by unfold maxLen; omega) ((HM.out.set.upd ((Upd.refl [] _).alloc _) (by simp)).upd (Upd.of_below HB2.out) (by simp)) (by unfold maxLen; omega) ?_; intro w4 hs4 hu4 hz4; obtain ⟨hy1, hy2⟩ := box2_put hu4 hx1 hx2 (by have := HM.out.set.lt; omega); have HS4 := Lib.hid hs4; have HU4 := Lib.hid hu4; clear hs4 hu4 hz4 hx1 hx2))
      go_roundw
      case rel =>
        refine ⟨k + 1, key :: S, by omega, by simp, by rw [HTK.out]; simp, ⟨HS4.out, HGOOD.out, by rw [HTK.out]; omega, ?_, Nat.le_refl _⟩⟩
        have hz := HM.out.below.size
        have hz2 := HB2.out.size
        simp only [World.size_alloc] at hz2
        exact ((HM.out.below.alloc hz _).trans (HB2.out.mono (by simp; omega))).trans (HU4.out.below (by omega) (by simp))
      case measure => simp [intOf]; omega
    · obtain rfl : k = l.length := by omega
      have hfm := hM.from_
      rw [List.drop_length, mayFrom] at hfm
      have HFM := Lib.hid hfm
      have HM := Lib.hid hM
      rw [List.take_length]
      clear hM hfm
      rcases Nat.lt_or_ge 16 l.length with h16 | h16
      · have h16' : decide ((l.length : Int) ≤ 16) = false := decide_eq_false (by omega)
        go_wp2_with fail
        go_ret
        refine ⟨?_, HM.out.below⟩
        rw [show mayP l = false by unfold mayP; rw [HFM.out, decide_eq_false (show ¬ l.length ≤ 16 by omega)]; simp]
        rfl
      · have h16' : decide ((l.length : Int) ≤ 16) = true := decide_eq_true (by omega)
        go_wp2_with fail
        go_ret
        refine ⟨?_, HM.out.below⟩
        rw [show mayP l = decide ((total l : Int) ≤ 1024) by unfold mayP; rw [HFM.out, decide_eq_true h16, Bool.true_and, Bool.true_and]; exact decide_eq_decide.2 (by omega)]
        rfl
end Go.Proofs.YtlhdjgibkiffaaaGreatDoor
