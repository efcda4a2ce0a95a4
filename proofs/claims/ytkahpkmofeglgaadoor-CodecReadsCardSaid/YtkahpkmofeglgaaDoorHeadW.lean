/-
  PROVED HERE: PutHead of package codec. Conditions: the table may be used; the pages can be read.
-/
import Derived.Test.YtkahpkmofeglgaaDoorHeadGet
import Derived.Test.YtkahpkmofeglgaaDoorInts
import Derived.Test.YtkahpkmofeglgaaDoorKnown
namespace Go.Proofs.YtkahpkmofeglgaaDoor
open Go.RowKit

/-- A head as the program holds it: its pages are the slice v. -/
def headV (h : Hd) (v : Value) : Value := .agg #[.int .i64 h.epoch, .int .i64 h.seq, v, .int .u32 (h.sum : Int)]
theorem okHead0_cases (h : Hd) : (okHead0 h = true ∧ inB h.epoch 1099511627776 = true ∧ inB h.seq 1099511627776 = true ∧ ((h.pages.length : Int) == 0) = false ∧ decide (40 < (h.pages.length : Int)) = false) ∨
    (okHead0 h = false ∧ (inB h.epoch 1099511627776 = false ∨ (inB h.epoch 1099511627776 = true ∧ inB h.seq 1099511627776 = false) ∨ (inB h.epoch 1099511627776 = true ∧ inB h.seq 1099511627776 = true ∧ ((h.pages.length : Int) == 0) = true) ∨
      (inB h.epoch 1099511627776 = true ∧ inB h.seq 1099511627776 = true ∧ ((h.pages.length : Int) == 0) = false ∧ decide (40 < (h.pages.length : Int)) = true))) := by
  unfold okHead0
  cases h1 : inB h.epoch 1099511627776
  · exact .inr ⟨Bool.false_and _, .inl rfl⟩
  cases h2 : inB h.seq 1099511627776
  · exact .inr ⟨rfl, .inr (.inl ⟨rfl, rfl⟩)⟩
  rw [Bool.true_and, Bool.true_and]
  by_cases h3 : h.pages.length = 0
  · exact .inr ⟨decide_eq_false (by omega), .inr (.inr (.inl ⟨rfl, rfl, by rw [beq_iff_eq]; omega⟩))⟩
  by_cases h4 : 40 < h.pages.length
  · exact .inr ⟨decide_eq_false (by omega), .inr (.inr (.inr ⟨rfl, rfl, by rw [beq_eq_false_iff_ne]; omega, decide_eq_true (by omega)⟩))⟩
  · exact .inl ⟨decide_eq_true (by omega), rfl, rfl, by rw [beq_eq_false_iff_ne]; omega, decide_eq_false (by omega)⟩
set_option maxRecDepth 100000 in
set_option maxHeartbeats 3200000 in
theorem putHead_no {t : Option Addr} {w : World} {a : Option Addr} {cap : Nat} (h : Hd) (ht : t = none ∨ ∃ b, t = some ⟨b, 0, none⟩ ∧ okHead0 h = false) (hl : h.pages.length ≤ 9223372036854775807) :
    Calls Tryd.prog 31 #[.pointer t, headV h (.slice a h.pages.length cap)] w fun e w' => e = .returned (.tuple #[.slice none 0 0, .int .i64 1]) ∧ Upd [] w w' := by
  obtain ⟨ep, sq, sm, pg⟩ := h
  unfold headV
  simp only at hl ⊢
  rcases ht with rfl | ⟨b, rfl, ho⟩
  · go_enter Tryd.func31, Tryd.ntmps31
    go_wp2
    go_ret2
    exact ⟨rfl, (Upd.refl [] w).alloc _⟩
  · rcases okHead0_cases ⟨ep, sq, sm, pg⟩ with ⟨h1, _⟩ | ⟨_, h1⟩
    · rw [ho] at h1; cases h1
    simp only at h1
    clear ho
    rcases h1 with h1 | ⟨h1, h2⟩ | ⟨h1, h2, h3⟩ | ⟨h1, h2, h3, h4⟩
    all_goals
      go_enter Tryd.func31, Tryd.ntmps31
      go_wp2_with (go_at_call 52; refine (in_b _ _ _).mono ?_; rintro e w' ⟨rfl, rfl⟩)
      go_ret2
      exact ⟨rfl, (Upd.refl [] w).alloc _⟩
set_option maxRecDepth 100000 in
set_option maxHeartbeats 6400000 in
theorem putHead_yes {t : Nat} {w : World} {a : Option Addr} {cap : Nat} {h : Hd} (ht : TabOk w t) (hb : IsInts w a h.pages) (ho : okHead0 h = true) (hsm : h.sum < 4294967296) :
    Calls Tryd.prog 31 #[pt t, headV h (.slice a h.pages.length cap)] w fun e w' => PutOut w.heap.size (putHead h) e w' ∧ TabOk w' t ∧ Upd [t] w w' := by
  rcases okHead0_cases h with ⟨_, d1, d2, d3, d4⟩ | ⟨h1, _⟩
  rotate_left
  · rw [ho] at h1; cases h1
  obtain ⟨_, _, hl1, hl2⟩ := okHead0_parts ho
  have he := inB_true.1 d1
  have hs := inB_true.1 d2
  have HPS := Lib.hid (fun hp => putHead_some (h := h) ho hp)
  have HPN := Lib.hid (fun k hk hp => putHead_notp (h := h) (okPages_not (k := k) hk hp))
  obtain ⟨ep, sq, sm, pg⟩ := h
  simp only at hl1 hl2 he hs d1 d2 d3 d4 hb HPS HPN hsm
  unfold headV
  simp only
  obtain ⟨ep, rfl⟩ := Int.eq_ofNat_of_zero_le he.1
  obtain ⟨sq, rfl⟩ := Int.eq_ofNat_of_zero_le hs.1
  have HT := Lib.hid ht
  have HB := Lib.hid hb
  have hlt := Lib.hid ht.lt
  have HE := Lib.hid (show ep < 9223372036854775808 by omega)
  have HS := Lib.hid (show sq < 9223372036854775808 by omega)
  have HSM := Lib.hid (show sm < 9223372036854775808 by omega)
  have HLN := Lib.hid (show pg.length < 9223372036854775808 by omega)
  have hC0 := ((Upd.refl [] _).alloc (.cells Tryd.zeroCells107 107)).get (heap_alloc_new w (.cells #[.int .i64 ep, .int .i64 sq, .slice a pg.length cap, .int .u32 sm] 59)) (by simp)
  have hW0 := isW_made (w.alloc (.cells #[.int .i64 ep, .int .i64 sq, .slice a pg.length cap, .int .u32 sm] 59))
  rw [show (w.alloc (.cells #[.int .i64 ep, .int .i64 sq, .slice a pg.length cap, .int .u32 sm] 59)).heap.size = w.heap.size + 1 by simp] at hW0
  have HC0 := Lib.hid hC0
  have HW0 := Lib.hid hW0
  clear ht hb ho hC0 hW0 he hs
  have hcells : ∀ w' : World, w'.heap[w.heap.size]? = some (.cells #[.int .i64 (ep : Int), .int .i64 (sq : Int), .slice a pg.length cap, .int .u32 (sm : Int)] 59 (0, 0)) → w'.cell? ⟨w.heap.size, 0, none⟩ = some (.int .i64 (ep : Int)) ∧ w'.cell? ⟨w.heap.size, 1, none⟩ = some (.int .i64 (sq : Int)) ∧ w'.cell? ⟨w.heap.size, 2, none⟩ = some (.slice a pg.length cap) ∧ w'.cell? ⟨w.heap.size, 3, none⟩ = some (.int .u32 (sm : Int)) := fun w' hx => by
    obtain ⟨k, _⟩ := cells_of hx
    exact ⟨k 0, k 1, k 2, k 3⟩
  have HCE := Lib.hid hcells
  clear hcells
  go_enter Tryd.func31, Tryd.ntmps31
  go_wp2_with (go_at_call 52; refine (in_b _ _ _).mono ?_; rintro e w' ⟨rfl, rfl⟩)
  refine (text_any (s := ⟨#[80, 76, 79, 71]⟩) HW0.out (by decide) (by decide)).mono ?_
  rintro e w1 ⟨rfl, g1, u1⟩
  have HC1 := Lib.hid (u1.get HC0.out (by simp))
  have G1 := Lib.hid (show IsW w1 (w.heap.size + 1) [80, 76, 79, 71] from g1)
  have U1 := Lib.hid ((((Upd.refl [] w).alloc _).alloc _).step u1 (T := [w.heap.size + 1]) (fun x hx => .inr (by simp at hx; omega)))
  clear g1 u1 HC0 HW0
  obtain ⟨q0, q1, q2, q3⟩ := HCE.out _ HC1.out
  go_wp2_with fail
  refine (put_any (k := 8) G1.out (by decide) HE.out (by simp)).mono ?_
  rintro e w2 ⟨rfl, g2, u2⟩
  have HC2 := Lib.hid (u2.get HC1.out (by simp))
  have G2 := Lib.hid g2
  have U2 := Lib.hid (U1.out.step u2 (fun x hx => .inr (by simp at hx; omega)))
  clear g2 u2 HC1 G1 q0 q1 q2 q3
  obtain ⟨q0, q1, q2, q3⟩ := HCE.out _ HC2.out
  go_wp2_with fail
  refine (put_any (k := 8) G2.out (by decide) HS.out (by simp [be_len])).mono ?_
  rintro e w3 ⟨rfl, g3, u3⟩
  have HC3 := Lib.hid (u3.get HC2.out (by simp))
  have G3 := Lib.hid g3
  have U3 := Lib.hid (U2.out.step u3 (fun x hx => .inr (by simp at hx; omega)))
  clear g3 u3 HC2 G2 q0 q1 q2 q3
  obtain ⟨q0, q1, q2, q3⟩ := HCE.out _ HC3.out
  go_wp2_with fail
  refine (put_any (k := 4) G3.out (by decide) HSM.out (by simp [be_len])).mono ?_
  rintro e w4 ⟨rfl, g4, u4⟩
  have HC4 := Lib.hid (u4.get HC3.out (by simp))
  have G4 := Lib.hid g4
  have U4 := Lib.hid (U3.out.step u4 (fun x hx => .inr (by simp at hx; omega)))
  clear g4 u4 HC3 G3 q0 q1 q2 q3
  obtain ⟨q0, q1, q2, q3⟩ := HCE.out _ HC4.out
  go_wp2_with fail
  refine (put_any (k := 2) G4.out (by decide) HLN.out (by simp [be_len])).mono ?_
  rintro e w5 ⟨rfl, g5, u5⟩
  have HC5 := Lib.hid (u5.get HC4.out (by simp))
  have G5 := Lib.hid (show IsW w5 (w.heap.size + 1) (headHead ⟨ep, sq, sm, pg⟩ ++ pageNums (pg.take 0)) by
    have e : headHead ⟨ep, sq, sm, pg⟩ ++ pageNums (pg.take 0) = [80, 76, 79, 71] ++ be ep 8 ++ be sq 8 ++ be sm 4 ++ be pg.length 2 := by unfold headHead pageNums; simp
    rw [e]; exact g5)
  have U5 := Lib.hid (U4.out.step u5 (fun x hx => .inr (by simp at hx; omega)))
  clear g5 u5 HC4 G4 q0 q1 q2 q3
  obtain ⟨q0, q1, q2, q3⟩ := HCE.out _ HC5.out
  go_wp2
  go_loopw [53] (fun i wr => ∃ k : Nat, k ≤ pg.length ∧ i = .int .i64 k ∧ (∀ j (hj : j < k) (h7 : j < pg.length), inB pg[j] 1023 = true) ∧ IsW wr (w.heap.size + 1) (headHead ⟨ep, sq, sm, pg⟩ ++ pageNums (pg.take k)) ∧ Upd [] w wr) (fun i _ => pg.length - (intOf i).toNat)
  case atStart => exact ⟨0, by omega, rfl, fun j hj => absurd hj (by omega), G5.out, U5.out⟩
  case round =>
    obtain ⟨k, hk, rfl, hin, hW, hU⟩ := hrel
    have HIN := Lib.hid hin
    have HWR := Lib.hid hW
    have HU := Lib.hid hU
    clear hin hW hU
    by_cases hlt7 : k < pg.length
    · obtain ⟨b, o, rfl, hc⟩ := (HB.out.upd HU.out (by simp)) k hlt7
      have HSS := Lib.hid (pageNums_take pg k hlt7)
      have HL := Lib.hid (show (headHead ⟨ep, sq, sm, pg⟩ ++ pageNums (pg.take k)).length = 26 + 4 * k by rw [List.length_append, headHead_len, pageNums_len, List.length_take]; omega)
      have HN := Lib.hid (HPN.out k hlt7)
      generalize hx : pg[k] = x at hc HSS HN
      have HX := Lib.hid hx
      clear hx
      cases hI : inB x 1023
      · go_wp2_with (go_at_call 52; refine (in_b _ _ _).mono ?_; rintro e w' ⟨rfl, rfl⟩)
        go_ret2
        rw [HN.out hI]
        exact ⟨PutOut.no _ _, HT.out.upd HU.out (by simp), HU.out.mono (by simp)⟩
      · obtain ⟨m, rfl⟩ := Int.eq_ofNat_of_zero_le (inB_true.1 hI).1
        have hm := (inB_true.1 hI).2
        go_wp2_with (first | (go_at_call 52; refine (in_b _ _ _).mono ?_; rintro e w' ⟨rfl, rfl⟩) | (go_at_call 53; refine (put_any (k := 4) HWR.out (by decide) (by omega) (by rw [HL.out]; omega)).mono ?_; rintro e w6 ⟨rfl, h6, u6⟩; have H6 := Lib.hid h6; have U6 := Lib.hid u6; clear h6 u6))
        go_roundw
        case rel =>
          refine ⟨k + 1, by omega, by go_num, fun j hj h7 => ?_, by rw [HSS.out, ← List.append_assoc]; exact H6.out, HU.out.step U6.out (fun x hx => .inr (by simp at hx; omega))⟩
          by_cases e : j = k
          · subst e; rw [HX.out]; exact hI
          · exact HIN.out j (by omega) h7
        case measure => simp [intOf]; omega
    · obtain rfl : k = pg.length := by omega
      have HO := Lib.hid (HPS.out (okPages_of fun k hk => HIN.out k (by omega) hk))
      have hWf := HWR.out
      rw [List.take_length] at hWf
      have HWF := Lib.hid hWf
      have HLE := Lib.hid (show (headHead ⟨ep, sq, sm, pg⟩ ++ pageNums pg).length ≤ 252 by rw [List.length_append, headHead_len, pageNums_len]; omega)
      have HNE := Lib.hid (show w.heap.size + 1 ≠ t by have := hlt.out; omega)
      clear hWf
      go_wp2_with (go_at_call 54; refine (framed_any HWF.out HLE.out (HT.out.upd HU.out (by simp)) HNE.out).mono ?_; rintro e w7 ⟨rfl, h7, t7, u7⟩; have H7 := Lib.hid h7; have T7 := Lib.hid t7; have U7 := Lib.hid u7; clear h7 t7 u7)
      go_ret2
      rw [HO.out]
      exact ⟨PutOut.yes (H7.out.ret (by omega) (frame_len HLE.out) (by decide)), .inr T7.out, (HU.out.mono (by simp)).step U7.out (fun x hx => by
        simp at hx
        rcases hx with h | h
        · exact .inr (by omega)
        · exact .inl (by simp [h]))⟩
end Go.Proofs.YtkahpkmofeglgaaDoor
