/-
  PROVED HERE: the document's PutHead. Conditions: the pages can be read.
-/
import Derived.Test.YtkahpkmofeglgaaDoorHeadW
import Derived.Test.YtkahpkmofeglgaaDoorImageS
namespace Go.Proofs.YtkahpkmofeglgaaDoor
open Go.RowKit

theorem okHead0_cases' (h : Hd) : (okHead0 h = true ∧ inB h.epoch 1099511627776 = true ∧ inB h.seq 1099511627776 = true ∧ decide ((h.pages.length : Int) < 1) = false ∧ decide (40 < (h.pages.length : Int)) = false) ∨
    (okHead0 h = false ∧ (inB h.epoch 1099511627776 = false ∨ (inB h.epoch 1099511627776 = true ∧ inB h.seq 1099511627776 = false) ∨ (inB h.epoch 1099511627776 = true ∧ inB h.seq 1099511627776 = true ∧ decide ((h.pages.length : Int) < 1) = true) ∨
      (inB h.epoch 1099511627776 = true ∧ inB h.seq 1099511627776 = true ∧ decide ((h.pages.length : Int) < 1) = false ∧ decide (40 < (h.pages.length : Int)) = true))) := by
  rcases okHead0_cases h with ⟨h0, h1, h2, h3, h4⟩ | ⟨h0, h1 | ⟨h1, h2⟩ | ⟨h1, h2, h3⟩ | ⟨h1, h2, h3, h4⟩⟩
  · rw [beq_eq_false_iff_ne] at h3
    exact .inl ⟨h0, h1, h2, decide_eq_false (by omega), h4⟩
  · exact .inr ⟨h0, .inl h1⟩
  · exact .inr ⟨h0, .inr (.inl ⟨h1, h2⟩)⟩
  · rw [beq_iff_eq] at h3
    exact .inr ⟨h0, .inr (.inr (.inl ⟨h1, h2, decide_eq_true (by omega)⟩))⟩
  · rw [beq_eq_false_iff_ne] at h3
    exact .inr ⟨h0, .inr (.inr (.inr ⟨h1, h2, decide_eq_false (by omega), h4⟩))⟩
set_option maxRecDepth 100000 in
set_option maxHeartbeats 3200000 in
theorem rputHead_no {w : World} {a : Option Addr} {cap : Nat} (h : Hd) (ho : okHead0 h = false) (hl : h.pages.length ≤ 9223372036854775807) :
    Calls Tryd.prog 32 #[headV h (.slice a h.pages.length cap)] w fun e w' => PutOut w.heap.size (putHead h) e w' ∧ Upd [] w w' := by
  rw [putHead_not0 ho]
  obtain ⟨ep, sq, sm, pg⟩ := h
  unfold headV
  simp only at hl ⊢
  rcases okHead0_cases' ⟨ep, sq, sm, pg⟩ with ⟨h1, _⟩ | ⟨_, h1⟩
  · rw [ho] at h1; cases h1
  simp only at h1
  clear ho
  rcases h1 with h1 | ⟨h1, h2⟩ | ⟨h1, h2, h3⟩ | ⟨h1, h2, h3, h4⟩
  all_goals
    go_enter Tryd.func32, Tryd.ntmps32
    go_wp2_with (go_at_call 56; refine (rin_b _ _ _).mono ?_; rintro e w' ⟨rfl, rfl⟩)
    go_ret2
    exact ⟨PutOut.no _ _, (Upd.refl [] w).alloc _⟩
set_option maxRecDepth 100000 in
set_option maxHeartbeats 6400000 in
theorem rputHead_yes {w : World} {a : Option Addr} {cap : Nat} {h : Hd} (hb : IsInts w a h.pages) (ho : okHead0 h = true) (hsm : h.sum < 4294967296) :
    Calls Tryd.prog 32 #[headV h (.slice a h.pages.length cap)] w fun e w' => PutOut w.heap.size (putHead h) e w' ∧ Upd [] w w' := by
  rcases okHead0_cases' h with ⟨_, d1, d2, d3, d4⟩ | ⟨h1, _⟩
  rotate_left
  · rw [ho] at h1; cases h1
  obtain ⟨_, _, hl1, hl2⟩ := okHead0_parts ho
  have he := inB_true.1 d1
  have hs := inB_true.1 d2
  have HPS := Lib.hid (fun hp => putHead_some (h := h) ho hp)
  have HPN := Lib.hid (fun k hk hp => putHead_notp (h := h) (okPages_not (k := k) hk hp))
  obtain ⟨ep, sq, sm, pg⟩ := h
  simp only at hl1 hl2 he hs d1 d2 d3 d4 hb HPS HPN hsm
  unfold headV
  simp only
  obtain ⟨ep, rfl⟩ := Int.eq_ofNat_of_zero_le he.1
  obtain ⟨sq, rfl⟩ := Int.eq_ofNat_of_zero_le hs.1
  have HB := Lib.hid hb
  have hx := heap_alloc_new w (.cells #[.int .i64 ep, .int .i64 sq, .slice a pg.length cap, .int .u32 sm] 59)
  have hu := (Upd.refl [] w).alloc (.cells #[.int .i64 ep, .int .i64 sq, .slice a pg.length cap, .int .u32 sm] 59)
  generalize hW : w.alloc (.cells #[.int .i64 ep, .int .i64 sq, .slice a pg.length cap, .int .u32 sm] 59) = W at hx hu
  have hsz : W.heap.size = w.heap.size + 1 := by rw [← hW]; simp
  have HWE := Lib.hid hW
  have HX := Lib.hid hx
  have HU := Lib.hid hu
  have HSZ := Lib.hid hsz
  have HS : Hid (∀ w', Upd [] W w' → w'.cell? ⟨w.heap.size, 0, none⟩ = some (.int .i64 (ep : Int)) ∧ w'.cell? ⟨w.heap.size, 1, none⟩ = some (.int .i64 (sq : Int)) ∧ w'.cell? ⟨w.heap.size, 2, none⟩ = some (.slice a pg.length cap) ∧ w'.cell? ⟨w.heap.size, 3, none⟩ = some (.int .u32 (sm : Int))) := fun w' u => by
    obtain ⟨k, _⟩ := cells_of (u.get hx (by simp))
    exact ⟨k 0, k 1, k 2, k 3⟩
  have HL : Hid (IsOut (W.alloc (.cells #[.int .u8 80, .int .u8 76, .int .u8 79, .int .u8 71] 5 (4, 5))).drew w.heap.size (.slice (some ⟨W.heap.size, 0, none⟩) 4 4) [80, 76, 79, 71]) := by
    have := heap_alloc_new W.drew (.cells #[.int .u8 80, .int .u8 76, .int .u8 79, .int .u8 71] 5 (4, 5))
    rw [show W.drew.heap.size = W.heap.size from rfl] at this
    exact isOut_lit (l := [80, 76, 79, 71]) this (fun x hx => by simp at hx; omega) (by omega) (by decide)
  have UL := Lib.hid (show Upd [] W (W.alloc (.cells #[.int .u8 80, .int .u8 76, .int .u8 79, .int .u8 71] 5 (4, 5))).drew from ((Upd.refl [] W).alloc _).drew)
  have hcv : ∀ (n c : Nat), (convert 27 27 (.slice (some ⟨W.heap.size, 0, none⟩) n c)).run Tryd.prog (W.alloc (.cells #[.int .u8 80, .int .u8 76, .int .u8 79, .int .u8 71] 5)).drew = .ok (.slice (some ⟨W.heap.size, 0, none⟩) n c) (W.alloc (.cells #[.int .u8 80, .int .u8 76, .int .u8 79, .int .u8 71] 5 (4, 5))).drew := fun n c => Lib.run_convert_bytes_const (P := Tryd.prog) W.drew 27 5 #[.int .u8 80, .int .u8 76, .int .u8 79, .int .u8 71] n c Tryd.underlying27 Tryd.underlying5
  clear hb ho hx hu hsz hW he hs
  go_enter Tryd.func32, Tryd.ntmps32
  go_wp2_with (go_at_call 56; refine (rin_b _ _ _).mono ?_; rintro e w' ⟨rfl, rfl⟩)
  rw [HWE.out]
  have hE0 := HS.out W.drew (Upd.refl [] W).drew
  have hE1 := HS.out _ ((Upd.refl [] W).alloc (.cells #[.int .u8 80, .int .u8 76, .int .u8 79, .int .u8 71] 5)).drew
  have hE2 := HS.out _ UL.out
  first | (go_region_held (fun w' => w'.cell? ⟨w.heap.size, 0, none⟩ = some (.int .i64 (ep : Int)) ∧ w'.cell? ⟨w.heap.size, 1, none⟩ = some (.int .i64 (sq : Int)) ∧ w'.cell? ⟨w.heap.size, 2, none⟩ = some (.slice a pg.length cap) ∧ w'.cell? ⟨w.heap.size, 3, none⟩ = some (.int .u32 (sm : Int))) (first | exact hE0 | exact hE1 | exact hE2 | exact hE3 | exact hE4) (first
    | (go_at_call 57; (with_reducible refine (rput_k 8 8 rfl HL.out (by have := HSZ.out; simp; omega) (by decide) (by decide)).mono ?_); rintro e w3 ⟨v3, rfl, g3, m3⟩; have U3 := Lib.hid (UL.out.step m3.upd (fun x hx => by simp [Value.ownBlock] at hx; right; have := HSZ.out; omega)); have hE3 := HS.out _ U3.out; have G3 := Lib.hid g3; have M3 := Lib.hid m3; clear g3 m3)
    | (go_at_call 57; (with_reducible refine (rput_k 8 8 rfl G3.out (by have := HSZ.out; have := U3.out.size; omega) (by decide) (by simp [be_len])).mono ?_); rintro e w4 ⟨v4, rfl, g4, m4⟩; have M4 := Lib.hid (M3.out.trans m4); have U4 := Lib.hid (UL.out.step M4.out.upd (fun x hx => by simp [Value.ownBlock] at hx; right; have := HSZ.out; omega)); have hE4 := HS.out _ U4.out; have G4 := Lib.hid g4; clear g4 m4))) | fail
  clear hcv hE0 hE1 hE2 hE3 hE4 M3 U3 G3
  have hE0 := HS.out w4.drew U4.out.drew
  have hwr : IntKind.i64.wrap (sm : Int) = (sm : Int) := IntWalk.i64_in _ (by omega)
  have GD := Lib.hid (G4.out.upd (Upd.refl [] w4).drew (by simp))
  have HZD := Lib.hid (show w.heap.size ≤ w4.drew.heap.size from Nat.le_trans (by have := HSZ.out; omega) U4.out.size)
  have MD := Lib.hid (show Mine (.slice (some ⟨W.heap.size, 0, none⟩) 4 4) _ v4 w4.drew from M4.out.drew)
  go_wp2_with fail
  first | (go_region_held (fun w' => w'.cell? ⟨w.heap.size, 0, none⟩ = some (.int .i64 (ep : Int)) ∧ w'.cell? ⟨w.heap.size, 1, none⟩ = some (.int .i64 (sq : Int)) ∧ w'.cell? ⟨w.heap.size, 2, none⟩ = some (.slice a pg.length cap) ∧ w'.cell? ⟨w.heap.size, 3, none⟩ = some (.int .u32 (sm : Int))) (first | exact hE0 | exact hE5 | exact hE6) (first
    | (go_at_call 57; (with_reducible refine (rput_k 4 4 rfl GD.out HZD.out (by decide) (by simp [be_len])).mono ?_); rintro e w5 ⟨v5, rfl, g5, m5⟩; have M5 := Lib.hid (MD.out.trans m5); have U5 := Lib.hid (UL.out.step M5.out.upd (fun x hx => by simp [Value.ownBlock] at hx; right; have := HSZ.out; omega)); have hE5 := HS.out _ U5.out; have G5 := Lib.hid g5; clear g5 m5)
    | (go_at_call 57; (with_reducible refine (rput_k 2 2 rfl G5.out (by have := HSZ.out; have := U5.out.size; omega) (by decide) (by simp [be_len])).mono ?_); rintro e w6 ⟨v6, rfl, g6, m6⟩; have M6 := Lib.hid (M5.out.trans m6); have U6 := Lib.hid (UL.out.step M6.out.upd (fun x hx => by simp [Value.ownBlock] at hx; right; have := HSZ.out; omega)); have hE6 := HS.out _ U6.out; have G6 := Lib.hid g6; clear g6 m6))) | fail
  have G7 := Lib.hid (show IsOut w6 w.heap.size v6 (headHead ⟨ep, sq, sm, pg⟩ ++ pageNums (pg.take 0)) by
    have e : headHead ⟨ep, sq, sm, pg⟩ ++ pageNums (pg.take 0) = [80, 76, 79, 71] ++ be ep 8 ++ be sq 8 ++ be sm 4 ++ be pg.length 2 := by unfold headHead pageNums; simp
    rw [e]; exact G6.out)
  have UW := Lib.hid (HU.out.trans UL.out)
  clear hE0 hE5 hE6 M5 U5 G5 G6 M4 G4 U4 GD HZD MD
  go_wp2_with fail
  go_loopw [4, 5] (fun v i wr => ∃ k : Nat, k ≤ pg.length ∧ i = .int .i64 k ∧ (∀ j (hj : j < k) (h7 : j < pg.length), inB pg[j] 1023 = true) ∧ IsOut wr w.heap.size v (headHead ⟨ep, sq, sm, pg⟩ ++ pageNums (pg.take k)) ∧ Mine (.slice (some ⟨W.heap.size, 0, none⟩) 4 4) (W.alloc (.cells #[.int .u8 80, .int .u8 76, .int .u8 79, .int .u8 71] 5 (4, 5))).drew v wr) (fun _ i _ => pg.length - (intOf i).toNat)
  case atStart => exact ⟨0, by omega, rfl, fun j hj => absurd hj (by omega), G7.out, M6.out⟩
  case round =>
    obtain ⟨k, hk, rfl, hin, hV, hM⟩ := hrel
    have HIN := Lib.hid hin
    have HV := Lib.hid hV
    have HM := Lib.hid hM
    have UWr := Lib.hid (UL.out.step hM.upd (fun x hx => by simp [Value.ownBlock] at hx; right; omega))
    have HUr := Lib.hid (HU.out.trans UWr.out)
    have HZ := Lib.hid (show w.heap.size ≤ wr.heap.size from HUr.out.size)
    obtain ⟨q0, q1, q2, q3⟩ := HS.out _ UWr.out
    clear hin hV hM
    by_cases hlt7 : k < pg.length
    · obtain ⟨b, o, rfl, hc⟩ := (HB.out.upd HUr.out (by simp)) k hlt7
      have HSS := Lib.hid (pageNums_take pg k hlt7)
      have HLN := Lib.hid (show (headHead ⟨ep, sq, sm, pg⟩ ++ pageNums (pg.take k)).length + 4 ≤ 100000000000000 by rw [List.length_append, headHead_len, pageNums_len, List.length_take]; omega)
      have HN := Lib.hid (HPN.out k hlt7)
      generalize hx : pg[k] = x at hc HSS HN
      have HXX := Lib.hid hx
      clear hx
      cases hI : inB x 1023
      · go_wp2_with (go_at_call 56; refine (rin_b _ _ _).mono ?_; rintro e w' ⟨rfl, rfl⟩)
        go_ret2
        rw [HN.out hI]
        exact ⟨PutOut.no _ _, HUr.out⟩
      · obtain ⟨m, rfl⟩ := Int.eq_ofNat_of_zero_le (inB_true.1 hI).1
        go_wp2_with (first | (go_at_call 56; refine (rin_b _ _ _).mono ?_; rintro e w' ⟨rfl, rfl⟩) | (go_at_call 57; refine (rput_k 4 4 rfl HV.out HZ.out (by decide) HLN.out).mono ?_; rintro e w8 ⟨v8, rfl, h8, m8⟩; have H8 := Lib.hid h8; have M8 := Lib.hid m8; clear h8 m8))
        go_roundw
        case rel =>
          refine ⟨k + 1, by omega, by go_num, fun j hj h7 => ?_, by rw [HSS.out, ← List.append_assoc]; exact H8.out, HM.out.trans M8.out⟩
          by_cases e : j = k
          · subst e; rw [HXX.out]; exact hI
          · exact HIN.out j (by omega) h7
        case measure => simp [intOf]; omega
    · obtain rfl : k = pg.length := by omega
      have HO := Lib.hid (HPS.out (okPages_of fun k hk => HIN.out k (by omega) hk))
      have hVf := HV.out
      rw [List.take_length] at hVf
      have HVF := Lib.hid hVf
      have HLE := Lib.hid (show (headHead ⟨ep, sq, sm, pg⟩ ++ pageNums pg).length ≤ 252 by rw [List.length_append, headHead_len, pageNums_len]; omega)
      clear hVf
      go_wp2_with (go_at_call 58; refine (rframed_any HVF.out HZ.out HLE.out).mono ?_; rintro e w9 ⟨v9, rfl, h9, m9⟩; have H9 := Lib.hid h9; have M9 := Lib.hid (HM.out.trans m9); clear h9 m9)
      go_ret2
      rw [HO.out]
      exact ⟨PutOut.yes H9.out.ret, HU.out.trans (UL.out.step M9.out.upd (fun x hx => by simp [Value.ownBlock] at hx; right; omega))⟩
end Go.Proofs.YtkahpkmofeglgaaDoor
