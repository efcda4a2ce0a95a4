/-
  PROVED HERE: the document's Save of any superblock. Conditions: those that each theorem names.
-/
import Derived.Test.YtpnpjffhkaejgaaGreatDoorSuperE
import Derived.Test.YtpnpjffhkaejgaaGreatDoorRefDH
namespace Go.Proofs.YtpnpjffhkaejgaaGreatDoor
open Go.RowKit

set_option maxRecDepth 100000 in
set_option maxHeartbeats 3200000 in
theorem rsave_any {w : World} {r : Nat} {F : Nat → Prop} {S : Dk} (h : RefX w r F S) (x0 x1 x2 x3 x4 x5 x6 : Int) (hvl : ∀ i, i < S.n → (S.sec i).ver.length ≤ 2000000000000) :
    Calls Tryz.prog 9 #[.pointer (some ⟨r, 0, none⟩), .agg #[.int .i64 x0, .int .i64 x1, .int .i64 x2, .int .i64 x3, .int .i64 x4, .int .i64 x5, .int .i64 x6]] w fun e w' => e = .returned (.int .i64 (S.save x0 x1 x2 x3 x4 x5 x6).1) ∧ RWrote w' r F w.heap.size (S.save x0 x1 x2 x3 x4 x5 x6).2 ∧ UpdP F w w' := by
  have ua := (Upd.refl [] w).alloc (.cells (supC x0 x1 x2 x3 x4 x5 x6) 34)
  have hb := heap_alloc_new w (.cells (supC x0 x1 x2 x3 x4 x5 x6) 34)
  have hA := h.up ua (by simp)
  obtain ⟨gl, rc, hcell⟩ : ∃ gl rc, ∀ W, Upd [] (w.alloc (.cells (supC x0 x1 x2 x3 x4 x5 x6) 34)) W → W.cell? ⟨r, 0, none⟩ = some (.slice (some ⟨gl, 0, none⟩) S.n rc) := by
    obtain ⟨L, hL⟩ := hA
    exact ⟨L.gl, L.cap, fun W u => by
      obtain ⟨c0, _⟩ := rcell hL.hd
      rw [← c0]
      exact World.cell?_of_block (u.block r (World.block_lt_of_cell? _ _ c0) (by simp))⟩
  have HS := Lib.hid (fun W (u : Upd [] (w.alloc (.cells (supC x0 x1 x2 x3 x4 x5 x6) 34)) W) => (⟨sup_cells (u.get hb (by simp)), hcell W u⟩ : _ ∧ _))
  have HR := Lib.hid (fun W => rcheck_any (w := W) x0 x1 x2 x3 x4 x5 x6 (S.n : Nat))
  have HA := Lib.hid hA
  have HU := Lib.hid ua
  have HB := Lib.hid hb
  have HVL := Lib.hid hvl
  have HF := Lib.hid (show ∀ x, F x → x < w.heap.size from by obtain ⟨L, hL⟩ := h; exact hL.old)
  clear ua hb hA hcell hvl h
  cases hk : okCheck x0 x1 x2 x3 x4 x5 x6 S.n
  · rw [hk] at HR
    have hs : S.save x0 x1 x2 x3 x4 x5 x6 = (1, S) := by unfold Dk.save; rw [hk]; rfl
    rw [hs]
    clear hk hs
    unfold errOf at HR
    go_enter Tryz.func9, Tryz.ntmps9
    go_wp2_with fail
    refine wp_region_quiet_at (fun W => Upd [] (w.alloc (.cells (supC x0 x1 x2 x3 x4 x5 x6) 34)) W) rfl (by kernel_rfl) (Upd.refl [] _).drew ?_
    iterate 6
      apply qs_val rfl
      · intro W hW
        obtain ⟨⟨d0, d1, d2, d3, d4, d5, d6⟩, dr⟩ := HS.out W hW
        go_simp
        all_goals with_reducible rfl
      simp only [Act.put, List.setIfInBounds_toArray, List.set_cons_zero, List.set_cons_succ]
    refine qs_call (v := .int .i64 1) (f := 21) (args := #[.agg #[.int .i64 x0, .int .i64 x1, .int .i64 x2, .int .i64 x3, .int .i64 x4, .int .i64 x5, .int .i64 x6], .int .i64 (S.n : Nat)]) rfl (fun W hW => by go_simp) (fun W hW => (HR.out W).mono fun e W' ⟨q1, q2⟩ => ⟨q1, hW.trans q2⟩) ?_
    simp only [Act.put, List.setIfInBounds_toArray, List.set_cons_zero, List.set_cons_succ]
    iterate 1
      apply qs_val rfl
      · intro W hW
        go_simp
        all_goals with_reducible rfl
      simp only [Act.put, List.setIfInBounds_toArray, List.set_cons_zero, List.set_cons_succ]
    refine wpQuiet_nil ?_
    intro W6 hW6
    have H6 := Lib.hid (HA.out.up hW6 (by simp))
    have U6 := Lib.hid (HU.out.trans hW6)
    clear hW6
    go_wp2
    go_ret
    exact ⟨rfl, ⟨F, H6.out, fun x hx => .inl hx⟩, U6.out.p (by simp)⟩
  · rw [hk] at HR
    have hs : S.save x0 x1 x2 x3 x4 x5 x6 = S.write (x0 % 2) (frame (superBytes [x0, x1, x2, x3, x4, x5, x6])) true := by unfold Dk.save; rw [hk]; rfl
    rw [hs]
    have ho : okSuper [x0, x1, x2, x3, x4, x5, x6] = true := by
      unfold okCheck at hk
      exact (Bool.and_eq_true_iff.1 hk).1
    have hps : putSuper [x0, x1, x2, x3, x4, x5, x6] = some (frame (superBytes [x0, x1, x2, x3, x4, x5, x6])) := by unfold putSuper; rw [ho]; rfl
    obtain ⟨r0, _⟩ := okSuper_7 ho
    have HPS := Lib.hid hps
    have hfl : (frame (superBytes [x0, x1, x2, x3, x4, x5, x6])).length = 256 := frame_len (by rw [superBytes_len]; simp)
    have HFL := Lib.hid hfl
    clear hk hs ho hps hfl
    unfold errOf at HR
    go_enter Tryz.func9, Tryz.ntmps9
    go_wp2_with fail
    refine wp_region_quiet_at (fun W => Upd [] (w.alloc (.cells (supC x0 x1 x2 x3 x4 x5 x6) 34)) W) rfl (by kernel_rfl) (Upd.refl [] _).drew ?_
    iterate 6
      apply qs_val rfl
      · intro W hW
        obtain ⟨⟨d0, d1, d2, d3, d4, d5, d6⟩, dr⟩ := HS.out W hW
        go_simp
        all_goals with_reducible rfl
      simp only [Act.put, List.setIfInBounds_toArray, List.set_cons_zero, List.set_cons_succ]
    refine qs_call (v := .int .i64 0) (f := 21) (args := #[.agg #[.int .i64 x0, .int .i64 x1, .int .i64 x2, .int .i64 x3, .int .i64 x4, .int .i64 x5, .int .i64 x6], .int .i64 (S.n : Nat)]) rfl (fun W hW => by go_simp) (fun W hW => (HR.out W).mono fun e W' ⟨q1, q2⟩ => ⟨q1, hW.trans q2⟩) ?_
    simp only [Act.put, List.setIfInBounds_toArray, List.set_cons_zero, List.set_cons_succ]
    iterate 1
      apply qs_val rfl
      · intro W hW
        go_simp
        all_goals with_reducible rfl
      simp only [Act.put, List.setIfInBounds_toArray, List.set_cons_zero, List.set_cons_succ]
    refine wpQuiet_nil ?_
    intro W6 hW6
    have H6 := Lib.hid (HA.out.up hW6 (by simp))
    have U6 := Lib.hid hW6
    obtain ⟨⟨d0, d1, d2, d3, d4, d5, d6⟩, dr⟩ := HS.out _ hW6
    clear hW6
    go_wp2_with fail
    have hpt := rputSuper_any (w := W6) x0 x1 x2 x3 x4 x5 x6
    rw [HPS.out] at hpt
    (with_reducible refine hpt.mono ?_)
    rintro e w2 ⟨⟨v2, rfl, r2⟩, u2⟩
    have hR2 := H6.out.up u2 (by simp)
    obtain ⟨a2, cap2, e2, hb2, hlow2, hc2, hm2⟩ := r2.slice
    simp only [Option.getD_some] at e2 hb2 hc2
    rw [HFL.out] at e2
    subst e2
    have hsz := (HU.out.trans U6.out).size
    have hwr := rwrite_any (cap := cap2) hR2 (x0 % 2) true hb2 (fun b o e hf => by have := hlow2 b o e; have := HF.out b hf; omega) hc2 hm2 HVL.out HFL.out.symm
    have HWR := Lib.hid hwr
    have U2 := Lib.hid ((HU.out.trans U6.out).trans u2)
    clear d0 d1 d2 d3 d4 d5 d6 dr
    obtain ⟨⟨d0, d1, d2, d3, d4, d5, d6⟩, dr⟩ := HS.out _ (U6.out.trans u2)
    clear hwr hR2 hb2 hlow2 hc2 hm2 r2 u2 hpt hsz
    simp only [Option.isSome_some, if_true]
    go_wp2_with fail
    (with_reducible refine HWR.out.mono ?_)
    rintro e w3 ⟨rfl, ⟨F', h3, hF⟩, u3⟩
    have H3 := Lib.hid h3
    have HF3 := Lib.hid hF
    have U3 := Lib.hid u3
    clear h3 hF u3
    go_wp2
    go_ret
    exact ⟨rfl, ⟨F', H3.out, fun x hx => by
      rcases HF3.out x hx with e | e
      · exact .inl e
      · right; have := U2.out.size; omega⟩, (U2.out.p (F := F) (by simp)).step U3.out (fun x hx => .inl hx)⟩
end Go.Proofs.YtpnpjffhkaejgaaGreatDoor
