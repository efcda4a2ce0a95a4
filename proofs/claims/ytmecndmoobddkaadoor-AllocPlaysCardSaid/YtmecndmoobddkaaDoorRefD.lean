/-
  PROVED HERE: what the functions of the reference's allocator do to its blocks (Settle, Undo, New, Runs). Conditions: its blocks are its own.
-/
import Derived.Test.YtmecndmoobddkaaDoorRefC
namespace Go.Proofs.YtmecndmoobddkaaDoor
open Go.RowKit

/-- What an allocator's blocks may be behind a step: its own, or new ones. -/
def Newer (w : World) (g g' : Nat) : Prop := g' = g ∨ w.heap.size ≤ g'

set_option maxHeartbeats 800000 in
theorem rundo_any {r g1 g2 : Nat} {s : St} {w : World} (h : IsR w r g1 g2 s) :
    Calls Tryd.prog 21 #[pt r] w fun e w' => e = .returned (.tuple #[]) ∧ ∃ g1', IsR w' r g1' g2 s.undo ∧ w.heap.size ≤ g1' ∧ Upd [r] w w' := by
  obtain ⟨c1, c2, k1, k2, ho⟩ := h.obj
  have c0 := (cells_of ho).1 1
  simp only [List.getElem?_toArray, List.getElem?_cons_succ, List.getElem?_cons_zero] at c0
  have h10 := h.ok.2.1
  have h11 := h.ok.1
  have H := Lib.hid h
  have hg2 := h.set.lt
  have hr := lt_of_block ho
  have HO := Lib.hid ho
  clear h ho
  go_enter Tryd.func21, Tryd.ntmps21
  go_wp2_with fail
  refine (copied_any H.out.set h11 h10).mono ?_
  rintro e w1 ⟨g', c', rfl, hg', hc', hh, hu⟩
  have ho1 := hu.get HO.out (by simp)
  have d0 := (cells_of ho1).1 0
  simp only [List.getElem?_toArray, List.getElem?_cons_zero] at d0
  have dz := (cells_of ho1).2 0
  have HH := Lib.hid hh
  have HU := Lib.hid hu
  have HO1 := Lib.hid ho1
  clear hh hu ho1
  go_wp2
  go_end0
  have hs := heap_setCell_same w1 r 0 _ _ (.slice (some ⟨g', 0, none⟩) s.n c') HO1.out
  have u1 : Upd [r] w1 (w1.setCell ⟨r, 0, none⟩ (.slice (some ⟨g', 0, none⟩) s.n c')) := (Upd.refl _ _).setCell (.inl (by simp)) _
  refine ⟨rfl, g', ⟨⟨c', c2, hc', k2, hs⟩, ?_, ?_, by omega, H.out.ne2, by omega, St.undo_ok H.out.ok, clean_undo H.out.clean⟩, hg', (HU.out.mono (by simp)).trans u1⟩
  · exact (HH.out.upd u1 (by simp; omega))
  · exact ((H.out.set.upd HU.out (by simp)).upd u1 (by simp; exact H.out.ne2))

/-- Settled as far as page k. -/
def half (F D k : Nat) (q : Nat) : Int := if q < k then pst (F ||| D) 0 q else pst F D q
theorem half_zero (F D : Nat) : half F D 0 = pst F D := by funext q; simp [half]
set_option maxHeartbeats 1600000 in
theorem rsettle_any {r g1 g2 : Nat} {s : St} {w : World} (h : IsR w r g1 g2 s) :
    Calls Tryd.prog 19 #[pt r] w fun e w' => e = .returned (.tuple #[]) ∧ ∃ g2', IsR w' r g1 g2' s.settle ∧ w.heap.size ≤ g2' ∧ Upd [r, g1] w w' := by
  obtain ⟨c1, c2, k1, k2, ho⟩ := h.obj
  have h10 := h.ok.2.1
  have h11 := h.ok.1
  have H := Lib.hid h
  have hr := lt_of_block ho
  have hg1 := h.now.lt
  have HO := Lib.hid ho
  clear h ho
  go_enter Tryd.func19, Tryd.ntmps19
  go_wp2
  go_loopw [2] (fun i wr => ∃ k : Nat, k ≤ s.n ∧ i = .int .i64 k ∧ Holds wr g1 s.n (half s.F s.D k) ∧ Upd [g1] w wr) (fun i _ => s.n - (intOf i).toNat)
  case atStart => exact ⟨0, by omega, rfl, by rw [half_zero]; exact H.out.now, Upd.refl _ _⟩
  case round =>
    obtain ⟨k, hk, rfl, hh, hU⟩ := hrel
    have ho1 := hU.get HO.out (by simp; exact Ne.symm H.out.ne1)
    have c0 := (cells_of ho1).1 0
    simp only [List.getElem?_toArray, List.getElem?_cons_zero] at c0
    have HU := Lib.hid hU
    have HH := Lib.hid hh
    have HO1 := Lib.hid ho1
    clear hU hh ho1
    by_cases hlt : k < s.n
    · have hc := HH.out.cell hlt
      have hz := HH.out.free k
      have hv : half s.F s.D k k = pst s.F s.D k := by simp [half]
      rw [hv] at hc
      have hb := pst_dropped (F := s.F) (D := s.D) (q := k) (H.out.clean.1 k)
      have hor : pst (s.F ||| s.D) 0 k = if s.D.testBit k then 0 else pst s.F s.D k := by
        unfold pst
        rw [Nat.testBit_or]
        cases s.F.testBit k <;> cases s.D.testBit k <;> simp
      clear hv
      cases hd : s.D.testBit k
      · rw [hd] at hb hor
        have HR := Lib.hid hor
        clear hor hd
        go_wp2
        go_roundw
        case rel =>
          refine ⟨k + 1, by omega, by go_num, HH.out.congr fun i hi => ?_, HU.out⟩
          unfold half
          by_cases e : i = k
          · subst e; rw [if_neg (by omega), if_pos (by omega), HR.out]; rfl
          · by_cases e2 : i < k
            · rw [if_pos e2, if_pos (by omega)]
            · rw [if_neg e2, if_neg (by omega)]
        case measure => simp [intOf]; omega
      · rw [hd] at hb hor
        have HR := Lib.hid hor
        clear hor hd
        go_wp2
        go_roundw
        case rel =>
          refine ⟨k + 1, by omega, by go_num, HH.out.set k hlt 0 fun i hi => ?_, HU.out.setCell (.inl (by simp)) _⟩
          unfold half
          by_cases e : i = k
          · subst e; rw [if_pos (by omega), if_pos rfl, HR.out]; rfl
          · rw [if_neg e]
            by_cases e2 : i < k
            · rw [if_pos e2, if_pos (by omega)]
            · rw [if_neg e2, if_neg (by omega)]
        case measure => simp [intOf]; omega
    · obtain rfl : k = s.n := by omega
      have hh : Holds wr g1 s.n (pst (s.F ||| s.D) 0) := HH.out.congr fun i hi => by simp [half, hi]
      have HH2 := Lib.hid hh
      have hsz := HU.out.size
      clear hh
      go_wp2_with fail
      refine (copied_any HH2.out h11 h10).mono ?_
      rintro e w1 ⟨g', c', rfl, hg', hc', hh, hu⟩
      have ho2 := hu.get HO1.out (by simp)
      have d0 := (cells_of ho2).1 1
      simp only [List.getElem?_toArray, List.getElem?_cons_succ, List.getElem?_cons_zero] at d0
      have dz := (cells_of ho2).2 1
      have HHn := Lib.hid hh
      have HUn := Lib.hid hu
      have HO2 := Lib.hid ho2
      clear hh hu ho2
      go_wp2
      go_end0
      have hs := heap_setCell_same w1 r 1 _ _ (.slice (some ⟨g', 0, none⟩) s.n c') HO2.out
      have u1 : Upd [r] w1 (w1.setCell ⟨r, 1, none⟩ (.slice (some ⟨g', 0, none⟩) s.n c')) := (Upd.refl _ _).setCell (.inl (by simp)) _
      refine ⟨rfl, g', ⟨⟨c1, c', k1, hc', hs⟩, ?_, ?_, H.out.ne1, by omega, by omega, St.settle_ok H.out.ok, clean_settle s⟩, by omega, ?_⟩
      · exact (HH2.out.upd HUn.out (by simp)).upd u1 (by simp; exact H.out.ne1)
      · exact HHn.out.upd u1 (by simp; omega)
      · exact ((HU.out.mono (by simp)).trans (HUn.out.mono (by simp))).trans (u1.mono (by simp))
end Go.Proofs.YtmecndmoobddkaaDoor
