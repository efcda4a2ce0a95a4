/-
  PROVED HERE: Number of package keys is the plain function. Conditions: those that each theorem names.
-/
import Derived.Test.YtlhdjgibkiffaaaGreatDoorKeyL
import Derived.Test.YtlhdjgibkiffaaaGreatDoorQuiet
namespace Go.Proofs.YtlhdjgibkiffaaaGreatDoor
open Go.RowKit Go.Shelf
/-- The library's variables that a number's reading uses. -/
structure Vars (w : World) : Prop where
  syn : ∃ t p, w.var? Tryz.prog "strconv.ErrSyntax" = some #[.iface t p]
  ran : ∃ t p, w.var? Tryz.prog "strconv.ErrRange" = some #[.iface t p]
  tab : Lib.TabIs Tryz.prog w "internal/strconv.uint64pow10" .u64 Lib.pow10Tab
set_option maxRecDepth 100000 in
set_option maxHeartbeats 2000000 in
theorem number_any {w : World} (s : Txt) (least most : Int) (hs : s.length ≤ 281474976710656) (hV : ∀ W, Below w.heap.size w W → Vars W) : Calls Tryz.prog 55 #[.string (txt s), .int .i64 least, .int .i64 most] w fun e w' => e = .returned (.tuple #[.int .i64 (numR s least most).1, .bool (numR s least most).2]) ∧ Below w.heap.size w w' := by
  obtain ⟨⟨t1, p1, e1⟩, ⟨t2, p2, e2⟩, _⟩ := hV w (Below.refl _ _)
  have HA := Lib.hid (fun w h1 h2 => atoi_any s w hs (t1 := t1) (p1 := p1) (t2 := t2) (p2 := p2) h1 h2)
  have HAT := Lib.hid (HA.out w e1 e2)
  have HV := Lib.hid hV
  rw [← numP_eq]
  clear hV e1 e2 HA
  go_enter Tryz.func55, Tryz.ntmps55
  go_wp2_with fail
  refine HAT.out.mono ?_
  rintro e w1 ⟨⟨v, er, rfl, hcase⟩, hb1⟩
  have HB1 := Lib.hid hb1
  clear hb1
  rcases hcase with ⟨hok, rfl⟩ | ⟨hno, ty, a, rfl⟩
  · have hbd := Lib.atoiAll_bounds hok
    have HI := Lib.hid (itoa_any v hbd.1 hbd.2 w1 (HV.out w1 HB1.out).tab)
    have hnp : numP s least most = if v < 0 ∨ Lib.itoa v ≠ s ∨ v < least ∨ most < v then (0, false) else (v, true) := by unfold numP; rw [hok]
    have HNP := Lib.hid hnp
    clear hok hnp
    rcases Bool.eq_false_or_eq_true (decide (v < 0)) with c1 | c1
    · rw [if_pos (.inl (of_decide_eq_true c1))] at HNP
      go_wp2_with (go_at_call 74; refine HI.out.mono ?_; rintro e w2 ⟨rfl, hb2⟩; have HB2 := Lib.hid hb2; clear hb2)
      go_ret2
      exact ⟨by rw [HNP.out]; rfl, HB1.out⟩
    rcases Bool.eq_false_or_eq_true (Lib.itoa v == s) with c2 | c2
    rotate_left
    · rw [if_pos (.inr (.inl (by simpa using c2)))] at HNP
      go_wp2_with (go_at_call 74; refine HI.out.mono ?_; rintro e w2 ⟨rfl, hb2⟩; have HB2 := Lib.hid hb2; clear hb2)
      go_ret2
      exact ⟨by rw [HNP.out]; rfl, HB1.out.trans (HB2.out.mono HB1.out.size)⟩
    rcases Bool.eq_false_or_eq_true (decide (v < least)) with c3 | c3
    · rw [if_pos (.inr (.inr (.inl (of_decide_eq_true c3))))] at HNP
      go_wp2_with (go_at_call 74; refine HI.out.mono ?_; rintro e w2 ⟨rfl, hb2⟩; have HB2 := Lib.hid hb2; clear hb2)
      go_ret2
      exact ⟨by rw [HNP.out]; rfl, HB1.out.trans (HB2.out.mono HB1.out.size)⟩
    rcases Bool.eq_false_or_eq_true (decide (most < v)) with c4 | c4
    · rw [if_pos (.inr (.inr (.inr (of_decide_eq_true c4))))] at HNP
      go_wp2_with (go_at_call 74; refine HI.out.mono ?_; rintro e w2 ⟨rfl, hb2⟩; have HB2 := Lib.hid hb2; clear hb2)
      go_ret2
      exact ⟨by rw [HNP.out]; rfl, HB1.out.trans (HB2.out.mono HB1.out.size)⟩
    rw [if_neg (by rintro (h | h | h | h); exact absurd h (of_decide_eq_false c1); exact h (by simpa using c2); exact absurd h (of_decide_eq_false c3); exact absurd h (of_decide_eq_false c4))] at HNP
    go_wp2_with (go_at_call 74; refine HI.out.mono ?_; rintro e w2 ⟨rfl, hb2⟩; have HB2 := Lib.hid hb2; clear hb2)
    go_ret2
    exact ⟨by rw [HNP.out]; rfl, HB1.out.trans (HB2.out.mono HB1.out.size)⟩
  · have hnp : numP s least most = (0, false) := by
      unfold numP
      split
      · rename_i x hx; exact absurd hx (hno x)
      · rfl
    have HNP := Lib.hid hnp
    clear hno hnp
    go_wp2_with fail
    go_ret2
    exact ⟨by rw [HNP.out]; rfl, HB1.out⟩
end Go.Proofs.YtlhdjgibkiffaaaGreatDoor
