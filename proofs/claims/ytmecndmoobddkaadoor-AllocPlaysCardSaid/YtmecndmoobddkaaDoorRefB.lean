/-
  PROVED HERE: what the functions of the reference's allocator do to its blocks. Conditions: its blocks are its own.
-/
import Derived.Test.YtmecndmoobddkaaDoorRefA
namespace Go.Proofs.YtmecndmoobddkaaDoor
open Go.RowKit

theorem clean_mark {s : St} (h : s.clean) (p : Int) : (s.mark p).clean := by
  unfold St.mark; split
  · exact ⟨fun q hq => by show (clr s.F p.toNat).testBit q = false; rw [clr_bit, h.1 q hq]; rfl, h.2⟩
  · exact h
theorem clean_take {s : St} (h : s.clean) : s.take.clean := by
  unfold St.take; split
  · exact clean_mark h _
  · exact h
theorem clean_drop {s : St} (h : s.clean) (p : Int) : (s.drop p).clean := by
  unfold St.drop; split
  · rename_i hc
    simp only [St.canDrop, Bool.and_eq_true, Bool.not_eq_true'] at hc
    refine ⟨fun q hq => ?_, h.2⟩
    have hq : (put s.D p.toNat).testBit q = true := hq
    rw [put_bit, Bool.or_eq_true, decide_eq_true_eq] at hq
    rcases hq with hq | hq
    · exact h.1 q hq
    · subst hq; exact hc.1.2
  · exact h
theorem clean_settle (s : St) : s.settle.clean := ⟨fun q hq => by simp [St.settle] at hq, fun q hq => by simp [St.settle] at hq⟩
theorem clean_undo {s : St} (h : s.clean) : s.undo.clean := ⟨h.2, h.2⟩

set_option maxHeartbeats 400000 in
theorem risFree_any {r g1 g2 : Nat} {s : St} {p : Int} {w : World} (h : IsR w r g1 g2 s) :
    Calls Tryd.prog 24 #[pt r, .int .i64 p] w fun e w' => e = .returned (.bool (s.isFree p)) ∧ w' = w := by
  have hr : (s.there p && (pst s.F s.D p.toNat == 0)) = s.isFree p := by rw [pst_free]; rfl
  have HR := Lib.hid hr
  have H := Lib.hid h
  clear hr h
  go_enter Tryd.func24, Tryd.ntmps24
  go_wp2_with (go_at_call 31; refine (is_any H.out).mono ?_; rintro e w' ⟨rfl, rfl⟩; rw [HR.out])
  go_ret
  exact ⟨rfl, rfl⟩

set_option maxHeartbeats 800000 in
theorem rmark_any {r g1 g2 : Nat} {s : St} {p : Int} {w : World} (h : IsR w r g1 g2 s) :
    Calls Tryd.prog 16 #[pt r, .int .i64 p] w fun e w' => e = .returned (.bool (s.isFree p)) ∧ IsR w' r g1 g2 (s.mark p) ∧ Upd [g1] w w' := by
  have hr : (s.there p && (pst s.F s.D p.toNat == 0)) = s.isFree p := by rw [pst_free]; rfl
  have H := Lib.hid h
  cases hf : s.isFree p
  · have hm : s.mark p = s := by simp [St.mark, hf]
    rw [hf] at hr
    have HR := Lib.hid hr
    rw [hm]
    clear hr h hf hm
    go_enter Tryd.func16, Tryd.ntmps16
    go_wp2_with (go_at_call 31; refine (is_any H.out).mono ?_; rintro e w' ⟨rfl, rfl⟩; rw [HR.out])
    go_ret
    exact ⟨rfl, H.out, Upd.refl _ _⟩
  · have hm : s.mark p = { s with F := clr s.F p.toNat } := by simp [St.mark, hf]
    have hp : 0 ≤ p ∧ p < s.n ∧ s.F.testBit p.toNat = true := by
      simp only [St.isFree, St.there, Bool.and_eq_true, decide_eq_true_eq] at hf; exact ⟨hf.1.1, hf.1.2, hf.2⟩
    rw [hf] at hr
    have HR := Lib.hid hr
    have Hm := Lib.hid hm
    obtain ⟨c1, c2, k1, k2, ho⟩ := h.obj
    have c0 := (cells_of ho).1 0
    simp only [List.getElem?_toArray, List.getElem?_cons_zero] at c0
    have h10 := h.ok.2.1
    obtain ⟨hp0, hp1, hpb⟩ := hp
    have HPB := Lib.hid hpb
    have hc := h.now.cell (q := p.toNat) (by omega)
    have hz := h.now.free p.toNat
    clear hr h hf hm ho hpb
    go_enter Tryd.func16, Tryd.ntmps16
    go_wp2_with (go_at_call 31; refine (is_any H.out).mono ?_; rintro e w' ⟨rfl, rfl⟩; rw [HR.out])
    go_ret
    obtain ⟨ho, hn, hs, a, b, c, d, e⟩ := H.out
    have hok := St.mark_ok d p
    have hcl := clean_mark e p
    rw [Hm.out] at hok hcl ⊢
    have hD : s.D.testBit p.toNat = false := by
      cases hd : s.D.testBit p.toNat
      · rfl
      · rw [e.1 _ hd] at HPB; cases HPB.out
    have u : Upd [g1] w' (w'.setCell ⟨g1, p.toNat, none⟩ (.int .i64 1)) := (Upd.refl _ _).setCell (.inl (by simp)) _
    refine ⟨rfl, ⟨?_, hn.set p.toNat (by omega) 1 fun i hi => ?_, hs.upd u (by simp; exact Ne.symm c), a, b, c, hok, hcl⟩, u⟩
    · obtain ⟨c1, c2, k1, k2, ho⟩ := ho
      exact ⟨c1, c2, k1, k2, u.get ho (by simp; exact Ne.symm a)⟩
    · unfold pst
      rw [clr_bit]
      by_cases ei : i = p.toNat
      · subst ei; simp [hD]
      · rw [if_neg ei, show decide (p.toNat = i) = false by simp; omega]; simp
end Go.Proofs.YtmecndmoobddkaaDoor
