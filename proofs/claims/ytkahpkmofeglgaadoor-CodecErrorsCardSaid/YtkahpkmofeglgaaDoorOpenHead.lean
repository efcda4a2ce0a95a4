/-
  PROVED HERE: an argument that is a record's head is opened to its numbers and its pages. Conditions: it can be read as data.
-/
import Derived.Test.YtkahpkmofeglgaaDoorOpenInts
import Derived.Test.YtkahpkmofeglgaaDoorHeadW
namespace Go.Proofs.YtkahpkmofeglgaaDoor
open Go.ChangeShapes Go.WideShapes Go.Deep Go.RowKit
section
variable {H : Type} {enc : TypeId × Value → H} {w : World} {base : Nat} {spare : Nat → Bool} {held : Bool}
set_option maxRecDepth 100000 in
theorem open_head_arg {r : Reach} {b0 : Nat} {v : Value} {d : DataW H} {p : List MemPlace} (hv : Value.okWide Tryd.prog w r b0 59 v) (h : DataW.Trod enc Tryd.prog w base spare held 59 v d p) :
    ∃ (x : Hd) (a : Option Addr) (cap : Nat), v = headV x (.slice a x.pages.length cap) ∧ IsInts w a x.pages ∧ x.pages.length ≤ cap ∧ cap ≤ 9223372036854775807 ∧ x.sum < 4294967296 := by
  obtain ⟨cs, n, rfl, hsz, hf⟩ := open_agg_fields Tryd.underlying59 (by kernel_rfl) (by kernel_rfl) hv h
  obtain ⟨u0, y0, c0, t0⟩ := hf 0 _ rfl
  obtain ⟨u1, y1, c1, t1⟩ := hf 1 _ rfl
  obtain ⟨u2, y2, c2, t2⟩ := hf 2 _ rfl
  obtain ⟨u3, y3, c3, t3⟩ := hf 3 _ rfl
  obtain ⟨e, ee, _, _⟩ := DataW.trod_int Tryd.underlying3 t0
  obtain ⟨s, es, _, _⟩ := DataW.trod_int Tryd.underlying3 t1
  obtain ⟨a, l, cap, rfl, hi, hc, hm, _⟩ := trod_ints t2
  obtain ⟨k, ek, _, hw⟩ := DataW.trod_int Tryd.underlying57 t3
  simp only [List.cons.injEq, and_true] at ee es ek
  subst ee es ek
  have hr : 0 ≤ k ∧ k ≤ 4294967295 := by
    simp only [Lit.wf, Bool.and_eq_true, decide_eq_true_eq] at hw
    exact hw
  obtain ⟨k, rfl⟩ := Int.eq_ofNat_of_zero_le hr.1
  refine ⟨⟨e, s, k, l⟩, a, cap, ?_, hi, hc, hm, by simp only; omega⟩
  unfold headV
  congr 1
  apply Array.ext_getElem?
  intro j
  have h4 : cs.size = 4 := hsz
  match j with
  | 0 => exact c0
  | 1 => exact c1
  | 2 => exact c2
  | 3 => exact c3
  | j + 4 => rw [Array.getElem?_eq_none (by omega), Array.getElem?_eq_none (by simp)]
end
end Go.Proofs.YtkahpkmofeglgaaDoor
