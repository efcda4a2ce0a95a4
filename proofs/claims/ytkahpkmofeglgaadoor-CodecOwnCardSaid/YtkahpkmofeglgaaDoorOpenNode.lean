/-
  PROVED HERE: an argument that is a node is opened to its leaf, its keys and its values. Conditions: it can be read as data.
-/
import Derived.Test.YtkahpkmofeglgaaDoorOpenInts
import Derived.Test.YtkahpkmofeglgaaDoorNodeW
namespace Go.Proofs.YtkahpkmofeglgaaDoor
open Go.ChangeShapes Go.WideShapes Go.Deep Go.RowKit
section
variable {H : Type} {enc : TypeId × Value → H} {w : World} {base : Nat} {spare : Nat → Bool} {held : Bool}
set_option maxRecDepth 100000 in
theorem open_node_arg {r : Reach} {b0 : Nat} {v : Value} {d : DataW H} {p : List MemPlace} (hv : Value.okWide Tryd.prog w r b0 67 v) (h : DataW.Trod enc Tryd.prog w base spare held 67 v d p) :
    ∃ (x : Nd) (a : Option Addr) (cap : Nat) (a' : Option Addr) (cap' : Nat), v = nodeV x (.slice a x.keys.length cap) (.slice a' x.vals.length cap') ∧ IsInts w a x.keys ∧ IsInts w a' x.vals ∧ x.keys.length ≤ 9223372036854775807 ∧ x.vals.length ≤ 9223372036854775807 := by
  obtain ⟨cs, n, rfl, hsz, hf⟩ := open_agg_fields Tryd.underlying67 (by kernel_rfl) (by kernel_rfl) hv h
  obtain ⟨u0, y0, c0, t0⟩ := hf 0 _ rfl
  obtain ⟨u1, y1, c1, t1⟩ := hf 1 _ rfl
  obtain ⟨u2, y2, c2, t2⟩ := hf 2 _ rfl
  obtain ⟨k, ek, _⟩ := DataW.trod_bool Tryd.underlying4 t0
  obtain ⟨a, l, cap, rfl, hi, hc, hm, _⟩ := trod_ints t1
  obtain ⟨a', l', cap', rfl, hi', hc', hm', _⟩ := trod_ints t2
  simp only [List.cons.injEq, and_true] at ek
  subst ek
  refine ⟨⟨k, l, l'⟩, a, cap, a', cap', ?_, hi, hi', by simp only; omega, by simp only; omega⟩
  unfold nodeV
  congr 1
  apply Array.ext_getElem?
  intro j
  have h3 : cs.size = 3 := hsz
  match j with
  | 0 => exact c0
  | 1 => exact c1
  | 2 => exact c2
  | j + 3 => rw [Array.getElem?_eq_none (by omega), Array.getElem?_eq_none (by simp)]
end
end Go.Proofs.YtkahpkmofeglgaaDoor
