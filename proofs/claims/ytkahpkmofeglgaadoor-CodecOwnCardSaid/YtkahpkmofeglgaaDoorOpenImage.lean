/-
  PROVED HERE: an argument that is a page with its number is opened to its number, its kind and its body. Conditions: it can be read as data.
-/
import Derived.Test.YtkahpkmofeglgaaDoorOpenInts
import Derived.Test.YtkahpkmofeglgaaDoorImageX
namespace Go.Proofs.YtkahpkmofeglgaaDoor
open Go.ChangeShapes Go.WideShapes Go.Deep Go.RowKit
section
variable {H : Type} {enc : TypeId × Value → H} {w : World} {base : Nat} {spare : Nat → Bool} {held : Bool}
theorem cellsImage : Tryd.prog.cellsOf 39 = 3 := by kernel_rfl
theorem cellsPage : Tryd.prog.cellsOf 37 = 2 := by kernel_rfl
theorem cellsInt : Tryd.prog.cellsOf 3 = 1 := by kernel_rfl
theorem cellsBytes : Tryd.prog.cellsOf 27 = 1 := by kernel_rfl
set_option maxRecDepth 100000 in
theorem open_image_arg {r : Reach} {b0 : Nat} {v : Value} {d : DataW H} {p : List MemPlace} (hv : Value.okWide Tryd.prog w r b0 39 v) (h : DataW.Trod enc Tryd.prog w base spare held 39 v d p) :
    ∃ (x : Img) (a : Option Addr) (cap : Nat), v = imgV x (.slice a x.body.length cap) ∧ IsBytes w a x.body ∧ x.body.length ≤ cap ∧ cap ≤ 9223372036854775807 := by
  obtain ⟨cs, rfl, hsz⟩ := okWide_struct Tryd.underlying39 hv
  obtain ⟨l⟩ := cs
  rw [cellsImage] at hsz
  match l, hsz with
  | [c0, c1, c2], _ =>
    obtain ⟨fuel, hf⟩ := h
    obtain ⟨xs, n, _, _, _, hlen, hg⟩ := DataW.trod_struct Tryd.underlying39 hf
    have e0 : xs[0]? = some (xs[0]'(by rw [hlen]; decide)) := List.getElem?_eq_getElem _
    have e1 : xs[1]? = some (xs[1]'(by rw [hlen]; decide)) := List.getElem?_eq_getElem _
    have g0 := (hg 0 _ rfl).trans e0
    have g1 := (hg 1 _ rfl).trans e1
    generalize xs[0]'(by rw [hlen]; decide) = y0 at g0
    generalize xs[1]'(by rw [hlen]; decide) = y1 at g1
    simp [Value.cells, cellsInt, cellsPage] at g0 g1
    obtain ⟨ys, n', _, _, _, hlen', hg'⟩ := DataW.trod_struct Tryd.underlying37 g1
    have d0 : ys[0]? = some (ys[0]'(by rw [hlen']; decide)) := List.getElem?_eq_getElem _
    have d1 : ys[1]? = some (ys[1]'(by rw [hlen']; decide)) := List.getElem?_eq_getElem _
    have k0 := (hg' 0 _ rfl).trans d0
    have k1 := (hg' 1 _ rfl).trans d1
    generalize ys[0]'(by rw [hlen']; decide) = z0 at k0
    generalize ys[1]'(by rw [hlen']; decide) = z1 at k1
    simp [cellsInt, cellsBytes] at k0 k1
    obtain ⟨m, em, _, _⟩ := DataW.trod_int Tryd.underlying3 g0
    obtain ⟨k, ek, _, _⟩ := DataW.trod_int Tryd.underlying3 k0
    obtain ⟨a, bl, cap, eb, hb, hc, hm, _⟩ := trod_bytes k1
    simp only [List.cons.injEq, and_true] at em ek
    subst em ek eb
    exact ⟨⟨m, k, bl⟩, a, cap, rfl, hb, hc, hm⟩
end
end Go.Proofs.YtkahpkmofeglgaaDoor
