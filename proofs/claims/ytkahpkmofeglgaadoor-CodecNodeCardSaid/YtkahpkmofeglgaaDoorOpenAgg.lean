/-
  PROVED HERE: an argument that is a struct of one-cell fields is opened to its cells; one of numbers alone is a list of numbers. Conditions: every field takes one cell.
-/
import Derived.Test.YtkahpkmofeglgaaDoorOpen
namespace Go.Proofs.YtkahpkmofeglgaaDoor
open Go.ChangeShapes Go.WideShapes Go.Deep Go.RowKit
section
variable {H : Type} {enc : TypeId × Value → H} {P : Program} {w : World} {base : Nat} {spare : Nat → Bool} {held : Bool}
theorem open_agg_fields {r : Reach} {b0 : Nat} {t : TypeId} {fs : Array Field} {v : Value} {d : DataW H} {p : List MemPlace} (hs : P.underlying t = some (.struct fs)) (hone : oneCellFields P fs = true) (hC : P.cellsOf t = fs.size)
    (hv : Value.okWide P w r b0 t v) (h : DataW.Trod enc P w base spare held t v d p) :
    ∃ (cs : Array Value) (n : Nat), v = .agg cs ∧ cs.size = fs.size ∧ ∀ (j : Nat) (f : Field), fs[j]? = some f → ∃ (u : Value) (y : DataW H × List MemPlace), cs[j]? = some u ∧ DataW.trod enc P w base spare held n f.type [u] = some y := by
  obtain ⟨cs, rfl, hsz⟩ := okWide_struct hs hv
  obtain ⟨fuel, hf⟩ := h
  obtain ⟨ys, n, hn, hx, hcl, hlen, hg⟩ := DataW.trod_struct hs hf
  refine ⟨cs, n, rfl, hsz.trans hC, fun j f hj => ?_⟩
  obtain ⟨ho, hk⟩ := hone_of hone j f hj
  have hjl : j < fs.size := (Array.getElem?_eq_some_iff.1 hj).1
  have hjc : j < cs.size := by omega
  have h1 := hg j f hj
  rw [ho, hk] at h1
  have e : (((Value.agg cs).cells.toList.drop j).take 1) = [cs[j]] := by
    show ((cs.toList.drop j).take 1) = _
    rw [List.drop_eq_getElem_cons (by simpa using hjc)]
    rfl
  rw [e] at h1
  have hys : ys[j]? = some (ys[j]'(by omega)) := List.getElem?_eq_getElem (by omega)
  exact ⟨cs[j], _, Array.getElem?_eq_getElem hjc, h1.trans hys⟩
theorem open_agg_ints {r : Reach} {b0 : Nat} {t : TypeId} {fs : Array Field} {v : Value} {d : DataW H} {p : List MemPlace} (hs : P.underlying t = some (.struct fs)) (hone : oneCellFields P fs = true) (hC : P.cellsOf t = fs.size)
    (T : TypeId) (hT : P.underlying T = some (.int .i64)) (hint : (fs.toList.all fun f => f.type == T) = true) (hv : Value.okWide P w r b0 t v) (h : DataW.Trod enc P w base spare held t v d p) :
    ∃ l : List Int, l.length = fs.size ∧ v = .agg (l.map (Value.int .i64)).toArray := by
  obtain ⟨cs, n, rfl, hsz, hf⟩ := open_agg_fields hs hone hC hv h
  have hg : ∀ j, j < fs.size → ∃ k : Int, cs[j]? = some (.int .i64 k) := by
    intro j hj
    obtain ⟨u, y, h1, h2⟩ := hf j fs[j] (Array.getElem?_eq_getElem hj)
    have hu : P.underlying fs[j].type = some (.int .i64) := by
      have := List.all_eq_true.1 hint fs[j] (by simp)
      rw [eq_of_beq this]; exact hT
    obtain ⟨k, e, _, _⟩ := DataW.trod_int hu h2
    simp only [List.cons.injEq, and_true] at e
    exact ⟨k, by rw [h1, e]⟩
  obtain ⟨l, hl, hx⟩ := list_of fs.size hg
  refine ⟨l, hl, ?_⟩
  congr 1
  apply Array.ext_getElem?
  intro j
  by_cases hj : j < fs.size
  · rw [hx j (by omega)]
    simp [hl, hj]
  · rw [Array.getElem?_eq_none (by omega), Array.getElem?_eq_none (by simp; omega)]
end
theorem seven (l : List Int) (h : l.length = 7) : ∃ a b c d e f g, l = [a, b, c, d, e, f, g] := by
  match l, h with
  | [a, b, c, d, e, f, g], _ => exact ⟨a, b, c, d, e, f, g, rfl⟩
end Go.Proofs.YtkahpkmofeglgaaDoor
