/-
  PROVED HERE: an argument that is a catalogue is opened to its number, its volumes and its stack. Conditions: it can be read as data.
-/
import Derived.Test.YtkahpkmofeglgaaDoorOpenInts
import Derived.Test.YtkahpkmofeglgaaDoorCatW
namespace Go.Proofs.YtkahpkmofeglgaaDoor
open Go.ChangeShapes Go.WideShapes Go.Deep Go.RowKit
section
variable {H : Type} {enc : TypeId × Value → H} {w : World} {base : Nat} {spare : Nat → Bool} {held : Bool}
set_option maxRecDepth 100000 in
theorem trod_vols {fuel : Nat} {v : Value} {y : DataW H × List MemPlace} (h : DataW.trod enc Tryd.prog w base spare held fuel 73 [v] = some y) :
    ∃ a l cap, v = .slice a l.length cap ∧ IsVols w a l ∧ l.length ≤ cap ∧ cap ≤ 9223372036854775807 := by
  rcases open_slice_fields Tryd.underlying73 Tryd.underlying129 (by kernel_rfl) (by kernel_rfl) h with ⟨hcs, _⟩ | ⟨a, len, cap, m, D, Pl, hcs, _, hl, hm, hmm, _, hi⟩
  · simp only [List.cons.injEq, and_true] at hcs
    subst hcs
    exact ⟨none, [], 0, rfl, fun i h => absurd h (by simp), by simp, by decide⟩
  · simp only [List.cons.injEq, and_true] at hcs
    subst hcs
    have hlm : len ≤ m := by rw [hmm]; split <;> omega
    obtain ⟨l, hll, hlx⟩ := list_of (Q := fun i (v : Vol) => ∀ j u, v.vals[j]? = some u → w.cell? (a.add (i * 6 + j)) = some u) len fun i hil => by
      obtain ⟨ys, n, _, _, _, hf⟩ := hi i (by omega)
      have one : ∀ (j : Nat) (f : Field), _ = some f → j < 6 → Tryd.prog.underlying f.type = some (.int .i64) → ∃ k : Int, w.cell? (a.add (i * 6 + j)) = some (.int .i64 k) := fun j f hj _ ht => by
        obtain ⟨u, y, h1, _, h3⟩ := hf j f hj
        obtain ⟨k, e, _, _⟩ := DataW.trod_int ht h3
        simp only [List.cons.injEq, and_true] at e
        exact ⟨k, by rw [← e]; exact h1⟩
      obtain ⟨k0, c0⟩ := one 0 _ rfl (by decide) Tryd.underlying3
      obtain ⟨k1, c1⟩ := one 1 _ rfl (by decide) Tryd.underlying3
      obtain ⟨k2, c2⟩ := one 2 _ rfl (by decide) Tryd.underlying3
      obtain ⟨k3, c3⟩ := one 3 _ rfl (by decide) Tryd.underlying3
      obtain ⟨k4, c4⟩ := one 4 _ rfl (by decide) Tryd.underlying3
      obtain ⟨k5, c5⟩ := one 5 _ rfl (by decide) Tryd.underlying3
      refine ⟨⟨k0, k1, k2, k3, k4, k5⟩, fun j u hj => ?_⟩
      match j with
      | 0 => rw [c0]; exact hj
      | 1 => rw [c1]; exact hj
      | 2 => rw [c2]; exact hj
      | 3 => rw [c3]; exact hj
      | 4 => rw [c4]; exact hj
      | 5 => rw [c5]; exact hj
      | j + 6 => simp [Vol.vals] at hj
    refine ⟨some a, l, cap, by rw [hll], fun i h => ?_, by omega, by unfold maxLen at hm; omega⟩
    have h0 := hlx 0 (by omega) 0 _ rfl
    have ha : a = ⟨a.block, a.off, none⟩ := by
      have e : a.add (0 * 6 + 0) = a := by simp [Addr.add]
      rw [e] at h0
      exact addr_plain h0
    refine ⟨a.block, a.off, by rw [← ha], fun j u hj => ?_⟩
    have hc := hlx i h j u hj
    rw [ha, add_off] at hc
    rw [Nat.add_assoc]
    exact hc
set_option maxRecDepth 100000 in
theorem open_cat_arg {r : Reach} {b0 : Nat} {v : Value} {d : DataW H} {p : List MemPlace} (hv : Value.okWide Tryd.prog w r b0 75 v) (h : DataW.Trod enc Tryd.prog w base spare held 75 v d p) :
    ∃ (x : Cat) (a : Option Addr) (cap : Nat) (a' : Option Addr) (cap' : Nat), v = catV x (.slice a x.vols.length cap) (.slice a' x.stack.length cap') ∧ IsVols w a x.vols ∧ IsInts w a' x.stack ∧ x.vols.length ≤ 9223372036854775807 ∧ x.stack.length ≤ 9223372036854775807 := by
  obtain ⟨cs, n, rfl, hsz, hf⟩ := open_agg_fields Tryd.underlying75 (by kernel_rfl) (by kernel_rfl) hv h
  obtain ⟨u0, y0, c0, t0⟩ := hf 0 _ rfl
  obtain ⟨u1, y1, c1, t1⟩ := hf 1 _ rfl
  obtain ⟨u2, y2, c2, t2⟩ := hf 2 _ rfl
  obtain ⟨k, ek, _, _⟩ := DataW.trod_int Tryd.underlying3 t0
  obtain ⟨a, l, cap, rfl, hi, hc, hm⟩ := trod_vols t1
  obtain ⟨a', l', cap', rfl, hi', hc', hm', _⟩ := trod_ints t2
  simp only [List.cons.injEq, and_true] at ek
  subst ek
  refine ⟨⟨k, l', l⟩, a, cap, a', cap', ?_, hi, hi', by simp only; omega, by simp only; omega⟩
  unfold catV
  congr 1
  apply Array.ext_getElem?
  intro j
  have h3 : cs.size = 3 := hsz
  match j with
  | 0 => exact c0
  | 1 => exact c1
  | 2 => exact c2
  | j + 3 => rw [Array.getElem?_eq_none (by omega), Array.getElem?_eq_none (by simp)]
end
end Go.Proofs.YtkahpkmofeglgaaDoor
