/-
  PROVED HERE: a script argument of the statements on package alloc is a list of pairs of numbers. Conditions: it can be read as data.
-/
import Derived.Test.YtmecndmoobddkaaDoorOpen
import Derived.Test.YtmecndmoobddkaaDoorAllocG
import Derived.Test.YtmecndmoobddkaaDoorRowKit
namespace Go.Proofs.YtmecndmoobddkaaDoor
open Go.ChangeShapes Go.WideShapes Go.ChangeAt Go.RowKit Go.Deep
theorem open_ops {H : Type} {enc : TypeId × Value → H} {W : World} {base : Nat} {r : Reach} {b0 : Nat} {spare : Nat → Bool} {held : Bool} {v : Value} {d : DataW H} {p : List MemPlace}
    (hv : Value.okWide Tryd.prog W r b0 34 v) (h : DataW.Trod enc Tryd.prog W base spare held 34 v d p) : ∃ l, IsOps W v l := by
  obtain ⟨a, len, cap, rfl⟩ := okWide_slice Tryd.underlying34 hv
  obtain ⟨fuel, hf⟩ := h
  rcases open_slice_fields Tryd.underlying34 Tryd.underlying38 (by kernel_rfl) (by kernel_rfl) hf with ⟨hcs, _⟩ | ⟨a', len', cap', m, D, Pl, hcs, _, hl, hm, hmm, _, hi⟩
  · simp only [Value.cells, List.cons.injEq, and_true, Value.slice.injEq] at hcs
    obtain ⟨rfl, rfl, rfl⟩ := hcs
    exact ⟨[], none, 0, rfl, by simp, fun i h => absurd h (by simp)⟩
  · simp only [Value.cells, List.cons.injEq, and_true, Value.slice.injEq] at hcs
    obtain ⟨rfl, rfl, rfl⟩ := hcs
    have hlm : len ≤ m := by rw [hmm]; split <;> omega
    have hg : ∀ i, i < len → ∃ x : Int × Int, W.cell? (a'.add (i * 2)) = some (.int .i64 x.1) ∧ W.cell? (a'.add (i * 2 + 1)) = some (.int .i64 x.2) := by
      intro i hil
      obtain ⟨ys, n, _, _, _, hfld⟩ := hi i (by omega)
      obtain ⟨v0, y0, hc0, _, ht0⟩ := hfld 0 _ rfl
      obtain ⟨v1, y1, hc1, _, ht1⟩ := hfld 1 _ rfl
      obtain ⟨k0, e0, _, _⟩ := DataW.trod_int Tryd.underlying3 ht0
      obtain ⟨k1, e1, _, _⟩ := DataW.trod_int Tryd.underlying3 ht1
      simp only [List.cons.injEq, and_true] at e0 e1
      subst e0; subst e1
      exact ⟨(k0, k1), hc0, hc1⟩
    obtain ⟨l, hll, hlx⟩ := list_of len hg
    refine ⟨l, some a', cap, by rw [hll], by rw [hll]; unfold maxLen at hm; omega, fun i h => ?_⟩
    obtain ⟨c1, c2⟩ := hlx i h
    have h0 := (hlx 0 (by omega)).1
    have ha : a' = ⟨a'.block, a'.off, none⟩ := by
      have : a'.add (0 * 2) = a' := by simp [Addr.add]
      rw [this] at h0
      exact addr_plain h0
    rw [ha, add_off] at c1 c2
    exact ⟨a'.block, a'.off, by rw [← ha], c1, c2⟩
end Go.Proofs.YtmecndmoobddkaaDoor
