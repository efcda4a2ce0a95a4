/-
  PROVED HERE: an argument that is a row of superblocks, or of picks, is opened. Conditions: it can be read as data.
-/
import Derived.Test.YtpnpjffhkaejgaaDoorOpenAgg
import Derived.Test.YtpnpjffhkaejgaaDoorSuperH
namespace Go.Proofs.YtpnpjffhkaejgaaDoor
open Go.ChangeShapes Go.WideShapes Go.Deep Go.RowKit
section
variable {H : Type} {enc : TypeId × Value → H} {w : World} {base : Nat} {spare : Nat → Bool} {held : Bool}
theorem trod_picksw {fuel : Nat} {v : Value} {y : DataW H × List MemPlace} (h : DataW.trod enc Tryd.prog w base spare held fuel 29 [v] = some y) :
    ∃ pa n pc picks, v = .slice pa n pc ∧ PicksW w pa n picks := by
  rcases open_slice1 Tryd.underlying29 (by kernel_rfl) h with ⟨hcs, hx⟩ | ⟨a, len, cap, m, n, V, D, Pl, hcs, hb, hl, hm, hmm, hx, hi⟩
  · simp only [List.cons.injEq, and_true] at hcs
    subst hcs
    exact ⟨none, 0, 0, [], rfl, fun i h => absurd h (by simp), rfl, by decide, fun h => absurd h (by decide)⟩
  · simp only [List.cons.injEq, and_true] at hcs
    subst hcs
    have hlm : len ≤ m := by rw [hmm]; split <;> omega
    obtain ⟨l, hll, hlx⟩ := list_of (Q := fun i k => w.cell? (a.add i) = some (.int .i64 k)) len fun i hil => by
      obtain ⟨h1, h2⟩ := hi i (by omega)
      obtain ⟨k, e, _, _⟩ := DataW.trod_int Tryd.underlying3 h2
      simp only [List.cons.injEq, and_true] at e
      exact ⟨k, by rw [h1, e]⟩
    refine ⟨some a, len, cap, l, rfl, fun i h => ?_, hll, by unfold maxLen at hm; omega, fun h0 b o e => ?_⟩
    · have h0 := hlx 0 (by omega)
      have ha : a = ⟨a.block, a.off, none⟩ := by
        have e : a.add 0 = a := by simp [Addr.add]
        rw [e] at h0
        exact addr_plain h0
      have hc := hlx i h
      rw [ha, add_off] at hc
      exact ⟨a.block, a.off, by rw [← ha], by rw [hc, List.getD_eq_getElem?_getD, List.getElem?_eq_getElem h]; rfl⟩
    · have h1 := World.block_lt_of_cell? _ _ (hlx 0 (by omega))
      simp only [Option.some.injEq] at e
      subst e
      exact h1
set_option maxRecDepth 100000 in
theorem trod_sups {fuel : Nat} {v : Value} {y : DataW H × List MemPlace} (h : DataW.trod enc Tryd.prog w base spare held fuel 28 [v] = some y) :
    ∃ a n cap l, v = .slice a n cap ∧ IsSups w a l ∧ l.length = n ∧ n ≤ 9223372036854775807 := by
  rcases open_slice_fields Tryd.underlying28 Tryd.underlying23 (by kernel_rfl) (by kernel_rfl) h with ⟨hcs, hx⟩ | ⟨a, len, cap, m, D, Pl, hcs, _, hl, hm, hmm, hx, hi⟩
  · simp only [List.cons.injEq, and_true] at hcs
    subst hcs
    exact ⟨none, 0, 0, [], rfl, fun i h => absurd h (by simp), rfl, by decide⟩
  · simp only [List.cons.injEq, and_true] at hcs
    subst hcs
    have hlm : len ≤ m := by rw [hmm]; split <;> omega
    obtain ⟨l, hll, hlx⟩ := list_of (Q := fun i (s : List Int) => s.length = 7 ∧ ∀ j, j < 7 → w.cell? (a.add (i * 7 + j)) = some (.int .i64 (s.getD j 0))) len fun i hil => by
      obtain ⟨ys, n, _, _, _, hf⟩ := hi i (by omega)
      have one : ∀ (j : Nat) (f : Field), _ = some f → j < 7 → Tryd.prog.underlying f.type = some (.int .i64) → ∃ k : Int, w.cell? (a.add (i * 7 + j)) = some (.int .i64 k) := fun j f hj _ ht => by
        obtain ⟨u, y, h1, _, h3⟩ := hf j f hj
        obtain ⟨k, e, _, _⟩ := DataW.trod_int ht h3
        simp only [List.cons.injEq, and_true] at e
        exact ⟨k, by rw [← e]; exact h1⟩
      obtain ⟨k0, c0⟩ := one 0 _ rfl (by decide) Tryd.underlying3
      obtain ⟨k1, c1⟩ := one 1 _ rfl (by decide) Tryd.underlying3
      obtain ⟨k2, c2⟩ := one 2 _ rfl (by decide) Tryd.underlying3
      obtain ⟨k3, c3⟩ := one 3 _ rfl (by decide) Tryd.underlying3
      obtain ⟨k4, c4⟩ := one 4 _ rfl (by decide) Tryd.underlying3
      obtain ⟨k5, c5⟩ := one 5 _ rfl (by decide) Tryd.underlying3
      obtain ⟨k6, c6⟩ := one 6 _ rfl (by decide) Tryd.underlying3
      refine ⟨[k0, k1, k2, k3, k4, k5, k6], rfl, fun j hj => ?_⟩
      match j, hj with
      | 0, _ => exact c0
      | 1, _ => exact c1
      | 2, _ => exact c2
      | 3, _ => exact c3
      | 4, _ => exact c4
      | 5, _ => exact c5
      | 6, _ => exact c6
    refine ⟨some a, len, cap, l, rfl, fun i h => ?_, hll, by unfold maxLen at hm; omega⟩
    have h0 := (hlx 0 (by omega)).2 0 (by decide)
    have ha : a = ⟨a.block, a.off, none⟩ := by
      have e : a.add (0 * 7 + 0) = a := by simp [Addr.add]
      rw [e] at h0
      exact addr_plain h0
    refine ⟨a.block, a.off, by rw [← ha], (hlx i h).1, fun j hj => ?_⟩
    have hc := (hlx i h).2 j hj
    rw [ha, add_off, ← Nat.add_assoc] at hc
    exact hc
set_option maxRecDepth 100000 in
theorem open_sups_arg {r : Reach} {b0 : Nat} {v : Value} {d : DataW H} {p : List MemPlace} (hv : Value.okWide Tryd.prog w r b0 28 v) (h : DataW.Trod enc Tryd.prog w base spare held 28 v d p) :
    ∃ a n cap l, v = .slice a n cap ∧ IsSups w a l ∧ l.length = n ∧ n ≤ 9223372036854775807 := by
  obtain ⟨a, len, cap, rfl⟩ := okWide_slice Tryd.underlying28 hv
  obtain ⟨fuel, hf⟩ := h
  simp only [Value.cells] at hf
  exact trod_sups hf
set_option maxRecDepth 100000 in
theorem open_picksw_arg {r : Reach} {b0 : Nat} {v : Value} {d : DataW H} {p : List MemPlace} (hv : Value.okWide Tryd.prog w r b0 29 v) (h : DataW.Trod enc Tryd.prog w base spare held 29 v d p) :
    ∃ pa n pc picks, v = .slice pa n pc ∧ PicksW w pa n picks := by
  obtain ⟨a, len, cap, rfl⟩ := okWide_slice Tryd.underlying29 hv
  obtain ⟨fuel, hf⟩ := h
  simp only [Value.cells] at hf
  exact trod_picksw hf
end
end Go.Proofs.YtpnpjffhkaejgaaDoor
