/-
  PROVED HERE: arguments that are pairs are opened. Conditions: they can be read as data.
-/
import Derived.Test.YthjlajplckfldaaGreatDoorOpenAgg
import Derived.Test.YthjlajplckfldaaGreatDoorKeyS
import Derived.Test.YthjlajplckfldaaGreatDoorProg
import Derived.SizedLaws
namespace Go.Proofs.YthjlajplckfldaaGreatDoor
open Go.ChangeShapes Go.WideShapes Go.Deep Go.RowKit
section
variable {H : Type} {enc : TypeId × Value → H} {w : World} {base : Nat} {spare : Nat → Bool} {held : Bool}
def LenIs (d : DataW H) (n : Nat) : Prop := (d = .nil ∧ n = 0) ∨ ∃ es sp, d = .slice es sp ∧ es.length = n
set_option maxRecDepth 100000 in
theorem trod_prs {fuel : Nat} {v : Value} {y : DataW H × List MemPlace} (h : DataW.trod enc Tryz.prog w base spare held fuel 22 [v] = some y) :
    ∃ l, IsPrsA w v l ∧ LenIs y.1 l.length ∧ ∀ p ∈ l, p.1.length ≤ maxLen ∧ p.2.length ≤ maxLen := by
  rcases open_slice_fields Tryz.underlying22 Tryz.underlying59 (by kernel_rfl) (by kernel_rfl) h with ⟨hcs, hx⟩ | ⟨a, len, cap, m, D, Pl, hcs, _, hl, hm, hmm, hx, hi⟩
  · simp only [List.cons.injEq, and_true] at hcs
    subst hcs
    exact ⟨[], ⟨none, 0, rfl, Nat.le_refl _, by unfold maxLen; omega, fun i h => absurd h (by simp)⟩, .inl ⟨by rw [hx], rfl⟩, by simp⟩
  · simp only [List.cons.injEq, and_true] at hcs
    subst hcs
    have hlm : len ≤ m := by rw [hmm]; split <;> omega
    obtain ⟨l, hll, hlx⟩ := list_of (Q := fun i (x : Pr) => w.cell? (a.add (i * 2 + 0)) = some (.string (txt x.1)) ∧ w.cell? (a.add (i * 2 + 1)) = some (.string (txt x.2)) ∧ x.1.length ≤ maxLen ∧ x.2.length ≤ maxLen) len fun i hil => by
      obtain ⟨ys, n, _, _, _, hf⟩ := hi i (by omega)
      have one : ∀ (j : Nat) (f : Field), _ = some f → Tryz.prog.underlying f.type = some .string → ∃ s : ByteArray, w.cell? (a.add (i * 2 + j)) = some (.string s) ∧ s.data.toList.length ≤ maxLen := fun j f hj ht => by
        obtain ⟨u, y, h1, _, h3⟩ := hf j f hj
        obtain ⟨s, e, _, hs⟩ := DataW.trod_string ht h3
        simp only [List.cons.injEq, and_true] at e
        exact ⟨s, by rw [← e]; exact h1, by rw [Array.length_toList]; exact hs⟩
      obtain ⟨s0, c0, z0⟩ := one 0 _ rfl Tryz.underlying9
      obtain ⟨s1, c1, z1⟩ := one 1 _ rfl Tryz.underlying9
      exact ⟨(s0.data.toList, s1.data.toList), c0, c1, z0, z1⟩
    refine ⟨l, ⟨some a, cap, by rw [hll], by omega, hm, fun i h => ?_⟩, .inr ⟨_, _, by rw [hx], by simp [hll]⟩, fun p hp => by obtain ⟨i, h, rfl⟩ := List.mem_iff_getElem.1 hp; exact (hlx i h).2.2⟩
    have h0 := (hlx 0 (by omega)).1
    have hlt := World.block_lt_of_cell? _ _ h0
    have ha : a = ⟨a.block, a.off, none⟩ := by
      have e : a.add (0 * 2 + 0) = a := by simp [Addr.add]
      rw [e] at h0
      exact addr_plain h0
    obtain ⟨q1, q2, _⟩ := hlx i h
    rw [ha] at q1 q2 hlt
    simp only [add_off, ← Nat.add_assoc, Nat.add_zero] at q1 q2 hlt
    exact ⟨a.block, a.off, by rw [← ha], hlt, q1, q2⟩
set_option maxRecDepth 100000 in
theorem open_prs_arg {r : Reach} {b0 : Nat} {v : Value} {d : DataW H} {p : List MemPlace} (hv : Value.okWide Tryz.prog w r b0 22 v) (h : DataW.Trod enc Tryz.prog w base spare held 22 v d p) :
    ∃ l, IsPrsA w v l ∧ LenIs d l.length := by
  obtain ⟨a, len, cap, rfl⟩ := okWide_slice Tryz.underlying22 hv
  obtain ⟨fuel, hf⟩ := h
  simp only [Value.cells] at hf
  obtain ⟨l, h1, h2, _⟩ := trod_prs hf
  exact ⟨l, h1, h2⟩
set_option maxRecDepth 100000 in
theorem open_prs_lens {r : Reach} {b0 : Nat} {v : Value} {d : DataW H} {p : List MemPlace} (hv : Value.okWide Tryz.prog w r b0 22 v) (h : DataW.Trod enc Tryz.prog w base spare held 22 v d p) :
    ∃ l, IsPrsA w v l ∧ LenIs d l.length ∧ ∀ p ∈ l, p.1.length ≤ 9223372036854775807 ∧ p.2.length ≤ 9223372036854775807 := by
  obtain ⟨a, len, cap, rfl⟩ := okWide_slice Tryz.underlying22 hv
  obtain ⟨fuel, hf⟩ := h
  simp only [Value.cells] at hf
  obtain ⟨l, h1, h2, h3⟩ := trod_prs hf
  exact ⟨l, h1, h2, fun p hp => by have := h3 p hp; unfold maxLen at this; omega⟩
theorem bytesPair : Tryz.prog.bytesOf 59 = 32 := by kernel_rfl
/-- The form's reach bounds pairs among the arguments. -/
theorem sized_prs {ts : List TypeId} {ds : List (DataW H)} (hsz : (DataW.weightsEach Tryz.prog ts ds).all (· ≤ reachBytes) = true) {j n : Nat} {d : DataW H} (ht : ts[j]? = some 22) (hd : ds[j]? = some d) (hl : LenIs d n) : n ≤ 4398046511103 := by
  rcases hl with ⟨_, rfl⟩ | ⟨es, sp, rfl, rfl⟩
  · omega
  · have h := sized_slice hsz ht hd Tryz.underlying22
    rw [bytesPair] at h
    simp only [reachBytes] at h
    omega
end
end Go.Proofs.YthjlajplckfldaaGreatDoor
