/-
  PROVED HERE: an argument that is a slice of numbers, or of bytes, is opened to what it reads as. Conditions: it can be read as data.
-/
import Derived.Test.YtgmabhfffgnjjaaOpenAgg
import Derived.Test.YtgmabhfffgnjjaaInts
import Derived.SizedLaws
namespace Go.Proofs.Ytgmabhfffgnjjaa
open Go.ChangeShapes Go.WideShapes Go.Deep Go.RowKit
section
variable {H : Type} {enc : TypeId × Value → H} {w : World} {base : Nat} {spare : Nat → Bool} {held : Bool}
/-- A datum of so many elements. -/
def LenIs (d : DataW H) (n : Nat) : Prop := (d = .nil ∧ n = 0) ∨ ∃ es sp, d = .slice es sp ∧ es.length = n
theorem trod_ints {fuel : Nat} {v : Value} {y : DataW H × List MemPlace} (h : DataW.trod enc Try.prog w base spare held fuel 32 [v] = some y) :
    ∃ a l cap, v = .slice a l.length cap ∧ IsInts w a l ∧ l.length ≤ cap ∧ cap ≤ 9223372036854775807 ∧ LenIs y.1 l.length := by
  rcases open_slice1 Try.underlying32 (by kernel_rfl) h with ⟨hcs, hx⟩ | ⟨a, len, cap, m, n, V, D, Pl, hcs, hb, hl, hm, hmm, hx, hi⟩
  · simp only [List.cons.injEq, and_true] at hcs
    subst hcs
    exact ⟨none, [], 0, rfl, fun i h => absurd h (by simp), by simp, by decide, .inl ⟨by rw [hx], rfl⟩⟩
  · simp only [List.cons.injEq, and_true] at hcs
    subst hcs
    have hlm : len ≤ m := by rw [hmm]; split <;> omega
    obtain ⟨l, hll, hlx⟩ := list_of (Q := fun i k => w.cell? (a.add i) = some (.int .i64 k)) len fun i hil => by
      obtain ⟨h1, h2⟩ := hi i (by omega)
      obtain ⟨k, e, _, _⟩ := DataW.trod_int Try.underlying3 h2
      simp only [List.cons.injEq, and_true] at e
      exact ⟨k, by rw [h1, e]⟩
    refine ⟨some a, l, cap, by rw [hll], fun i h => ?_, by omega, by unfold maxLen at hm; omega, .inr ⟨_, _, by rw [hx], by simp [hll]⟩⟩
    have h0 := hlx 0 (by omega)
    have ha : a = ⟨a.block, a.off, none⟩ := by
      have e : a.add 0 = a := by simp [Addr.add]
      rw [e] at h0
      exact addr_plain h0
    have hc := hlx i h
    rw [ha, add_off] at hc
    exact ⟨a.block, a.off, by rw [← ha], hc⟩
theorem trod_bytes {fuel : Nat} {v : Value} {y : DataW H × List MemPlace} (h : DataW.trod enc Try.prog w base spare held fuel 23 [v] = some y) :
    ∃ a l cap, v = .slice a l.length cap ∧ IsBytes w a l ∧ l.length ≤ cap ∧ cap ≤ 9223372036854775807 ∧ LenIs y.1 l.length := by
  rcases open_slice1 Try.underlying23 (by kernel_rfl) h with ⟨hcs, hx⟩ | ⟨a, len, cap, m, n, V, D, Pl, hcs, hb, hl, hm, hmm, hx, hi⟩
  · simp only [List.cons.injEq, and_true] at hcs
    subst hcs
    exact ⟨none, [], 0, rfl, ⟨BytesOk.nil, fun i h => absurd h (by simp)⟩, by simp, by decide, .inl ⟨by rw [hx], rfl⟩⟩
  · simp only [List.cons.injEq, and_true] at hcs
    subst hcs
    have hlm : len ≤ m := by rw [hmm]; split <;> omega
    obtain ⟨l, hll, hlx⟩ := list_of (Q := fun i (k : Nat) => k < 256 ∧ w.cell? (a.add i) = some (.int .u8 (k : Int))) len fun i hil => by
      obtain ⟨h1, h2⟩ := hi i (by omega)
      obtain ⟨k, e, _, hw⟩ := DataW.trod_int Try.underlying5 h2
      simp only [List.cons.injEq, and_true] at e
      have hr : 0 ≤ k ∧ k ≤ 255 := by
        simp only [Lit.wf, Bool.and_eq_true, decide_eq_true_eq] at hw
        exact hw
      obtain ⟨k, rfl⟩ := Int.eq_ofNat_of_zero_le hr.1
      exact ⟨k, by omega, by rw [h1, e]⟩
    refine ⟨some a, l, cap, by rw [hll], ⟨fun x hx => ?_, fun i h => ?_⟩, by omega, by unfold maxLen at hm; omega, .inr ⟨_, _, by rw [hx], by simp [hll]⟩⟩
    · obtain ⟨i, hi, rfl⟩ := List.mem_iff_getElem.1 hx
      exact (hlx i hi).1
    have h0 := (hlx 0 (by omega)).2
    have ha : a = ⟨a.block, a.off, none⟩ := by
      have e : a.add 0 = a := by simp [Addr.add]
      rw [e] at h0
      exact addr_plain h0
    have hc := (hlx i h).2
    rw [ha, add_off] at hc
    exact ⟨a.block, a.off, by rw [← ha], hc⟩
set_option maxRecDepth 100000 in
theorem open_ints_arg {r : Reach} {b0 : Nat} {v : Value} {d : DataW H} {p : List MemPlace} (hv : Value.okWide Try.prog w r b0 32 v) (h : DataW.Trod enc Try.prog w base spare held 32 v d p) :
    ∃ a l cap, v = .slice a l.length cap ∧ IsInts w a l ∧ l.length ≤ cap ∧ cap ≤ 9223372036854775807 ∧ LenIs d l.length := by
  obtain ⟨a, len, cap, rfl⟩ := okWide_slice Try.underlying32 hv
  obtain ⟨fuel, hf⟩ := h
  simp only [Value.cells] at hf
  exact trod_ints hf
set_option maxRecDepth 100000 in
theorem open_bytes_arg {r : Reach} {b0 : Nat} {v : Value} {d : DataW H} {p : List MemPlace} (hv : Value.okWide Try.prog w r b0 23 v) (h : DataW.Trod enc Try.prog w base spare held 23 v d p) :
    ∃ a l cap, v = .slice a l.length cap ∧ IsBytes w a l ∧ l.length ≤ cap ∧ cap ≤ 9223372036854775807 ∧ LenIs d l.length := by
  obtain ⟨a, len, cap, rfl⟩ := okWide_slice Try.underlying23 hv
  obtain ⟨fuel, hf⟩ := h
  simp only [Value.cells] at hf
  exact trod_bytes hf
theorem bytesInt : Try.prog.bytesOf 3 = 8 := by kernel_rfl
theorem bytesU8 : Try.prog.bytesOf 5 = 1 := by kernel_rfl
/-- The form's reach bounds a slice of numbers among the arguments. -/
theorem sized_ints {ts : List TypeId} {ds : List (DataW H)} (hsz : (DataW.weightsEach Try.prog ts ds).all (· ≤ reachBytes) = true) {j n : Nat} {d : DataW H} (ht : ts[j]? = some 32) (hd : ds[j]? = some d) (hl : LenIs d n) : n ≤ 20000000000000 := by
  rcases hl with ⟨_, rfl⟩ | ⟨es, sp, rfl, rfl⟩
  · omega
  · have h := sized_slice hsz ht hd Try.underlying32
    rw [bytesInt] at h
    simp only [reachBytes] at h
    omega
end
end Go.Proofs.Ytgmabhfffgnjjaa
