/-
  PROVED HERE: an argument that is a script of deeds, or one deed, is opened. Conditions: it can be read as data.
-/
import Derived.Test.YtgmabhfffgnjjaaOpenInts
import Derived.Test.YtgmabhfffgnjjaaCntL
import Derived.SizedLaws
namespace Go.Proofs.Ytgmabhfffgnjjaa
open Go.ChangeShapes Go.WideShapes Go.Deep Go.RowKit
section
variable {H : Type} {enc : TypeId × Value → H} {w : World} {base : Nat} {spare : Nat → Bool} {held : Bool}
theorem i64_wf {n : Int} (h : (Lit.int .i64 n).wf = true) : -9223372036854775808 ≤ n ∧ n ≤ 9223372036854775807 := by
  simp only [Lit.wf, Bool.and_eq_true, decide_eq_true_eq] at h
  exact h
set_option maxRecDepth 100000 in
theorem trod_deeds {fuel : Nat} {v : Value} {y : DataW H × List MemPlace} (h : DataW.trod enc Try.prog w base spare held fuel 22 [v] = some y) :
    ∃ a n cap l, v = .slice a n cap ∧ IsDeeds w w.heap.size a l ∧ l.length = n ∧ LenIs y.1 n := by
  rcases open_slice_fields Try.underlying22 Try.underlying25 (by kernel_rfl) (by kernel_rfl) h with ⟨hcs, hx⟩ | ⟨a, len, cap, m, D, Pl, hcs, _, hl, hm, hmm, hx, hi⟩
  · simp only [List.cons.injEq, and_true] at hcs
    subst hcs
    exact ⟨none, 0, 0, [], rfl, fun i h => absurd h (by simp), rfl, .inl ⟨by rw [hx], rfl⟩⟩
  · simp only [List.cons.injEq, and_true] at hcs
    subst hcs
    have hlm : len ≤ m := by rw [hmm]; split <;> omega
    obtain ⟨l, hll, hlx⟩ := list_of (Q := fun i (x : Deed) => ∃ pa pc, (w.cell? (a.add (i * 4 + 0)) = some (.int .i64 x.k) ∧ w.cell? (a.add (i * 4 + 1)) = some (.int .i64 x.p) ∧ w.cell? (a.add (i * 4 + 2)) = some (.int .i64 x.y) ∧ w.cell? (a.add (i * 4 + 3)) = some (.slice pa x.body.length pc)) ∧
        IsBytes w pa x.body ∧ x.body.length ≤ pc ∧ pc ≤ 9223372036854775807 ∧ (-9223372036854775808 ≤ x.k ∧ x.k ≤ 9223372036854775807)) len fun i hil => by
      obtain ⟨ys, n, _, _, _, hf⟩ := hi i (by omega)
      have one : ∀ (j : Nat) (f : Field), _ = some f → j < 3 → Try.prog.underlying f.type = some (.int .i64) → ∃ k : Int, w.cell? (a.add (i * 4 + j)) = some (.int .i64 k) ∧ (Lit.int .i64 k).wf = true := fun j f hj _ ht => by
        obtain ⟨u, y, h1, _, h3⟩ := hf j f hj
        obtain ⟨k, e, _, hw⟩ := DataW.trod_int ht h3
        simp only [List.cons.injEq, and_true] at e
        exact ⟨k, by rw [← e]; exact h1, hw⟩
      obtain ⟨k0, c0, w0⟩ := one 0 _ rfl (by decide) Try.underlying3
      obtain ⟨k1, c1, _⟩ := one 1 _ rfl (by decide) Try.underlying3
      obtain ⟨k2, c2, _⟩ := one 2 _ rfl (by decide) Try.underlying3
      obtain ⟨u3, y3, h31, _, h33⟩ := hf 3 _ rfl
      obtain ⟨pa, bl, pc, rfl, hb, hp1, hp2, _⟩ := trod_bytes h33
      exact ⟨⟨k0, k1, k2, bl⟩, pa, pc, ⟨c0, c1, c2, h31⟩, hb, hp1, hp2, i64_wf w0⟩
    refine ⟨some a, len, cap, l, rfl, fun i h => ?_, hll, .inr ⟨_, _, by rw [hx], by simp⟩⟩
    obtain ⟨_, _, ⟨h0, _⟩, _⟩ := hlx 0 (by omega)
    have hlt := World.block_lt_of_cell? _ _ h0
    have ha : a = ⟨a.block, a.off, none⟩ := by
      have e : a.add (0 * 4 + 0) = a := by simp [Addr.add]
      rw [e] at h0
      exact addr_plain h0
    refine ⟨a.block, a.off, by rw [← ha], ?_⟩
    obtain ⟨pa, pc, hc, hb, hp1, hp2, hk⟩ := hlx i h
    rw [ha] at hc hlt
    simp only [add_off, ← Nat.add_assoc, Nat.add_zero] at hc hlt
    exact ⟨pa, pc, hc, hb, hp1, hp2, fun h0 b o e => (by
      obtain ⟨b', o', e', hc'⟩ := hb.2 0 h0
      rw [e'] at e
      cases e
      exact World.block_lt_of_cell? _ _ hc'), hlt, hk⟩
set_option maxRecDepth 100000 in
theorem open_deeds_arg {r : Reach} {b0 : Nat} {v : Value} {d : DataW H} {p : List MemPlace} (hv : Value.okWide Try.prog w r b0 22 v) (h : DataW.Trod enc Try.prog w base spare held 22 v d p) :
    ∃ a n cap l, v = .slice a n cap ∧ IsDeeds w w.heap.size a l ∧ l.length = n ∧ LenIs d n := by
  obtain ⟨a, len, cap, rfl⟩ := okWide_slice Try.underlying22 hv
  obtain ⟨fuel, hf⟩ := h
  simp only [Value.cells] at hf
  exact trod_deeds hf
set_option maxRecDepth 100000 in
theorem open_deed_arg {r : Reach} {b0 : Nat} {v : Value} {d : DataW H} {p : List MemPlace} (hv : Value.okWide Try.prog w r b0 25 v) (h : DataW.Trod enc Try.prog w base spare held 25 v d p) :
    ∃ (k x y : Int) (q : Value), v = .agg #[.int .i64 k, .int .i64 x, .int .i64 y, q] := by
  obtain ⟨cs, n, rfl, hsz, hf⟩ := open_agg_fields Try.underlying25 (by kernel_rfl) (by kernel_rfl) hv h
  have one : ∀ (j : Nat) (f : Field), _ = some f → Try.prog.underlying f.type = some (.int .i64) → ∃ k : Int, cs[j]? = some (.int .i64 k) := fun j f hj ht => by
    obtain ⟨u, y, h1, h3⟩ := hf j f hj
    obtain ⟨k, e, _, _⟩ := DataW.trod_int ht h3
    simp only [List.cons.injEq, and_true] at e
    exact ⟨k, by rw [← e]; exact h1⟩
  obtain ⟨k0, c0⟩ := one 0 _ rfl Try.underlying3
  obtain ⟨k1, c1⟩ := one 1 _ rfl Try.underlying3
  obtain ⟨k2, c2⟩ := one 2 _ rfl Try.underlying3
  obtain ⟨u3, y3, c3, t3⟩ := hf 3 _ rfl
  refine ⟨k0, k1, k2, u3, ?_⟩
  congr 1
  apply Array.ext_getElem?
  intro j
  have h7 : cs.size = 4 := hsz
  match j with
  | 0 => exact c0
  | 1 => exact c1
  | 2 => exact c2
  | 3 => exact c3
  | j + 4 => rw [Array.getElem?_eq_none (by omega), Array.getElem?_eq_none (by simp)]
theorem bytesDeed : Try.prog.bytesOf 25 = 48 := by kernel_rfl
/-- The form's reach bounds a script among the arguments. -/
theorem sized_deeds {ts : List TypeId} {ds : List (DataW H)} (hsz : (DataW.weightsEach Try.prog ts ds).all (· ≤ reachBytes) = true) {j n : Nat} {d : DataW H} (ht : ts[j]? = some 22) (hd : ds[j]? = some d) (hl : LenIs d n) : n ≤ 2990000000000 := by
  rcases hl with ⟨_, rfl⟩ | ⟨es, sp, rfl, rfl⟩
  · omega
  · have h := sized_slice hsz ht hd Try.underlying22
    rw [bytesDeed] at h
    simp only [reachBytes] at h
    omega
end
end Go.Proofs.Ytgmabhfffgnjjaa
