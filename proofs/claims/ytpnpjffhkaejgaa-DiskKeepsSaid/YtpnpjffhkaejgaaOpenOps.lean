/-
  PROVED HERE: an argument that is a script of steps is opened. Conditions: it can be read as data.
-/
import Derived.Test.YtpnpjffhkaejgaaOpenAgg
import Derived.Test.YtpnpjffhkaejgaaScript
import Derived.SizedLaws
namespace Go.Proofs.Ytpnpjffhkaejgaa
open Go.ChangeShapes Go.WideShapes Go.Deep Go.RowKit
section
variable {H : Type} {enc : TypeId × Value → H} {w : World} {base : Nat} {spare : Nat → Bool} {held : Bool}
theorem trod_picks {fuel : Nat} {v : Value} {y : DataW H × List MemPlace} (h : DataW.trod enc Try.prog w base spare held fuel 27 [v] = some y) :
    ∃ pa n pc picks, v = .slice pa n pc ∧ PicksAt w w.heap.size pa n picks := by
  rcases open_slice1 Try.underlying27 (by kernel_rfl) h with ⟨hcs, hx⟩ | ⟨a, len, cap, m, n, V, D, Pl, hcs, hb, hl, hm, hmm, hx, hi⟩
  · simp only [List.cons.injEq, and_true] at hcs
    subst hcs
    exact ⟨none, 0, 0, [], rfl, fun i h => absurd h (by simp), rfl, by decide, fun h => absurd h (by decide)⟩
  · simp only [List.cons.injEq, and_true] at hcs
    subst hcs
    have hlm : len ≤ m := by rw [hmm]; split <;> omega
    obtain ⟨l, hll, hlx⟩ := list_of (Q := fun i k => w.cell? (a.add i) = some (.int .i64 k)) len fun i hil => by
      obtain ⟨h1, h2⟩ := hi i (by omega)
      obtain ⟨k, e, _, _⟩ := DataW.trod_int Try.underlying3 h2
      simp only [List.cons.injEq, and_true] at e
      exact ⟨k, by rw [h1, e]⟩
    refine ⟨some a, len, cap, l, rfl, fun i h => ?_, hll, by unfold maxLen at hm; omega, fun h0 b o e => ?_⟩
    · have h0 := hlx 0 (by omega)
      have ha : a = ⟨a.block, a.off, none⟩ := by
        have e : a.add 0 = a := by simp [Addr.add]
        rw [e] at h0
        exact addr_plain h0
      have hc := hlx i h
      rw [ha, add_off] at hc
      exact ⟨a.block, a.off, by rw [← ha], by rw [hc, List.getD_eq_getElem?_getD, List.getElem?_eq_getElem h]; rfl⟩
    · have h1 := World.block_lt_of_cell? _ _ (hlx 0 (by omega))
      simp only [Option.some.injEq] at e
      subst e
      exact h1
/-- A datum of so many elements. -/
def OpsLen (d : DataW H) (n : Nat) : Prop := (d = .nil ∧ n = 0) ∨ ∃ es sp, d = .slice es sp ∧ es.length = n
set_option maxRecDepth 100000 in
theorem trod_ops {fuel : Nat} {v : Value} {y : DataW H × List MemPlace} (h : DataW.trod enc Try.prog w base spare held fuel 41 [v] = some y) :
    ∃ a n cap l, v = .slice a n cap ∧ IsScript w w.heap.size a l ∧ l.length = n ∧ OpsLen y.1 n := by
  rcases open_slice_fields Try.underlying41 Try.underlying29 (by kernel_rfl) (by kernel_rfl) h with ⟨hcs, hx⟩ | ⟨a, len, cap, m, D, Pl, hcs, _, hl, hm, hmm, hx, hi⟩
  · simp only [List.cons.injEq, and_true] at hcs
    subst hcs
    exact ⟨none, 0, 0, [], rfl, fun i h => absurd h (by simp), rfl, .inl ⟨by rw [hx], rfl⟩⟩
  · simp only [List.cons.injEq, and_true] at hcs
    subst hcs
    have hlm : len ≤ m := by rw [hmm]; split <;> omega
    obtain ⟨l, hll, hlx⟩ := list_of (Q := fun i (x : Stp) => (w.cell? (a.add (i * 7 + 0)) = some (.int .i64 x.k) ∧ w.cell? (a.add (i * 7 + 1)) = some (.int .i64 x.a) ∧ w.cell? (a.add (i * 7 + 2)) = some (.int .i64 x.c) ∧ w.cell? (a.add (i * 7 + 3)) = some (.int .i64 x.b) ∧ w.cell? (a.add (i * 7 + 4)) = some (.int .i64 x.f) ∧ w.cell? (a.add (i * 7 + 5)) = some (.bool x.u) ∧ w.cell? (a.add (i * 7 + 6)) = some (.slice x.pa x.n x.pc)) ∧ PicksAt w w.heap.size x.pa x.n x.picks) len fun i hil => by
      obtain ⟨ys, n, _, _, _, hf⟩ := hi i (by omega)
      have one : ∀ (j : Nat) (f : Field), _ = some f → j < 5 → Try.prog.underlying f.type = some (.int .i64) → ∃ k : Int, w.cell? (a.add (i * 7 + j)) = some (.int .i64 k) := fun j f hj _ ht => by
        obtain ⟨u, y, h1, _, h3⟩ := hf j f hj
        obtain ⟨k, e, _, _⟩ := DataW.trod_int ht h3
        simp only [List.cons.injEq, and_true] at e
        exact ⟨k, by rw [← e]; exact h1⟩
      obtain ⟨k0, c0⟩ := one 0 _ rfl (by decide) Try.underlying3
      obtain ⟨k1, c1⟩ := one 1 _ rfl (by decide) Try.underlying3
      obtain ⟨k2, c2⟩ := one 2 _ rfl (by decide) Try.underlying3
      obtain ⟨k3, c3⟩ := one 3 _ rfl (by decide) Try.underlying3
      obtain ⟨k4, c4⟩ := one 4 _ rfl (by decide) Try.underlying3
      obtain ⟨u5, y5, h51, _, h53⟩ := hf 5 _ rfl
      obtain ⟨u6, y6, h61, _, h63⟩ := hf 6 _ rfl
      obtain ⟨k5, e5, _⟩ := DataW.trod_bool Try.underlying4 h53
      obtain ⟨pa, n6, pc, picks, rfl, hp⟩ := trod_picks h63
      simp only [List.cons.injEq, and_true] at e5
      subst e5
      exact ⟨⟨k0, k1, k2, k3, k4, k5, pa, n6, pc, picks⟩, ⟨c0, c1, c2, c3, c4, h51, h61⟩, hp⟩
    refine ⟨some a, len, cap, l, rfl, fun i h => ?_, hll, .inr ⟨_, _, by rw [hx], by simp⟩⟩
    have h0 := (hlx 0 (by omega)).1.1
    have ha : a = ⟨a.block, a.off, none⟩ := by
      have e : a.add (0 * 7 + 0) = a := by simp [Addr.add]
      rw [e] at h0
      exact addr_plain h0
    refine ⟨a.block, a.off, by rw [← ha], ?_⟩
    have hc := hlx i h
    rw [ha] at hc
    simp only [add_off, ← Nat.add_assoc, Nat.add_zero] at hc
    exact hc
set_option maxRecDepth 100000 in
theorem open_script_arg {r : Reach} {b0 : Nat} {v : Value} {d : DataW H} {p : List MemPlace} (hv : Value.okWide Try.prog w r b0 41 v) (h : DataW.Trod enc Try.prog w base spare held 41 v d p) :
    ∃ a n cap l, v = .slice a n cap ∧ IsScript w w.heap.size a l ∧ l.length = n ∧ OpsLen d n := by
  obtain ⟨a, len, cap, rfl⟩ := okWide_slice Try.underlying41 hv
  obtain ⟨fuel, hf⟩ := h
  simp only [Value.cells] at hf
  exact trod_ops hf
set_option maxRecDepth 100000 in
theorem open_picks_arg {r : Reach} {b0 : Nat} {v : Value} {d : DataW H} {p : List MemPlace} (hv : Value.okWide Try.prog w r b0 27 v) (h : DataW.Trod enc Try.prog w base spare held 27 v d p) :
    ∃ pa n pc picks, v = .slice pa n pc ∧ PicksAt w w.heap.size pa n picks := by
  obtain ⟨a, len, cap, rfl⟩ := okWide_slice Try.underlying27 hv
  obtain ⟨fuel, hf⟩ := h
  simp only [Value.cells] at hf
  exact trod_picks hf
set_option maxRecDepth 100000 in
theorem open_step_arg {r : Reach} {b0 : Nat} {v : Value} {d : DataW H} {p : List MemPlace} (hv : Value.okWide Try.prog w r b0 29 v) (h : DataW.Trod enc Try.prog w base spare held 29 v d p) :
    ∃ (k a c b f : Int) (u : Bool) (q : Value), v = .agg #[.int .i64 k, .int .i64 a, .int .i64 c, .int .i64 b, .int .i64 f, .bool u, q] := by
  obtain ⟨cs, n, rfl, hsz, hf⟩ := open_agg_fields Try.underlying29 (by kernel_rfl) (by kernel_rfl) hv h
  have one : ∀ (j : Nat) (f : Field), _ = some f → Try.prog.underlying f.type = some (.int .i64) → ∃ k : Int, cs[j]? = some (.int .i64 k) := fun j f hj ht => by
    obtain ⟨u, y, h1, h3⟩ := hf j f hj
    obtain ⟨k, e, _, _⟩ := DataW.trod_int ht h3
    simp only [List.cons.injEq, and_true] at e
    exact ⟨k, by rw [← e]; exact h1⟩
  obtain ⟨k0, c0⟩ := one 0 _ rfl Try.underlying3
  obtain ⟨k1, c1⟩ := one 1 _ rfl Try.underlying3
  obtain ⟨k2, c2⟩ := one 2 _ rfl Try.underlying3
  obtain ⟨k3, c3⟩ := one 3 _ rfl Try.underlying3
  obtain ⟨k4, c4⟩ := one 4 _ rfl Try.underlying3
  obtain ⟨u5, y5, c5, t5⟩ := hf 5 _ rfl
  obtain ⟨u6, y6, c6, t6⟩ := hf 6 _ rfl
  obtain ⟨k5, e5, _⟩ := DataW.trod_bool Try.underlying4 t5
  simp only [List.cons.injEq, and_true] at e5
  subst e5
  refine ⟨k0, k1, k2, k3, k4, k5, u6, ?_⟩
  congr 1
  apply Array.ext_getElem?
  intro j
  have h7 : cs.size = 7 := hsz
  match j with
  | 0 => exact c0
  | 1 => exact c1
  | 2 => exact c2
  | 3 => exact c3
  | 4 => exact c4
  | 5 => exact c5
  | 6 => exact c6
  | j + 7 => rw [Array.getElem?_eq_none (by omega), Array.getElem?_eq_none (by simp)]
theorem bytesOp : Try.prog.bytesOf 29 = 72 := by kernel_rfl
/-- The form's reach bounds a script among the arguments. -/
theorem sized_ops {ts : List TypeId} {ds : List (DataW H)} (hsz : (DataW.weightsEach Try.prog ts ds).all (· ≤ reachBytes) = true) {j n : Nat} {d : DataW H} (ht : ts[j]? = some 41) (hd : ds[j]? = some d) (hl : OpsLen d n) : n ≤ 1990000000000 := by
  rcases hl with ⟨_, rfl⟩ | ⟨es, sp, rfl, rfl⟩
  · omega
  · have h := sized_slice hsz ht hd Try.underlying41
    rw [bytesOp] at h
    simp only [reachBytes] at h
    omega
end
end Go.Proofs.Ytpnpjffhkaejgaa
