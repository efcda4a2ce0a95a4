/-
  PROVED HERE: an argument that is a script of steps on superblocks is opened. Conditions: it can be read as data.
-/
import Derived.Test.YtpnpjffhkaejgaaGreatDoorOpenAgg
import Derived.Test.YtpnpjffhkaejgaaGreatDoorSuperV
import Derived.SizedLaws
namespace Go.Proofs.YtpnpjffhkaejgaaGreatDoor
open Go.ChangeShapes Go.WideShapes Go.Deep Go.RowKit
section
variable {H : Type} {enc : TypeId × Value → H} {w : World} {base : Nat} {spare : Nat → Bool} {held : Bool}
theorem trod_spicks {fuel : Nat} {v : Value} {y : DataW H × List MemPlace} (h : DataW.trod enc Tryz.prog w base spare held fuel 35 [v] = some y) :
    ∃ pa n pc picks, v = .slice pa n pc ∧ SPicks w w.heap.size pa n picks := by
  rcases open_slice1 Tryz.underlying35 (by kernel_rfl) h with ⟨hcs, hx⟩ | ⟨a, len, cap, m, n, V, D, Pl, hcs, hb, hl, hm, hmm, hx, hi⟩
  · simp only [List.cons.injEq, and_true] at hcs
    subst hcs
    exact ⟨none, 0, 0, [], rfl, fun i h => absurd h (by simp), rfl, by decide, fun h => absurd h (by decide)⟩
  · simp only [List.cons.injEq, and_true] at hcs
    subst hcs
    have hlm : len ≤ m := by rw [hmm]; split <;> omega
    obtain ⟨l, hll, hlx⟩ := list_of (Q := fun i k => w.cell? (a.add i) = some (.int .i64 k)) len fun i hil => by
      obtain ⟨h1, h2⟩ := hi i (by omega)
      obtain ⟨k, e, _, _⟩ := DataW.trod_int Tryz.underlying3 h2
      simp only [List.cons.injEq, and_true] at e
      exact ⟨k, by rw [h1, e]⟩
    refine ⟨some a, len, cap, l, rfl, fun i h => ?_, hll, by unfold maxLen at hm; omega, fun h0 b o e => ?_⟩
    · have h0 := hlx 0 (by omega)
      have ha : a = ⟨a.block, a.off, none⟩ := by
        have e : a.add 0 = a := by simp [Addr.add]
        rw [e] at h0
        exact addr_plain h0
      have hc := hlx i h
      rw [ha, add_off] at hc
      exact ⟨a.block, a.off, by rw [← ha], by rw [hc, List.getD_eq_getElem?_getD, List.getElem?_eq_getElem h]; rfl⟩
    · have h1 := World.block_lt_of_cell? _ _ (hlx 0 (by omega))
      simp only [Option.some.injEq] at e
      subst e
      exact h1
/-- One field of a struct, wherever it lies. -/
theorem field_of {P : Program} {n : Nat} {cs : List Value} {fs : Array Field} {ys : List (DataW H × List MemPlace)} (hl : ys.length = fs.size) (hf : ∀ (j : Nat) (f : Field), fs[j]? = some f → DataW.trod enc P w base spare held n f.type ((cs.drop f.offset).take (P.cellsOf f.type)) = ys[j]?)
    (j : Nat) (f : Field) (hj : fs[j]? = some f) {o k : Nat} {t : TypeId} (ho : f.offset = o) (ht : f.type = t) (hk : P.cellsOf t = k) {c : List Value} (hc : (cs.drop o).take k = c) : ∃ y, DataW.trod enc P w base spare held n t c = some y := by
  have h1 := hf j f hj
  have hjl : j < fs.size := (Array.getElem?_eq_some_iff.1 hj).1
  rw [ho, ht, hk, hc, List.getElem?_eq_getElem (by omega)] at h1
  exact ⟨_, h1⟩
theorem int_of {n : Nat} {c : Value} (h : ∃ y, DataW.trod enc Tryz.prog w base spare held n 3 [c] = some y) : ∃ k : Int, c = .int .i64 k := by
  obtain ⟨y, h⟩ := h
  obtain ⟨k, e, _, _⟩ := DataW.trod_int Tryz.underlying3 h
  simp only [List.cons.injEq, and_true] at e
  exact ⟨k, e⟩
theorem cellsInt : Tryz.prog.cellsOf 3 = 1 := by kernel_rfl
theorem cellsInts : Tryz.prog.cellsOf 35 = 1 := by kernel_rfl
theorem cellsSup : Tryz.prog.cellsOf 34 = 7 := by kernel_rfl
theorem cellsSop : Tryz.prog.cellsOf 37 = 11 := by kernel_rfl
set_option maxRecDepth 100000 in
theorem trod_sup7 {fuel : Nat} {c0 c1 c2 c3 c4 c5 c6 : Value} (h : ∃ y, DataW.trod enc Tryz.prog w base spare held fuel 34 [c0, c1, c2, c3, c4, c5, c6] = some y) :
    ∃ x0 x1 x2 x3 x4 x5 x6 : Int, c0 = .int .i64 x0 ∧ c1 = .int .i64 x1 ∧ c2 = .int .i64 x2 ∧ c3 = .int .i64 x3 ∧ c4 = .int .i64 x4 ∧ c5 = .int .i64 x5 ∧ c6 = .int .i64 x6 := by
  obtain ⟨y, h⟩ := h
  obtain ⟨ys, n, _, _, _, hyl, hf⟩ := DataW.trod_struct Tryz.underlying34 h
  have g := fun j f hj {o k t} ho ht hk c hc => field_of (o := o) (k := k) (t := t) (c := c) hyl hf j f hj ho ht hk hc
  clear hf hyl h
  obtain ⟨x0, e0⟩ := int_of (g 0 _ rfl rfl rfl cellsInt [c0] rfl)
  obtain ⟨x1, e1⟩ := int_of (g 1 _ rfl rfl rfl cellsInt [c1] rfl)
  obtain ⟨x2, e2⟩ := int_of (g 2 _ rfl rfl rfl cellsInt [c2] rfl)
  obtain ⟨x3, e3⟩ := int_of (g 3 _ rfl rfl rfl cellsInt [c3] rfl)
  obtain ⟨x4, e4⟩ := int_of (g 4 _ rfl rfl rfl cellsInt [c4] rfl)
  obtain ⟨x5, e5⟩ := int_of (g 5 _ rfl rfl rfl cellsInt [c5] rfl)
  obtain ⟨x6, e6⟩ := int_of (g 6 _ rfl rfl rfl cellsInt [c6] rfl)
  exact ⟨x0, x1, x2, x3, x4, x5, x6, e0, e1, e2, e3, e4, e5, e6⟩
/-- A datum of so many elements. -/
def SopsLen (d : DataW H) (n : Nat) : Prop := (d = .nil ∧ n = 0) ∨ ∃ es sp, d = .slice es sp ∧ es.length = n
def SopCells (w : World) (a : Addr) (i : Nat) (x : Sop) : Prop :=
  w.cell? (a.add (i * 11)) = some (.int .i64 x.k) ∧ w.cell? (a.add (i * 11 + 1)) = some (.int .i64 x.x0) ∧ w.cell? (a.add (i * 11 + 2)) = some (.int .i64 x.x1) ∧ w.cell? (a.add (i * 11 + 3)) = some (.int .i64 x.x2) ∧ w.cell? (a.add (i * 11 + 4)) = some (.int .i64 x.x3) ∧ w.cell? (a.add (i * 11 + 5)) = some (.int .i64 x.x4) ∧ w.cell? (a.add (i * 11 + 6)) = some (.int .i64 x.x5) ∧ w.cell? (a.add (i * 11 + 7)) = some (.int .i64 x.x6) ∧ w.cell? (a.add (i * 11 + 8)) = some (.int .i64 x.a) ∧ w.cell? (a.add (i * 11 + 9)) = some (.int .i64 x.f) ∧ w.cell? (a.add (i * 11 + 10)) = some (.slice x.pa x.n x.pc)
set_option maxRecDepth 100000 in
theorem trod_sops {fuel : Nat} {v : Value} {y : DataW H × List MemPlace} (h : DataW.trod enc Tryz.prog w base spare held fuel 22 [v] = some y) :
    ∃ a n cap l, v = .slice a n cap ∧ IsSops w w.heap.size a l ∧ l.length = n ∧ SopsLen y.1 n := by
  rcases open_slice Tryz.underlying22 h with ⟨hcs, hx⟩ | ⟨a, len, cap, m, n, D, Pl, hcs, _, hl, hm, hmm, hx, hi⟩
  · simp only [List.cons.injEq, and_true] at hcs
    subst hcs
    exact ⟨none, 0, 0, [], rfl, fun i h => absurd h (by simp), rfl, .inl ⟨by rw [hx], rfl⟩⟩
  · simp only [List.cons.injEq, and_true] at hcs
    subst hcs
    have hlm : len ≤ m := by rw [hmm]; split <;> omega
    obtain ⟨l, hll, hlx⟩ := list_of (Q := fun i (x : Sop) => SopCells w a i x ∧ SPicks w w.heap.size x.pa x.n x.picks) len fun i hil => by
      obtain ⟨cs', hc, ht⟩ := hi i (by omega)
      rw [cellsSop] at hc
      obtain ⟨_, hcl, hat⟩ := World.cells?_some hc
      obtain ⟨ys, n', _, _, _, hyl, hf⟩ := DataW.trod_struct Tryz.underlying37 ht
      match cs', hcl with
      | [c0, c1, c2, c3, c4, c5, c6, c7, c8, c9, c10], _ =>
      have g := fun j f hj {o k t} ho ht hk c hc => field_of (o := o) (k := k) (t := t) (c := c) hyl hf j f hj ho ht hk hc
      clear hf hyl ht
      obtain ⟨k, rfl⟩ := int_of (g 0 _ rfl rfl rfl cellsInt [c0] rfl)
      obtain ⟨x0, x1, x2, x3, x4, x5, x6, rfl, rfl, rfl, rfl, rfl, rfl, rfl⟩ := trod_sup7 (g 1 _ rfl rfl rfl cellsSup [c1, c2, c3, c4, c5, c6, c7] rfl)
      obtain ⟨b, rfl⟩ := int_of (g 2 _ rfl rfl rfl cellsInt [c8] rfl)
      obtain ⟨f, rfl⟩ := int_of (g 3 _ rfl rfl rfl cellsInt [c9] rfl)
      obtain ⟨yp, hp⟩ := g 4 _ rfl rfl rfl cellsInts [c10] rfl
      obtain ⟨pa, np, pc, picks, rfl, hpp⟩ := trod_spicks hp
      clear g
      have q := fun j (hj : j < 11) => (congrArg w.cell? (Go.Deep.add_add a (i * 11) j).symm).trans (hat j hj)
      exact ⟨⟨k, x0, x1, x2, x3, x4, x5, x6, b, f, pa, np, pc, picks⟩, ⟨q 0 (by decide), q 1 (by decide), q 2 (by decide), q 3 (by decide), q 4 (by decide), q 5 (by decide), q 6 (by decide), q 7 (by decide), q 8 (by decide), q 9 (by decide), q 10 (by decide)⟩, hpp⟩
    refine ⟨some a, len, cap, l, rfl, fun i h => ?_, hll, .inr ⟨_, _, by rw [hx], by simp⟩⟩
    have h0 := (hlx 0 (by omega)).1.1
    have ha : a = ⟨a.block, a.off, none⟩ := by
      have e : a.add (0 * 11) = a := by simp [Addr.add]
      rw [e] at h0
      exact addr_plain h0
    refine ⟨a.block, a.off, by rw [← ha], ?_⟩
    have hc := hlx i h
    unfold SopCells at hc
    rw [ha] at hc
    simp only [add_off, ← Nat.add_assoc] at hc
    exact hc
set_option maxRecDepth 100000 in
theorem open_sops_arg {r : Reach} {b0 : Nat} {v : Value} {d : DataW H} {p : List MemPlace} (hv : Value.okWide Tryz.prog w r b0 22 v) (h : DataW.Trod enc Tryz.prog w base spare held 22 v d p) :
    ∃ a n cap l, v = .slice a n cap ∧ IsSops w w.heap.size a l ∧ l.length = n ∧ SopsLen d n := by
  obtain ⟨a, len, cap, rfl⟩ := okWide_slice Tryz.underlying22 hv
  obtain ⟨fuel, hf⟩ := h
  simp only [Value.cells] at hf
  exact trod_sops hf
theorem bytesSop : Tryz.prog.bytesOf 37 = 104 := by kernel_rfl
/-- The form's reach bounds a script among the arguments. -/
theorem sized_sops {ts : List TypeId} {ds : List (DataW H)} (hsz : (DataW.weightsEach Tryz.prog ts ds).all (· ≤ reachBytes) = true) {j n : Nat} {d : DataW H} (ht : ts[j]? = some 22) (hd : ds[j]? = some d) (hl : SopsLen d n) : n ≤ 1990000000000 := by
  rcases hl with ⟨_, rfl⟩ | ⟨es, sp, rfl, rfl⟩
  · omega
  · have h := sized_slice hsz ht hd Tryz.underlying22
    rw [bytesSop] at h
    simp only [reachBytes] at h
    omega
end
end Go.Proofs.YtpnpjffhkaejgaaGreatDoor
