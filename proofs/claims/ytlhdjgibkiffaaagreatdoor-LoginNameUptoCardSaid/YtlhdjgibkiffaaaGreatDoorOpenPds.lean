/-
  PROVED HERE: an argument that is a row of PDUs is opened; what the narrow form's bound says of their data. Conditions: it can be read as data.
-/
import Derived.Test.YtlhdjgibkiffaaaGreatDoorOpenTxb
import Derived.Test.YtlhdjgibkiffaaaGreatDoorLogJ
namespace Go.Proofs.YtlhdjgibkiffaaaGreatDoor
open Go.ChangeShapes Go.WideShapes Go.Deep Go.RowKit
section
variable {H : Type} {enc : TypeId × Value → H} {w : World} {base : Nat} {spare : Nat → Bool} {held : Bool}
/-- One field of a struct, wherever it lies. -/
theorem field_of {P : Program} {n : Nat} {cs : List Value} {fs : Array Field} {ys : List (DataW H × List MemPlace)} (hl : ys.length = fs.size) (hf : ∀ (j : Nat) (f : Field), fs[j]? = some f → DataW.trod enc P w base spare held n f.type ((cs.drop f.offset).take (P.cellsOf f.type)) = ys[j]?)
    (j : Nat) (f : Field) (hj : fs[j]? = some f) {o k : Nat} {t : TypeId} (ho : f.offset = o) (ht : f.type = t) (hk : P.cellsOf t = k) {c : List Value} (hc : (cs.drop o).take k = c) : ∃ y, DataW.trod enc P w base spare held n t c = some y ∧ y ∈ ys := by
  have h1 := hf j f hj
  have hjl : j < fs.size := (Array.getElem?_eq_some_iff.1 hj).1
  rw [ho, ht, hk, hc, List.getElem?_eq_getElem (by omega)] at h1
  exact ⟨_, h1, List.getElem_mem _⟩
theorem int_of {n : Nat} {c : Value} {ys : List (DataW H × List MemPlace)} (h : ∃ y, DataW.trod enc Tryz.prog w base spare held n 3 [c] = some y ∧ y ∈ ys) : ∃ k : Int, c = .int .i64 k := by
  obtain ⟨y, h, _⟩ := h
  obtain ⟨k, e, _, _⟩ := DataW.trod_int Tryz.underlying3 h
  simp only [List.cons.injEq, and_true] at e
  exact ⟨k, e⟩
theorem byte_of {n : Nat} {c : Value} {y : DataW H × List MemPlace} (h : DataW.trod enc Tryz.prog w base spare held n 5 [c] = some y) : ∃ k : Int, c = .int .u8 k := by
  obtain ⟨k, e, _, _⟩ := DataW.trod_int Tryz.underlying5 h
  simp only [List.cons.injEq, and_true] at e
  exact ⟨k, e⟩
theorem cellsInt : Tryz.prog.cellsOf 3 = 1 := by kernel_rfl
theorem cellsBool : Tryz.prog.cellsOf 4 = 1 := by kernel_rfl
theorem cellsTxt : Tryz.prog.cellsOf 28 = 1 := by kernel_rfl
theorem cellsTail : Tryz.prog.cellsOf 27 = 16 := by kernel_rfl
theorem cellsByte : Tryz.prog.cellsOf 5 = 1 := by kernel_rfl
theorem cellsPdr : Tryz.prog.cellsOf 30 = 27 := by kernel_rfl
set_option maxRecDepth 100000 in
theorem trod_pds {fuel : Nat} {v : Value} {y : DataW H × List MemPlace} (h : DataW.trod enc Tryz.prog w base spare held fuel 22 [v] = some y) :
    ∃ l, IsRws w v l ∧ (Rows.uptoBulk y.1 ≤ 1048576 → l.length ≤ 1048576 ∧ ∀ i (h : i < l.length), l[i].data.length ≤ 1048576) := by
  rcases open_slice Tryz.underlying22 h with ⟨hcs, hx⟩ | ⟨a, len, cap, m, n, D, Pl, hcs, _, hl, hm, hmm, hx, hi⟩
  · simp only [List.cons.injEq, and_true] at hcs
    subst hcs
    exact ⟨[], ⟨none, 0, rfl, by simp, by decide, fun i h => absurd h (by simp)⟩, fun _ => ⟨by simp, fun i h => absurd h (by simp)⟩⟩
  · simp only [List.cons.injEq, and_true] at hcs
    subst hcs
    have hlm : len ≤ m := by rw [hmm]; split <;> omega
    obtain ⟨l, hll, hlx⟩ := list_of (Q := fun i (r : Rw) => (∀ j u, (rwV r)[j]? = some u → w.cell? (a.add (i * 27 + j)) = some u) ∧ IsTxtV w (.slice r.dp r.data.length r.dc) r.data ∧ r.data.length ≤ Rows.uptoBulk (D i)) len fun i hil => by
      obtain ⟨cs', hc, ht⟩ := hi i (by omega)
      rw [cellsPdr] at hc
      obtain ⟨_, hcl, hat⟩ := World.cells?_some hc
      obtain ⟨ys, n', _, hD, _, hyl, hf⟩ := DataW.trod_struct Tryz.underlying30 ht
      match cs', hcl with
      | [c0, c1, c2, c3, c4, c5, c6, c7, c8, c9, b0, b1, b2, b3, b4, b5, b6, b7, b8, b9, b10, b11, b12, b13, b14, b15, c26], _ =>
      have g := fun j f hj {o k t} ho ht hk c hc => field_of (o := o) (k := k) (t := t) (c := c) hyl hf j f hj ho ht hk hc
      clear hf hyl ht
      obtain ⟨x0, rfl⟩ := int_of (g 0 _ rfl rfl rfl cellsInt [c0] rfl)
      obtain ⟨yb, hyb, _⟩ := g 1 _ rfl rfl rfl cellsBool [c1] rfl
      obtain ⟨x1, e1, _⟩ := DataW.trod_bool Tryz.underlying4 hyb
      simp only [List.cons.injEq, and_true] at e1
      subst e1
      obtain ⟨x2, rfl⟩ := int_of (g 2 _ rfl rfl rfl cellsInt [c2] rfl)
      obtain ⟨x3, rfl⟩ := int_of (g 3 _ rfl rfl rfl cellsInt [c3] rfl)
      obtain ⟨x4, rfl⟩ := int_of (g 4 _ rfl rfl rfl cellsInt [c4] rfl)
      obtain ⟨x5, rfl⟩ := int_of (g 5 _ rfl rfl rfl cellsInt [c5] rfl)
      obtain ⟨x6, rfl⟩ := int_of (g 6 _ rfl rfl rfl cellsInt [c6] rfl)
      obtain ⟨x7, rfl⟩ := int_of (g 7 _ rfl rfl rfl cellsInt [c7] rfl)
      obtain ⟨x8, rfl⟩ := int_of (g 8 _ rfl rfl rfl cellsInt [c8] rfl)
      obtain ⟨x9, rfl⟩ := int_of (g 9 _ rfl rfl rfl cellsInt [c9] rfl)
      obtain ⟨yt, hyt, _⟩ := g 10 _ rfl rfl rfl cellsTail [b0, b1, b2, b3, b4, b5, b6, b7, b8, b9, b10, b11, b12, b13, b14, b15] rfl
      obtain ⟨zs, q, _, _, _, hzl, hz⟩ := DataW.trod_array Tryz.underlying27 hyt
      rw [cellsByte] at hz
      have hz' := fun i (hi : i < 16) => (hz i hi).trans (List.getElem?_eq_getElem (by omega))
      obtain ⟨t0, rfl⟩ := byte_of (c := b0) (hz' 0 (by decide))
      obtain ⟨t1, rfl⟩ := byte_of (c := b1) (hz' 1 (by decide))
      obtain ⟨t2, rfl⟩ := byte_of (c := b2) (hz' 2 (by decide))
      obtain ⟨t3, rfl⟩ := byte_of (c := b3) (hz' 3 (by decide))
      obtain ⟨t4, rfl⟩ := byte_of (c := b4) (hz' 4 (by decide))
      obtain ⟨t5, rfl⟩ := byte_of (c := b5) (hz' 5 (by decide))
      obtain ⟨t6, rfl⟩ := byte_of (c := b6) (hz' 6 (by decide))
      obtain ⟨t7, rfl⟩ := byte_of (c := b7) (hz' 7 (by decide))
      obtain ⟨t8, rfl⟩ := byte_of (c := b8) (hz' 8 (by decide))
      obtain ⟨t9, rfl⟩ := byte_of (c := b9) (hz' 9 (by decide))
      obtain ⟨t10, rfl⟩ := byte_of (c := b10) (hz' 10 (by decide))
      obtain ⟨t11, rfl⟩ := byte_of (c := b11) (hz' 11 (by decide))
      obtain ⟨t12, rfl⟩ := byte_of (c := b12) (hz' 12 (by decide))
      obtain ⟨t13, rfl⟩ := byte_of (c := b13) (hz' 13 (by decide))
      obtain ⟨t14, rfl⟩ := byte_of (c := b14) (hz' 14 (by decide))
      obtain ⟨t15, rfl⟩ := byte_of (c := b15) (hz' 15 (by decide))
      obtain ⟨yd, hyd, hydm⟩ := g 11 _ rfl rfl rfl cellsTxt [c26] rfl
      obtain ⟨d, hdt, hdl⟩ := trod_txt hyd
      obtain ⟨dp, dc, rfl, hd2⟩ := id hdt
      clear g hz hz'
      refine ⟨⟨x0, x1, x2, x3, x4, x5, x6, x7, x8, x9, t0, t1, t2, t3, t4, t5, t6, t7, t8, t9, t10, t11, t12, t13, t14, t15, dp, dc, d⟩, fun j u hu => ?_, hdt, ?_⟩
      · have hj : j < 27 := (List.getElem?_eq_some_iff.1 hu).1
        have h1 := hat j hj
        rw [Go.Deep.add_add] at h1
        rw [h1]
        exact hu
      · have h1 : D i = .agg (ys.map (·.1)) := (Prod.mk.inj hD).1
        have h2 : yd.1 ∈ ys.map (·.1) := List.mem_map_of_mem hydm
        have h3 := part_le_bulk h2
        rw [h1]
        simp only [Rows.uptoBulk]
        rcases hdl with ⟨_, h0⟩ | ⟨es, sp, he, hel⟩
        · omega
        · have h4 := length_le_bulk es
          rw [he] at h3
          simp only [Rows.uptoBulk] at h3
          omega
    refine ⟨l, ⟨some a, cap, by rw [hll], by omega, hm, fun i h => ?_⟩, fun hb => ?_⟩
    · have h0 := (hlx 0 (by omega)).1 0 _ rfl
      have hlt := World.block_lt_of_cell? _ _ h0
      have ha : a = ⟨a.block, a.off, none⟩ := by
        have e : a.add (0 * 27 + 0) = a := by simp [Addr.add]
        rw [e] at h0
        exact addr_plain h0
      refine ⟨a.block, a.off, by rw [← ha], hlt, fun j u hu => ?_, (hlx i h).2.1⟩
      have hc := (hlx i h).1 j u hu
      rw [ha, add_off, ← Nat.add_assoc] at hc
      exact hc
    · rw [hx] at hb
      simp only [Rows.uptoBulk] at hb
      have h1 := length_le_bulk ((List.range len).map D)
      refine ⟨by simp only [List.length_map, List.length_range] at h1; omega, fun i h => ?_⟩
      have h2 : D i ∈ (List.range len).map D := List.mem_map_of_mem (List.mem_range.2 (by omega))
      have h3 := part_le_bulk h2
      have h4 := (hlx i h).2.2
      omega
set_option maxRecDepth 100000 in
theorem open_pds_arg {r : Reach} {b0 : Nat} {v : Value} {d : DataW H} {p : List MemPlace} (hv : Value.okWide Tryz.prog w r b0 22 v) (h : DataW.Trod enc Tryz.prog w base spare held 22 v d p) :
    ∃ l, IsRws w v l ∧ (Rows.uptoBulk d ≤ 1048576 → l.length ≤ 1048576 ∧ ∀ i (h : i < l.length), l[i].data.length ≤ 1048576) := by
  obtain ⟨a, len, cap, rfl⟩ := okWide_slice Tryz.underlying22 hv
  obtain ⟨fuel, hf⟩ := h
  simp only [Value.cells] at hf
  exact trod_pds hf
/-- The narrow form's bound, of one argument. -/
theorem bulk_one {ds : List (DataW H)} (hk : Rows.uptoSmall H ds = true) {d : DataW H} (hd : d ∈ ds) : Rows.uptoBulk d ≤ 1048576 := by
  have h1 : Rows.uptoBulkAll ds ≤ 1048576 := of_decide_eq_true hk
  have h2 := part_le_bulk hd
  omega
end
end Go.Proofs.YtlhdjgibkiffaaaGreatDoor
