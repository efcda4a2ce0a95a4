/-
  PROVED HERE: texts that grow in a row of bytes of one's own. Conditions: those that each theorem names.
-/
import Derived.Test.YtlhdjgibkiffaaaGreatDoorKeyB
import Derived.Lib.AppendStr
namespace Go.Proofs.YtlhdjgibkiffaaaGreatDoor
open Go.RowKit Go.Shelf
/-- A text in a row of one's own. -/
def OwnT (w : World) (base : Nat) (v : Value) (t : Txt) : Prop := w.ownsRow base 5 1 v t.length (Lib.byteCells t)
theorem OwnT.txtV {w : World} {base : Nat} {v : Value} {t : Txt} (h : OwnT w base v t) : IsTxtV w v t := txtV_of_row h
theorem OwnT.nil (w : World) (base : Nat) : OwnT w base (.slice none 0 0) [] := World.ownsRow_nil _ _ _ _
theorem OwnT.upd {w w' : World} {base : Nat} {v : Value} {t : Txt} {T : List Nat} (h : OwnT w base v t) (u : Upd T w w') (hT : ∀ x ∈ T, x < base) : OwnT w' base v t := ownsRow_upd h u hT
theorem OwnT.below {w w' : World} {base : Nat} {v : Value} {t : Txt} (h : OwnT w base v t) (u : Below w.heap.size w w') : OwnT w' base v t := ownsRow_upd h (Upd.of_below u) (by simp)
theorem OwnT.slice {w : World} {base : Nat} {v : Value} {t : Txt} (h : OwnT w base v t) : ∃ p c, v = .slice p t.length c := by
  obtain ⟨p, c, e, _⟩ := h.txtV
  exact ⟨p, c, e⟩
theorem infoU8 : (Tryz.prog.info? 5).map (fun i => (i.zero, i.size, i.bytes)) = some (some (.int .u8 0), 1, 1) := by kernel_rfl
theorem IsTxt.news {w : World} {g o : Nat} {l : Txt} (h : IsTxt w (some ⟨g, o, none⟩) l) : ∀ j u, (Lib.byteCells l)[j]? = some u → w.cell? ((⟨g, o, none⟩ : Addr).add j) = some u := by
  intro j u hj
  have hl : j < l.length := by
    have := (List.getElem?_eq_some_iff.1 hj).1
    rwa [Lib.byteCells_length] at this
  obtain ⟨g', o', e, _, h3⟩ := h j hl
  cases e
  rw [add_off, h3, ← hj]
  simp [Lib.byteCells, hl]
theorem byteCells_one' (l : Txt) : ∀ u ∈ Lib.byteCells l, u.oneCell' = true := Lib.byteCells_one l
/-- Bytes are appended. -/
theorem run_pusht {w : World} {base : Nat} {v x : Value} {t u : Txt} (hv : OwnT w base v t) (hx : IsTxtV w x u) (hl : t.length + u.length ≤ 140737488355328) (hb : base ≤ w.heap.size) (ty : TypeId) :
    ∃ v' w', (Builtin.append_ #[28, 28] ty #[v, x]).run Tryz.prog w = .ok v' w' ∧ OwnT w' base v' (t ++ u) ∧ Upd v.ownBlock.toList w w' := by
  obtain ⟨i0, hi, hz0, hz1, hz2⟩ := info_parts infoU8
  obtain ⟨p, c, rfl, h1, h2, h3, _⟩ := hx
  rcases hp : p with _ | a
  · subst hp
    have hu : u = [] := by
      have := h3 rfl
      cases u with
      | nil => rfl
      | cons b r => simp at h2; omega
    subst hu
    rw [h3 rfl]
    exact ⟨v, w, run_append_owned_none w base 28 ty 5 i0 1 Tryz.underlying28 hi v t.length (Lib.byteCells t) hv, by rw [List.append_nil]; exact hv, Upd.refl _ _⟩
  · subst hp
    have hn : ∀ j x, (Lib.byteCells u)[j]? = some x → w.cell? (a.add j) = some x := by
      intro j x hj
      have hl : j < u.length := by
        have := (List.getElem?_eq_some_iff.1 hj).1
        rwa [Lib.byteCells_length] at this
      obtain ⟨g, o, e, _⟩ := h1 j hl
      cases e
      exact h1.news j x hj
    obtain ⟨v', w', r1, r2, r3, _⟩ := run_append_own (P := Tryz.prog) w base 28 ty 5 i0 _ 1 1 Tryz.underlying28 hi hz0 hz1 hz2 rfl (by decide) v t.length (Lib.byteCells t) hv a u.length c (Lib.byteCells u) (by rw [Lib.byteCells_length]; omega) hn (byteCells_one' u) (by unfold maxLen; omega) (by omega) hb
    refine ⟨v', w', r1, ?_, Upd.of_grown r3⟩
    unfold OwnT
    rw [List.length_append, Lib.byteCells_append]
    exact r2
theorem strCells_txt (u : Txt) : Lib.strCells (txt u) = Lib.byteCells u := by
  unfold Lib.strCells Lib.byteCells
  rfl
/-- A string is appended. -/
theorem run_pushs {w : World} {base : Nat} {v : Value} {t : Txt} (u : Txt) (hv : OwnT w base v t) (hl : t.length + u.length ≤ 140737488355328) (hb : base ≤ w.heap.size) (ty : TypeId) :
    ∃ v' w', (Builtin.append_ #[28, 9] ty #[v, .string (txt u)]).run Tryz.prog w = .ok v' w' ∧ OwnT w' base v' (t ++ u) ∧ Upd v.ownBlock.toList w w' := by
  obtain ⟨i0, hi, hz0, hz1, hz2⟩ := info_parts infoU8
  obtain ⟨v', w', r1, r2, r3, _⟩ := Lib.run_append_own_string (P := Tryz.prog) (w := w) base 28 9 ty 5 i0 Tryz.underlying28 Tryz.underlying9 hi hz0 hz1 hz2 v t.length (Lib.byteCells t) hv (txt u) (by show t.length + u.length ≤ _; unfold maxLen; omega) hl hb
  refine ⟨v', w', r1, ?_, Upd.of_grown r3⟩
  unfold OwnT
  rw [List.length_append, Lib.byteCells_append, ← strCells_txt u]
  exact r2
end Go.Proofs.YtlhdjgibkiffaaaGreatDoor
