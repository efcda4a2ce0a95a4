/-
  PROVED HERE: laws on a map whose keys are texts and whose elements are bools, as a set of texts: look-up and store; and slices of pairs. Conditions: those that each theorem names; no program's text is used.
-/
import Derived.Test.YtlhdjgibkiffaaaGreatDoorBase
import Derived.Test.YtlhdjgibkiffaaaGreatDoorKeyP
import Derived.Maps.OwnSet
import Derived.WideKeyArgs2
namespace Go.Proofs.YtlhdjgibkiffaaaGreatDoor
open Go.RowKit Go.MapKept
open Go.ChangeMaps (setBlock heap_setBlock_same heap_setBlock_other)
open Go.WideElems (Fit rd rg pl rd_key rd_val rg_of)
open Go.Maps (Keyed)

/-- A text as a string. -/
abbrev txt (l : Txt) : ByteArray := ⟨l.toArray⟩
theorem txt_list (s : ByteArray) : txt s.data.toList = s := rfl
theorem txt_inj {a b : Txt} (h : txt a = txt b) : a = b := by
  have := congrArg (fun s => s.data.toList) h
  simpa using this
theorem txt_size (l : Txt) : (txt l).size = l.length := rfl
theorem txt_data (l : Txt) : (txt l).data.toList = l := rfl

/-- A bool's value reads as itself. -/
def heldB (v : Value) : Option (DataW Value × List MemPlace) := some (.held v, [])
theorem heldB_inv {v : Value} {y : DataW Value × List MemPlace} (h : heldB v = some y) : y = (.held v, []) := by
  unfold heldB at h; exact (Option.some.inj h).symm
/-- Block b is a map of at most n entries that holds 'true' at just the texts of S. -/
def SSet (P : Program) (k : TypeId) (w : World) (b n : Nat) (S : List Txt) : Prop :=
  ∃ D, w.ownsMap P k heldB b n D ∧ ∀ (x : Txt) (z : DataW Value), x.length ≤ maxLen → D.atKey (.string x) z = if x ∈ S then .held (.bool true) else z

section
variable {P : Program} {k e t : TypeId} {w : World} {b n : Nat} {S : List Txt}
theorem SSet.upd {T : List Nat} {w' : World} (h : SSet P k w b n S) (u : Upd T w w') (hs : b ∉ T) : SSet P k w' b n S := by
  obtain ⟨D, ⟨es, clock, hb, r⟩, h2⟩ := h
  exact ⟨D, ⟨es, clock, u.get hb hs, r⟩, h2⟩
theorem SSet.lt (h : SSet P k w b n S) : b < w.heap.size := by
  obtain ⟨D, h1, _⟩ := h
  exact h1.lt
theorem SSet.made (w : World) (P : Program) (k : TypeId) : SSet P k (w.alloc (.map #[] 0)) w.heap.size 0 [] :=
  ⟨.map [], World.ownsMap_made w P k heldB, fun x z _ => by simp [DataW.atKey]⟩
/-- The look-up. -/
theorem SSet.look (h : SSet P k w b n S) (hk : P.underlying k = some .string) (ht : P.underlying t = some (.map k e)) (hz : (zeroValue e).run P w = .ok (.bool false) w) {x : Txt} (hw : x.length ≤ maxLen) :
    (Instr.lookup t (.map (some b)) (.string (txt x)) false).run P w = .ok (.bool (S.contains x)) w := by
  obtain ⟨D, h1, h2⟩ := h
  obtain ⟨es, clock, hb, F, _, rfl⟩ := h1
  rcases Maps.fit_look false (Maps.string_keyed hk) ht hz hb F (WideMaps.keyOf_string_mk (s := txt x) hk hw) with ⟨hrun, _, hat⟩ | ⟨e0, y, _, _, hrun, hR, hat, _⟩
  · have hn : x ∉ S := fun hm => by
      have h3 := h2 x .nil hw
      rw [if_pos hm] at h3
      have h4 := hat .nil
      rw [show (txt x).data.toList = x from rfl, h3] at h4
      cases h4
    rw [hrun]
    simp [hn]
  · have := heldB_inv hR
    subst this
    have h3 := h2 x .nil hw
    have h4 := hat .nil
    rw [show (txt x).data.toList = x from rfl, h3] at h4
    by_cases hm : x ∈ S
    · rw [if_pos hm] at h4
      have h5 : e0.val = .bool true := by simpa using h4.symm
      rw [hrun, h5]
      simp [hm]
    · rw [if_neg hm] at h4; cases h4
theorem upd_turnedS {w' : World} (h : w.mapTurned w' b) : Upd [b] w w' ∧ w'.heap.size = w.heap.size := by
  obtain ⟨es, clock, es', clock', hb, rfl⟩ := h
  exact ⟨⟨rfl, rfl, rfl, by simp [setBlock], fun i _ hi => heap_setBlock_other hb _ (by simpa using hi)⟩, by simp [setBlock]⟩
/-- The store. -/
theorem SSet.put (h : SSet P k w b n S) (hk : P.underlying k = some .string) (ht : P.underlying t = some (.map k e)) (hn : n < maxLen) {x : Txt} (hw : x.length ≤ maxLen) :
    ∃ w', (Instr.mapUpdate t (.map (some b)) (.string (txt x)) (.bool true)).run P w = .ok () w' ∧ SSet P k w' b (n + 1) (x :: S) ∧ Upd [b] w w' ∧ w'.heap.size = w.heap.size := by
  obtain ⟨D, h1, h2⟩ := h
  have hd := h1.isMap
  obtain ⟨w', hrun, hown, ht'⟩ := h1.store (Maps.string_keyed hk) ht hn (WideMaps.keyOf_string_mk (s := txt x) hk hw) (show heldB (.bool true) = some (.held (.bool true), []) from rfl)
  refine ⟨w', hrun, ⟨_, hown, fun y z hy => ?_⟩, upd_turnedS ht'⟩
  by_cases hxy : y = x
  · subst hxy
    rw [if_pos (by simp)]
    exact Maps.atKey_put_same hd (show WideAt.IsKeyLit (.string y) from trivial) _ _
  · rw [Maps.atKey_put_other (fun e => hxy (by simpa using e)), h2 y z hy]
    simp [hxy]
end
section
variable {P : Program} {k e t : TypeId} {b n : Nat} {S : List Txt}
theorem wpList_slook {ops : Array Oper} {rest : List Oper} {o : Oper} {a : Act} {w : World} {Q : Exit → Act → World → Prop} (hgd : o.guard = none) (m x : Operand) (ho : o.op = Op.lookup t m x false) (hm : a.eval m = .map (some b)) (y : Txt) (hx : a.eval x = .string (txt y))
    (hk : P.underlying k = some .string) (ht : P.underlying t = some (.map k e)) (hz : (zeroValue e).run P w = .ok (.bool false) w) (hw : y.length ≤ maxLen) (h : SSet P k w b n S) (v : Bool) (hv : S.contains y = v)
    (hK : wpList P ops Q rest (a.put o.dst (.bool v)) w) : wpList P ops Q (o :: rest) a w := by
  subst hv
  exact wpList_val hgd _ (by unfold execOp; simp [ho, hm, hx, h.look hk ht hz hw, Result.andThen]) hK
theorem wpList_sput {ops : Array Oper} {rest : List Oper} {o : Oper} {a : Act} {w : World} {Q : Exit → Act → World → Prop} (hgd : o.guard = none) (m x y : Operand) (ho : o.op = Op.mapUpdate t m x y) (hm : a.eval m = .map (some b)) (z : Txt) (hx : a.eval x = .string (txt z)) (hv : a.eval y = .bool true)
    (hk : P.underlying k = some .string) (ht : P.underlying t = some (.map k e)) (hw : z.length ≤ maxLen) (h : SSet P k w b n S) (hn : n < maxLen)
    (hK : ∀ w', SSet P k w' b (n + 1) (z :: S) → Upd [b] w w' → w'.heap.size = w.heap.size → wpList P ops Q rest (a.put o.dst undef) w') : wpList P ops Q (o :: rest) a w := by
  obtain ⟨w', hrun, h1, h2, h3⟩ := h.put hk ht hn hw
  refine wpList_plain hgd fun K hK' => ?_
  unfold Oper.wp
  simp [execOp, ho, hm, hx, hv, hrun, Result.andThen]
  exact hK' _ _ (hK w' h1 h2 h3)
end

theorem run_loadVar_cells {P : Program} (w : World) (g off n : Nat) (ty : TypeId) (vs : List Value) (d : TypeDesc) (hc : ∀ j u, vs[j]? = some u → w.cell? ⟨g, off + j, none⟩ = some u)
    (hu : P.underlying ty = some d) (hd : (match d with | .struct _ | .array _ _ => true | _ => false) = true) (hi : (P.info? ty).map (·.size) = some n) (hn : vs.length = n) :
    (loadVar ty ⟨g, off, none⟩).run P w = .ok (.agg vs.toArray) w := by
  have hl := run_loadCells_list (P := P) w ⟨g, off, none⟩ vs (fun j v hv => by rw [add_off]; exact hc j v hv)
  rw [hn] at hl
  cases hq : P.info? ty with
  | none => simp [hq] at hi
  | some i =>
    have hs : i.size = n := by simpa [hq] using hi
    have hagg : (isAgg ty).run P w = .ok true w := by
      unfold isAgg
      rw [Sem.run_bind, run_underlying hu w]
      cases d <;> simp_all
    simp [loadVar, Sem.run_bind, hagg, sizeOf, typeInfo, hq, hs, hl]
theorem wpList_load_cells {P : Program} {ops : Array Oper} {rest : List Oper} {o : Oper} {a : Act} {w : World} {Q : Exit → Act → World → Prop} (hgd : o.guard = none) (ty : TypeId) (x : Operand) (ho : o.op = .load ty x)
    (g off n : Nat) (hx : a.eval x = .pointer (some ⟨g, off, none⟩)) (vs : List Value) (d : TypeDesc) (hc : ∀ j u, vs[j]? = some u → w.cell? ⟨g, off + j, none⟩ = some u)
    (hu : P.underlying ty = some d) (hd : (match d with | .struct _ | .array _ _ => true | _ => false) = true) (hi : (P.info? ty).map (·.size) = some n) (hn : vs.length = n)
    (h : wpList P ops Q rest (a.put o.dst (.agg vs.toArray)) w) : wpList P ops Q (o :: rest) a w :=
  wpList_plain hgd fun K hK => by
    unfold Oper.wp execOp
    simp only [ho, hx, Instr.loadAt, Instr.sureAddr, Sem.run_bind, Sem.run_pure, Result.andThen_ok, run_loadVar_cells w g off n ty vs d hc hu hd hi hn]
    exact hK _ _ h

/-- The cells of pairs. -/
def prCells (l : List Pr) : List Value := (l.map fun p => [Value.string (txt p.1), Value.string (txt p.2)]).flatten
theorem prCells_length (l : List Pr) : (prCells l).length = l.length * 2 := by
  induction l with
  | nil => rfl
  | cons p l ih => simp [prCells] at ih ⊢; omega
theorem prCells_append (l m : List Pr) : prCells (l ++ m) = prCells l ++ prCells m := by simp [prCells]
theorem prCells_cons (p : Pr) (l : List Pr) : prCells (p :: l) = Value.string (txt p.1) :: Value.string (txt p.2) :: prCells l := by simp [prCells]
theorem prCells_get (l : List Pr) (i : Nat) (h : i < l.length) : (prCells l)[i * 2]? = some (.string (txt (l[i]).1)) ∧ (prCells l)[i * 2 + 1]? = some (.string (txt (l[i]).2)) := by
  induction l generalizing i with
  | nil => simp at h
  | cons p l ih =>
    rw [prCells_cons]
    cases i with
    | zero => simp
    | succ i =>
      have := ih i (by simpa using h)
      rw [show (i + 1) * 2 + 1 = i * 2 + 1 + 1 + 1 by omega, show (i + 1) * 2 = i * 2 + 1 + 1 by omega]
      simpa using this
/-- A slice of pairs: where its cells lie. -/
def IsPrs (w : World) (v : Value) (l : List Pr) : Prop :=
  (v = .slice none 0 0 ∧ l = []) ∨ ∃ g o cap, v = .slice (some ⟨g, o, none⟩) l.length cap ∧ l.length ≤ cap ∧ cap ≤ maxLen ∧ g < w.heap.size ∧ ∀ (i : Nat) (h : i < l.length), w.cell? ⟨g, o + i * 2, none⟩ = some (.string (txt (l[i]).1)) ∧ w.cell? ⟨g, o + i * 2 + 1, none⟩ = some (.string (txt (l[i]).2))
theorem IsPrs.below {w w' : World} {v : Value} {l : List Pr} (h : IsPrs w v l) (hb : Below w.heap.size w w') : IsPrs w' v l := by
  rcases h with h | ⟨g, o, cap, h1, h2, h2', h3, h4⟩
  · exact .inl h
  · exact .inr ⟨g, o, cap, h1, h2, h2', Nat.lt_of_lt_of_le h3 hb.size, fun i hi => ⟨(hb.cell (p := ⟨g, _, none⟩) h3).trans (h4 i hi).1, (hb.cell (p := ⟨g, _, none⟩) h3).trans (h4 i hi).2⟩⟩
/-- A pair of it: where it lies, and its two cells. -/
theorem IsPrs.at {w : World} {p : Option Addr} {n cap : Nat} {l : List Pr} (h : IsPrs w (.slice p n cap) l) {k : Nat} (hk : k < l.length) : n = l.length ∧ ∃ g o, p = some ⟨g, o, none⟩ ∧ g < w.heap.size ∧ l.length ≤ cap ∧ cap ≤ maxLen ∧
    ∀ W, Below w.heap.size w W → ∀ j u, [Value.string (txt (l[k]).1), Value.string (txt (l[k]).2)][j]? = some u → W.cell? ⟨g, o + k * 2 + j, none⟩ = some u := by
  rcases h with ⟨_, rfl⟩ | ⟨g, o, c, e, h1, h2, h3, h4⟩
  · simp at hk
  · cases e
    refine ⟨rfl, g, o, rfl, h3, h1, h2, fun W hb j u hu => ?_⟩
    obtain ⟨q1, q2⟩ := h4 k hk
    match j, hu with
    | 0, hu => rw [hb.cell (p := ⟨g, _, none⟩) h3]; rw [Nat.add_zero, q1]; exact hu
    | 1, hu => rw [hb.cell (p := ⟨g, _, none⟩) h3]; rw [q2]; exact hu
theorem IsPrs.len {w : World} {p : Option Addr} {n cap : Nat} {l : List Pr} (h : IsPrs w (.slice p n cap) l) : n = l.length := by
  rcases h with ⟨e, rfl⟩ | ⟨g, o, c, e, _⟩
  · cases e; rfl
  · cases e; rfl
/-- A slice of pairs that came in: of an empty one nothing is known but its length. -/
def IsPrsA (w : World) (v : Value) (l : List Pr) : Prop := ∃ p cap, v = .slice p l.length cap ∧ l.length ≤ cap ∧ cap ≤ maxLen ∧ ∀ (i : Nat) (h : i < l.length), ∃ g o, p = some ⟨g, o, none⟩ ∧ g < w.heap.size ∧ w.cell? ⟨g, o + i * 2, none⟩ = some (.string (txt (l[i]).1)) ∧ w.cell? ⟨g, o + i * 2 + 1, none⟩ = some (.string (txt (l[i]).2))
theorem IsPrs.arg {w : World} {v : Value} {l : List Pr} (h : IsPrs w v l) : IsPrsA w v l := by
  rcases h with ⟨rfl, rfl⟩ | ⟨g, o, cap, rfl, h1, h2, h3, h4⟩
  · exact ⟨none, 0, rfl, Nat.le_refl _, by unfold maxLen; omega, fun i hi => by simp at hi⟩
  · exact ⟨_, cap, rfl, h1, h2, fun i hi => ⟨g, o, rfl, h3, (h4 i hi).1, (h4 i hi).2⟩⟩
theorem IsPrsA.below {w w' : World} {v : Value} {l : List Pr} (h : IsPrsA w v l) (hb : Below w.heap.size w w') : IsPrsA w' v l := by
  obtain ⟨p, cap, h1, h2, h3, h4⟩ := h
  refine ⟨p, cap, h1, h2, h3, fun i hi => ?_⟩
  obtain ⟨g, o, e, hg, q1, q2⟩ := h4 i hi
  exact ⟨g, o, e, Nat.lt_of_lt_of_le hg hb.size, (hb.cell (p := ⟨g, _, none⟩) hg).trans q1, (hb.cell (p := ⟨g, _, none⟩) hg).trans q2⟩
theorem IsPrsA.at {w : World} {p : Option Addr} {n cap : Nat} {l : List Pr} (h : IsPrsA w (.slice p n cap) l) {k : Nat} (hk : k < l.length) : n = l.length ∧ ∃ g o, p = some ⟨g, o, none⟩ ∧ g < w.heap.size ∧ l.length ≤ cap ∧ cap ≤ maxLen ∧
    ∀ W, Below w.heap.size w W → ∀ j u, [Value.string (txt (l[k]).1), Value.string (txt (l[k]).2)][j]? = some u → W.cell? ⟨g, o + k * 2 + j, none⟩ = some u := by
  obtain ⟨p', c, e, h1, h2, h4⟩ := h
  cases e
  obtain ⟨g, o, rfl, h3, q1, q2⟩ := h4 k hk
  refine ⟨rfl, g, o, rfl, h3, h1, h2, fun W hb j u hu => ?_⟩
  match j, hu with
  | 0, hu => rw [hb.cell (p := ⟨g, _, none⟩) h3]; rw [Nat.add_zero, q1]; exact hu
  | 1, hu => rw [hb.cell (p := ⟨g, _, none⟩) h3]; rw [q2]; exact hu
theorem IsPrsA.slice {w : World} {v : Value} {l : List Pr} (h : IsPrsA w v l) : ∃ p cap, v = .slice p l.length cap := by
  obtain ⟨p, c, e, _⟩ := h
  exact ⟨p, c, e⟩
end Go.Proofs.YtlhdjgibkiffaaaGreatDoor
