/-
  PROVED HERE: laws on a map whose keys are ints, as a function from ints to the very values that it holds: look-up, store, delete, clear, range, and the list of its keys. Conditions: those that each theorem names; no program's text is used.
-/
import Derived.Test.YtpnpjffhkaejgaaGreatDoorBase
import Derived.Maps.OwnSet
import Derived.Maps.RangeWalk
import Derived.Lib.SlKeysI
namespace Go.Proofs.YtpnpjffhkaejgaaGreatDoor
open Go.RowKit Go.MapKept
open Go.ChangeMaps (setBlock heap_setBlock_same heap_setBlock_other)
open Go.WideElems (Fit rd rg pl rd_key rd_val rg_of)
open Go.Maps (Keyed)

/-- A map's value reads as itself. -/
def heldR (v : Value) : Option (DataW Value × List MemPlace) := some (.held v, [])
theorem heldR_inv {v : Value} {y : DataW Value × List MemPlace} (h : heldR v = some y) : y = (.held v, []) := by
  unfold heldR at h; exact (Option.some.inj h).symm
/-- What a reading holds at a key. -/
def viewAt (D : DataW Value) (x : Int) : Option Value := match D.atKey (.int .i64 x) .nil with | .held v => some v | _ => none
/-- Block b is a map that holds just M. -/
def IMap (P : Program) (k : TypeId) (w : World) (b : Nat) (M : Int → Option Value) : Prop :=
  ∃ D, w.ownsMap P k heldR b (Maps.size D) D ∧ ∀ x, viewAt D x = M x

section
variable {P : Program} {k e t : TypeId} {w : World} {b : Nat} {M : Int → Option Value}

theorem owns_tight {n : Nat} {D : DataW Value} (h : w.ownsMap P k heldR b n D) : w.ownsMap P k heldR b (Maps.size D) D := by
  obtain ⟨es, clock, hb, F, hs, rfl⟩ := h
  exact ⟨es, clock, hb, F, by simp [Maps.size, length_sorted], rfl⟩
theorem owns_upd {S : List Nat} {w' : World} {n : Nat} {D : DataW Value} (h : w.ownsMap P k heldR b n D) (u : Upd S w w') (hs : b ∉ S) : w'.ownsMap P k heldR b n D := by
  obtain ⟨es, clock, hb, r⟩ := h
  exact ⟨es, clock, u.get hb hs, r⟩
theorem IMap.upd {S : List Nat} {w' : World} (h : IMap P k w b M) (u : Upd S w w') (hs : b ∉ S) : IMap P k w' b M := by
  obtain ⟨D, h1, h2⟩ := h
  exact ⟨D, owns_upd h1 u hs, h2⟩
theorem IMap.lt (h : IMap P k w b M) : b < w.heap.size := by
  obtain ⟨D, h1, _⟩ := h
  exact h1.lt
theorem IMap.block (h : IMap P k w b M) : ∃ es clock, w.heap[b]? = some (.map es clock) := by
  obtain ⟨D, ⟨es, clock, hb, _⟩, _⟩ := h
  exact ⟨es, clock, hb⟩
theorem IMap.congr {M' : Int → Option Value} (h : IMap P k w b M) (he : ∀ x, M x = M' x) : IMap P k w b M' := by
  obtain ⟨D, h1, h2⟩ := h
  exact ⟨D, h1, fun x => (h2 x).trans (he x)⟩
theorem IMap.made (w : World) (P : Program) (k : TypeId) : IMap P k (w.alloc (.map #[] 0)) w.heap.size fun _ => none :=
  ⟨.map [], World.ownsMap_made w P k heldR, fun x => by simp [viewAt, DataW.atKey]⟩
/-- What the reader reads at a key is a value that the map holds, or nothing. -/
theorem view_cases {n : Nat} {D : DataW Value} (h : w.ownsMap P k heldR b n D) (hk : P.underlying k = some (.int .i64)) (x : Int) :
    (viewAt D x = none ∧ Maps.has D (.int .i64 x) = false) ∨ ∃ v, viewAt D x = some v ∧ (∀ z, D.atKey (.int .i64 x) z = .held v) ∧ (Lit.int .i64 x).wf = true := by
  obtain ⟨es, clock, hb, F, _, rfl⟩ := h
  have hall : ∀ p ∈ ((es.toList.map (rg P k heldR)).foldr DataW.insert []), ∃ v y, p = (.int .i64 y, .held v) ∧ (Lit.int .i64 y).wf = true := fun p hp => by
    obtain ⟨e0, he0, rfl⟩ := List.mem_map.1 (mem_sorted.1 hp)
    obtain ⟨y, hy⟩ := F.reads e0 he0
    obtain ⟨z, hz, hd⟩ := rd_val hy
    obtain ⟨x', _, hx', hw⟩ := Maps.keyOf_i64 hk (rd_key hy)
    have := heldR_inv hz
    subst this
    rw [rg_of hy]
    exact ⟨e0.val, x', by cases y; simp_all, hw⟩
  cases hf : ((es.toList.map (rg P k heldR)).foldr DataW.insert []).find? (fun p => p.1.sameKey (.int .i64 x)) with
  | none =>
    refine .inl ⟨by simp [viewAt, DataW.atKey, hf], ?_⟩
    rw [Maps.has_eq]
    rw [List.find?_eq_none] at hf
    rw [Bool.eq_false_iff]
    intro hh
    obtain ⟨p, hp, hs⟩ := List.any_eq_true.1 hh
    exact hf p hp hs
  | some p =>
    obtain ⟨v, y, rfl, hw⟩ := hall p (List.mem_of_find?_eq_some hf)
    have hs := List.find?_some hf
    have hxy : y = x := by simpa [Lit.sameKey] using hs
    subst hxy
    exact .inr ⟨v, by simp [viewAt, DataW.atKey, hf], fun z => by simp [DataW.atKey, hf], hw⟩
theorem has_view {n : Nat} {D : DataW Value} (h : w.ownsMap P k heldR b n D) (hk : P.underlying k = some (.int .i64)) (x : Int) : Maps.has D (.int .i64 x) = (viewAt D x).isSome := by
  rcases view_cases h hk x with ⟨h1, h2⟩ | ⟨v, h1, h2, _⟩
  · rw [h1, h2]; rfl
  · rw [h1, Maps.has_true_of_atKey h2]; rfl
theorem IMap.wf (h : IMap P k w b M) (hk : P.underlying k = some (.int .i64)) {x : Int} {v : Value} (hx : M x = some v) : (Lit.int .i64 x).wf = true := by
  obtain ⟨D, h1, h2⟩ := h
  rcases view_cases h1 hk x with ⟨h3, _⟩ | ⟨_, _, _, h4⟩
  · rw [h2, hx] at h3; cases h3
  · exact h4
/-- The look-up. -/
theorem IMap.look (c : Bool) (h : IMap P k w b M) (hk : P.underlying k = some (.int .i64)) (ht : P.underlying t = some (.map k e)) {z : Value} (hz : (zeroValue e).run P w = .ok z w) {x : Int} (hw : (Lit.int .i64 x).wf = true) :
    (Instr.lookup t (.map (some b)) (.int .i64 x) c).run P w = .ok (if c then .tuple #[(M x).getD z, .bool (M x).isSome] else (M x).getD z) w := by
  obtain ⟨D, h1, h2⟩ := h
  have h1' := h1
  obtain ⟨es, clock, hb, F, _, rfl⟩ := h1
  rcases Maps.fit_look c (Maps.int_keyed hk) ht hz hb F (Maps.keyOf_int_mk hk hw) with ⟨hrun, _, hat⟩ | ⟨e0, y, _, _, hrun, hR, hat, _⟩
  · have hn : M x = none := by rw [← h2 x]; simp [viewAt, hat]
    rw [hrun, hn]; rfl
  · have := heldR_inv hR
    subst this
    have hn : M x = some e0.val := by rw [← h2 x]; simp [viewAt, hat]
    rw [hrun, hn]; rfl
/-- How many keys there are. -/
theorem nodup_bound : ∀ (N : Nat) (l : List Int), l.Nodup → (∀ x ∈ l, 0 ≤ x ∧ x < N) → l.length ≤ N
  | 0, l, _, h => by
    cases l with
    | nil => exact Nat.le_refl _
    | cons a r => have := h a (by simp); omega
  | N + 1, l, hn, h => by
    by_cases hm : (N : Int) ∈ l
    · have h1 : (l.erase (N : Int)).length = l.length - 1 := List.length_erase_of_mem hm
      have h2 := nodup_bound N (l.erase (N : Int)) (hn.erase _) (fun x hx => by
        have h3 := h x (List.mem_of_mem_erase hx)
        have h4 : x ≠ (N : Int) := fun e => by subst e; exact (hn.not_mem_erase) hx
        omega)
      omega
    · have := nodup_bound N l hn (fun x hx => by
        have h3 := h x hx
        have h4 : x ≠ (N : Int) := fun e => hm (e ▸ hx)
        omega)
      omega
theorem keys_view {n : Nat} {D : DataW Value} (h : w.ownsMap P k heldR b n D) (hk : P.underlying k = some (.int .i64)) : (Go.intKeys D).Nodup ∧ (∀ x, x ∈ Go.intKeys D ↔ (viewAt D x).isSome = true) ∧ (Go.intKeys D).length = Maps.size D := by
  obtain ⟨es, hD, hpw, _⟩ := h.entries (Maps.int_keyed hk)
  obtain ⟨es', hD', hko⟩ := h.keysOf
  obtain rfl : es = es' := by rw [hD] at hD'; simpa using hD'
  have hkk : ∀ p ∈ es, ∃ x, p.1 = .int .i64 x := fun p hp => by obtain ⟨v, hv⟩ := hko p hp; obtain ⟨x, _, hx, _⟩ := Maps.keyOf_i64 hk hv; exact ⟨x, hx⟩
  refine ⟨?_, fun x => ?_, by rw [hD]; simp [Go.intKeys, Maps.size]⟩
  · rw [hD]
    show (es.map fun p => Go.intOf p.1).Nodup
    refine List.pairwise_map.2 (hpw.imp_of_mem fun {p q} hp' hq' hne e => hne ?_)
    obtain ⟨a, ha⟩ := hkk p hp'
    obtain ⟨b', hb'⟩ := hkk q hq'
    rw [ha, hb'] at e ⊢
    exact congrArg _ e
  · rw [← has_view h hk x, hD, Maps.has_eq, List.any_eq_true]
    show x ∈ (es.map fun p => Go.intOf p.1) ↔ _
    rw [List.mem_map]
    constructor
    · rintro ⟨p, hp', rfl⟩
      obtain ⟨a, ha⟩ := hkk p hp'
      exact ⟨p, hp', by rw [ha]; simp [Lit.sameKey, Go.intOf]⟩
    · rintro ⟨p, hp', hs⟩
      obtain ⟨a, ha⟩ := hkk p hp'
      rw [ha] at hs
      exact ⟨p, hp', by rw [ha]; simpa [Lit.sameKey, Go.intOf] using hs⟩
theorem size_bound {n : Nat} {D : DataW Value} (h : w.ownsMap P k heldR b n D) (hk : P.underlying k = some (.int .i64)) {N : Nat} (hs : ∀ x, (viewAt D x).isSome = true → 0 ≤ x ∧ x < N) : Maps.size D ≤ N := by
  obtain ⟨h1, h2, h3⟩ := keys_view h hk
  rw [← h3]
  exact nodup_bound N _ h1 fun x hx => hs x ((h2 x).1 hx)
theorem upd_turned {w' : World} (h : w.mapTurned w' b) : Upd [b] w w' ∧ w'.heap.size = w.heap.size := by
  obtain ⟨es, clock, es', clock', hb, rfl⟩ := h
  exact ⟨⟨rfl, rfl, rfl, by simp [setBlock], fun i _ hi => heap_setBlock_other hb _ (by simpa using hi)⟩, by simp [setBlock]⟩
/-- The store. -/
theorem IMap.store (h : IMap P k w b M) (hk : P.underlying k = some (.int .i64)) (ht : P.underlying t = some (.map k e)) {N : Nat} (hN : N < maxLen) (hs : ∀ x v, M x = some v → 0 ≤ x ∧ x < N) {x : Int} (hw : (Lit.int .i64 x).wf = true) (v : Value) :
    ∃ w', (Instr.mapUpdate t (.map (some b)) (.int .i64 x) v).run P w = .ok () w' ∧ IMap P k w' b (fun y => if y = x then some v else M y) ∧ Upd [b] w w' ∧ w'.heap.size = w.heap.size := by
  obtain ⟨D, h1, h2⟩ := h
  have hsz : Maps.size D ≤ N := size_bound h1 hk fun x hx => by
    rw [h2] at hx
    obtain ⟨v, hv⟩ := Option.isSome_iff_exists.1 hx
    exact hs x v hv
  have hd := h1.isMap
  obtain ⟨w', hrun, hown, ht'⟩ := h1.store (Maps.int_keyed hk) ht (by omega) (Maps.keyOf_int_mk hk hw) (show heldR v = some (.held v, []) from rfl)
  refine ⟨w', hrun, ⟨_, owns_tight hown, fun y => ?_⟩, upd_turned ht'⟩
  dsimp only
  by_cases hy : y = x
  · subst hy
    rw [if_pos rfl]
    simp [viewAt, Maps.atKey_put_same hd (show WideAt.IsKeyLit (.int .i64 y) from trivial)]
  · rw [if_neg hy, ← h2 y]
    unfold viewAt
    rw [Maps.atKey_put_other (fun e => hy (by simpa using e))]
/-- The delete. -/
theorem IMap.drop (h : IMap P k w b M) (hk : P.underlying k = some (.int .i64)) (ht : P.underlying t = some (.map k e)) (ty : TypeId) {x : Int} (hw : (Lit.int .i64 x).wf = true) :
    ∃ w', (Builtin.delete_ #[t, k] ty #[.map (some b), .int .i64 x]).run P w = .ok (.tuple #[]) w' ∧ IMap P k w' b (fun y => if y = x then none else M y) ∧ Upd [b] w w' ∧ w'.heap.size = w.heap.size := by
  obtain ⟨D, h1, h2⟩ := h
  obtain ⟨w', hrun, hown, ht'⟩ := h1.drop (Maps.int_keyed hk) ht (Maps.keyOf_int_mk hk hw) ty
  refine ⟨w', hrun, ⟨_, owns_tight hown, fun y => ?_⟩, upd_turned ht'⟩
  dsimp only
  by_cases hy : y = x
  · subst hy
    rw [if_pos rfl]
    simp [viewAt, Maps.atKey_del_same]
  · rw [if_neg hy, ← h2 y]
    unfold viewAt
    rw [Maps.atKey_del_other (fun e => hy (by simpa using e))]
/-- clear. -/
theorem IMap.clear (h : IMap P k w b M) (ht : P.underlying t = some (.map k e)) (ty : TypeId) :
    ∃ w', (Builtin.clear_ #[t] ty #[.map (some b)]).run P w = .ok (.tuple #[]) w' ∧ IMap P k w' b (fun _ => none) ∧ Upd [b] w w' ∧ w'.heap.size = w.heap.size := by
  obtain ⟨D, ⟨es, clock, hb, F, hs, rfl⟩, h2⟩ := h
  refine ⟨setBlock w b (.map #[] clock), ?_, ⟨.map [], ⟨#[], clock, heap_setBlock_same hb _, ⟨by simp, stamped_empty clock, by simp⟩, Nat.le_refl _, rfl⟩, fun x => by simp [viewAt, DataW.atKey]⟩, upd_turned ⟨es, clock, #[], clock, hb, rfl⟩⟩
  simp [Builtin.clear_, run_underlying ht, MapKept.run_getObj_map hb, MapKept.run_setObj_map _ hb, Result.andThen, setBlock]
/-- A range over a map under way: r its iterator; which keys are still to come. -/
def IRange (P : Program) (k : TypeId) (w : World) (b r : Nat) (M : Int → Option Value) (left : Int → Bool) : Prop :=
  ∃ D lf cnt, w.ranges P k heldR b r (Maps.size D) D lf cnt ∧ (∀ x, viewAt D x = M x) ∧ ∀ x, lf (.int .i64 x) = left x
theorem ranges_upd {S : List Nat} {w' : World} {r n cnt : Nat} {D : DataW Value} {lf : Lit → Bool} (h : w.ranges P k heldR b r n D lf cnt) (u : Upd S w w') (hb : b ∉ S) (hr : r ∉ S) : w'.ranges P k heldR b r n D lf cnt := by
  obtain ⟨es, clock, since, seen, c0, h1, F, hs, hD, h2, rest⟩ := h
  exact ⟨es, clock, since, seen, c0, u.get h1 hb, F, hs, hD, u.get h2 hr, rest⟩
theorem IRange.upd {S : List Nat} {w' : World} {r : Nat} {left : Int → Bool} (h : IRange P k w b r M left) (u : Upd S w w') (hb : b ∉ S) (hr : r ∉ S) : IRange P k w' b r M left ∧ w'.rangeLeft b r = w.rangeLeft b r := by
  obtain ⟨D, lf, cnt, h1, h2, h3⟩ := h
  have h4 := ranges_upd h1 u hb hr
  exact ⟨⟨D, lf, cnt, h4, h2, h3⟩, by rw [h4.left_eq, h1.left_eq]⟩
theorem IRange.map {r : Nat} {left : Int → Bool} (h : IRange P k w b r M left) : IMap P k w b M := by
  obtain ⟨D, lf, cnt, h1, h2, h3⟩ := h
  exact ⟨D, h1.owns, h2⟩
theorem IRange.lt {r : Nat} {left : Int → Bool} (h : IRange P k w b r M left) : r < w.heap.size := by
  obtain ⟨D, lf, cnt, h1, h2, h3⟩ := h
  exact h1.lt
theorem IRange.ne {r : Nat} {left : Int → Bool} (h : IRange P k w b r M left) : r ≠ b := by
  obtain ⟨D, lf, cnt, h1, h2, h3⟩ := h
  exact h1.ne
theorem IMap.range (h : IMap P k w b M) (hk : P.underlying k = some (.int .i64)) (ht : P.underlying t = some (.map k e)) :
    ∃ w', (Instr.range t (.map (some b))).run P w = .ok (.pointer (some ⟨w.heap.size, 0, none⟩)) w' ∧ IRange P k w' b w.heap.size M (fun x => (M x).isSome) ∧ Upd [] w w' ∧ w'.heap.size = w.heap.size + 1 := by
  obtain ⟨D, h1, h2⟩ := h
  obtain ⟨w', hrun, hr, hg, hs⟩ := h1.range (Maps.int_keyed hk) ht
  exact ⟨w', hrun, ⟨D, _, _, hr, h2, fun x => by rw [has_view h1 hk x, h2]⟩, ⟨hg.os, hg.tape, hg.output, hg.size, fun i hi _ => hg.block i hi (by simp)⟩, hs⟩
theorem IRange.next {r : Nat} {left : Int → Bool} (h : IRange P k w b r M left) (hk : P.underlying k = some (.int .i64)) (ty : TypeId) :
    ((∀ x, left x = false) ∧ (Instr.next (.pointer (some ⟨r, 0, none⟩)) false ty).run P w = .ok (.tuple #[.bool false]) w) ∨
    ∃ x v w', left x = true ∧ M x = some v ∧ (Lit.int .i64 x).wf = true ∧ (Instr.next (.pointer (some ⟨r, 0, none⟩)) false ty).run P w = .ok (.tuple #[.bool true, .int .i64 x, v]) w' ∧
      IRange P k w' b r M (fun y => left y && !decide (y = x)) ∧ w'.rangeLeft b r < w.rangeLeft b r ∧ Upd [r] w w' ∧ w'.heap.size = w.heap.size ∧ (Instr.entry (.pointer (some ⟨r, 0, none⟩))).run P w' = .ok (.tuple #[.int .i64 x, v]) w' := by
  obtain ⟨D, lf, cnt, h1, h2, h3⟩ := h
  rcases h1.next (Maps.int_keyed hk) ty with ⟨_, hl, hrun⟩ | ⟨key, v, kl, y, w', cnt', hkey, hlk, hv, hat, hrun, hrg, hlt, hgr, hsz, hen⟩
  · exact .inl ⟨fun x => by rw [← h3 x]; exact hl _, hrun⟩
  · obtain ⟨x, rfl, rfl, hw⟩ := Maps.keyOf_i64 hk hkey
    have := heldR_inv hv
    subst this
    refine .inr ⟨x, v, w', by rw [← h3 x]; exact hlk, by rw [← h2 x]; simp [viewAt, hat], hw, hrun, ⟨D, _, _, hrg, h2, fun z => ?_⟩, by rw [hrg.left_eq, h1.left_eq]; exact hlt,
      ⟨hgr.os, hgr.tape, hgr.output, hgr.size, fun i hi hs => hgr.block i hi (fun e => hs (by simp at e; simp [e]))⟩, hsz, hen⟩
    show (lf (.int .i64 z) && !(Lit.int .i64 z).sameKey (.int .i64 x)) = _
    rw [h3 z]
    congr 1
    simp [Lit.sameKey]
end
section
variable {P : Program} {k e t : TypeId} {b : Nat} {M : Int → Option Value}
/-- The same at an operation, for the walk. -/
theorem wpList_irange {ops : Array Oper} {rest : List Oper} {o : Oper} {a : Act} {w : World} {Q : Exit → Act → World → Prop} (hgd : o.guard = none) (m : Operand) (ho : o.op = Op.range t m) (hm : a.eval m = .map (some b))
    (hk : P.underlying k = some (.int .i64)) (ht : P.underlying t = some (.map k e)) (h : IMap P k w b M)
    (hK : ∀ w', IRange P k w' b w.heap.size M (fun x => (M x).isSome) → Upd [] w w' → w'.heap.size = w.heap.size + 1 → wpList P ops Q rest (a.put o.dst (.pointer (some ⟨w.heap.size, 0, none⟩))) w') : wpList P ops Q (o :: rest) a w := by
  obtain ⟨w', hrun, h1, h2, h3⟩ := h.range hk ht
  exact wpList_val hgd _ (by unfold execOp; simp [ho, hm, hrun, Result.andThen]) (hK w' h1 h2 h3)
theorem wpList_inext {ops : Array Oper} {rest : List Oper} {o : Oper} {a : Act} {w : World} {Q : Exit → Act → World → Prop} (hgd : o.guard = none) (it : Operand) (ho : o.op = Op.next it false) {r : Nat} {left : Int → Bool} (hit : a.eval it = .pointer (some ⟨r, 0, none⟩))
    (hk : P.underlying k = some (.int .i64)) (h : IRange P k w b r M left)
    (hDone : (∀ x, left x = false) → wpList P ops Q rest (a.put o.dst (.tuple #[.bool false])) w)
    (hMore : ∀ x v w', left x = true → M x = some v → (Lit.int .i64 x).wf = true → IRange P k w' b r M (fun y => left y && !decide (y = x)) → w'.rangeLeft b r < w.rangeLeft b r → Upd [r] w w' → w'.heap.size = w.heap.size →
      (Instr.entry (.pointer (some ⟨r, 0, none⟩))).run P w' = .ok (.tuple #[.int .i64 x, v]) w' → wpList P ops Q rest (a.put o.dst (.tuple #[.bool true, .int .i64 x, v])) w') : wpList P ops Q (o :: rest) a w := by
  rcases h.next hk o.type with ⟨hl, hrun⟩ | ⟨x, v, w', h1, h2, hw, hrun, h3, h4, h5, h6, h7⟩
  · exact wpList_val hgd _ (by unfold execOp; simp [ho, hit, hrun, Result.andThen]) (hDone hl)
  · exact wpList_val hgd _ (by unfold execOp; simp [ho, hit, hrun, Result.andThen]) (hMore x v w' h1 h2 hw h3 h4 h5 h6 h7)
theorem wpList_ilook {ops : Array Oper} {rest : List Oper} {o : Oper} {a : Act} {w : World} {Q : Exit → Act → World → Prop} (hgd : o.guard = none) (m x : Operand) (c : Bool) (ho : o.op = Op.lookup t m x c) (hm : a.eval m = .map (some b)) (n : Int) (hx : a.eval x = .int .i64 n)
    (hk : P.underlying k = some (.int .i64)) (ht : P.underlying t = some (.map k e)) (z : Value) (hz : (zeroValue e).run P w = .ok z w) (hw : (Lit.int .i64 n).wf = true) (h : IMap P k w b M) (v : Value) (hv : (if c then .tuple #[(M n).getD z, .bool (M n).isSome] else (M n).getD z) = v)
    (hK : wpList P ops Q rest (a.put o.dst v) w) : wpList P ops Q (o :: rest) a w := by
  subst hv
  exact wpList_val hgd _ (by unfold execOp; simp [ho, hm, hx, h.look c hk ht hz hw, Result.andThen]) hK
theorem wpList_istore {ops : Array Oper} {rest : List Oper} {o : Oper} {a : Act} {w : World} {Q : Exit → Act → World → Prop} (hgd : o.guard = none) (m x y : Operand) (ho : o.op = Op.mapUpdate t m x y) (hm : a.eval m = .map (some b)) (n : Int) (hx : a.eval x = .int .i64 n) (v : Value) (hv : a.eval y = v)
    (hk : P.underlying k = some (.int .i64)) (ht : P.underlying t = some (.map k e)) (hw : (Lit.int .i64 n).wf = true) (h : IMap P k w b M) (N : Nat) (hN : N < maxLen) (hs : ∀ x v, M x = some v → 0 ≤ x ∧ x < N)
    (hK : ∀ w', IMap P k w' b (fun z => if z = n then some v else M z) → Upd [b] w w' → w'.heap.size = w.heap.size → wpList P ops Q rest (a.put o.dst undef) w') : wpList P ops Q (o :: rest) a w := by
  obtain ⟨w', hrun, h1, h2, h3⟩ := h.store hk ht hN hs hw v
  refine wpList_plain hgd fun K hK' => ?_
  unfold Oper.wp
  simp [execOp, ho, hm, hx, hv, hrun, Result.andThen]
  exact hK' _ _ (hK w' h1 h2 h3)
theorem wpList_idrop {ops : Array Oper} {rest : List Oper} {o : Oper} {a : Act} {w : World} {Q : Exit → Act → World → Prop} (hgd : o.guard = none) (m x : Operand) (ho : o.op = Op.call { callee := Callee.builtin Builtin.delete, args := #[m, x], argTypes := #[t, k] }) (hm : a.eval m = .map (some b)) (n : Int) (hx : a.eval x = .int .i64 n)
    (hk : P.underlying k = some (.int .i64)) (ht : P.underlying t = some (.map k e)) (hw : (Lit.int .i64 n).wf = true) (h : IMap P k w b M)
    (hK : ∀ w', IMap P k w' b (fun z => if z = n then none else M z) → Upd [b] w w' → w'.heap.size = w.heap.size → wpList P ops Q rest (a.put o.dst (.tuple #[])) w') : wpList P ops Q (o :: rest) a w := by
  obtain ⟨w', hrun, h1, h2, h3⟩ := h.drop hk ht o.type hw
  refine wpList_plain hgd fun K hK' => ?_
  unfold Oper.wp
  simp [execOp, ho, resolve, invoke, builtin, hm, hx, hrun, Result.andThen]
  exact hK' _ _ (hK w' h1 h2 h3)
theorem wpList_iclear {ops : Array Oper} {rest : List Oper} {o : Oper} {a : Act} {w : World} {Q : Exit → Act → World → Prop} (hgd : o.guard = none) (m : Operand) (ho : o.op = Op.call { callee := Callee.builtin Builtin.clear, args := #[m], argTypes := #[t] }) (hm : a.eval m = .map (some b))
    (ht : P.underlying t = some (.map k e)) (h : IMap P k w b M)
    (hK : ∀ w', IMap P k w' b (fun _ => none) → Upd [b] w w' → w'.heap.size = w.heap.size → wpList P ops Q rest (a.put o.dst (.tuple #[])) w') : wpList P ops Q (o :: rest) a w := by
  obtain ⟨w', hrun, h1, h2, h3⟩ := h.clear ht o.type
  refine wpList_plain hgd fun K hK' => ?_
  unfold Oper.wp
  simp [execOp, ho, resolve, invoke, builtin, hm, hrun, Result.andThen]
  exact hK' _ _ (hK w' h1 h2 h3)
end
end Go.Proofs.YtpnpjffhkaejgaaGreatDoor
