/-
  PROVED HERE: small laws on worlds (which blocks a call may have turned), and on reading and writing a struct or an array that lies in the middle of a block. Conditions: those that each theorem names; no program's text is used.
-/
import Derived.WalkKit
import Derived.WalkSpells
import Derived.WalkLawsBesides
import Derived.Laws.CopyRow
import Derived.Lib.Hide
namespace Go.Proofs.YtlhdjgibkiffaaaGreatDoor
open Go.RowKit

/-- w' is w but for the blocks of S and for new blocks. -/
structure Upd (S : List Nat) (w w' : World) : Prop where
  os : w'.os = w.os
  tape : w'.tape = w.tape
  output : w'.output = w.output
  size : w.heap.size ≤ w'.heap.size
  block : ∀ k, k < w.heap.size → k ∉ S → w'.heap[k]? = w.heap[k]?

theorem Upd.refl (S : List Nat) (w : World) : Upd S w w := ⟨rfl, rfl, rfl, Nat.le_refl _, fun _ _ _ => rfl⟩
/-- One step more, which turns blocks of S or blocks that the first step made. -/
theorem Upd.step {S T : List Nat} {a b c : World} (h : Upd S a b) (k : Upd T b c) (ht : ∀ x, x ∈ T → x ∈ S ∨ a.heap.size ≤ x) : Upd S a c :=
  ⟨k.os.trans h.os, k.tape.trans h.tape, k.output.trans h.output, Nat.le_trans h.size k.size, fun i hi hs => by
    rw [k.block i (Nat.lt_of_lt_of_le hi h.size) (fun hm => by rcases ht i hm with h1 | h1; exact hs h1; omega)]; exact h.block i hi hs⟩
theorem Upd.trans {S : List Nat} {a b c : World} (h : Upd S a b) (k : Upd S b c) : Upd S a c := h.step k fun _ hx => .inl hx
theorem Upd.mono {S T : List Nat} {a b : World} (h : Upd S a b) (ht : ∀ x, x ∈ S → x ∈ T) : Upd T a b :=
  ⟨h.os, h.tape, h.output, h.size, fun k hk hs => h.block k hk fun hm => hs (ht k hm)⟩
theorem Upd.drew {S : List Nat} {a w : World} (h : Upd S a w) : Upd S a w.drew := ⟨h.os, h.tape, h.output, h.size, h.block⟩
theorem Upd.alloc {S : List Nat} {a w : World} (h : Upd S a w) (o : Obj) : Upd S a (w.alloc o) :=
  h.step (T := []) ⟨rfl, rfl, rfl, by simp, fun k hk _ => Below.heap_alloc _ _ _ hk⟩ (fun _ hx => by cases hx)
theorem Upd.setCell {S : List Nat} {a w : World} (h : Upd S a w) {p : Addr} (hp : p.block ∈ S ∨ a.heap.size ≤ p.block) (u : Value) : Upd S a (w.setCell p u) :=
  h.step (T := [p.block]) ⟨rfl, rfl, rfl, by simp [World.setCell], fun k _ hs => Below.heap_setCell _ _ _ _ (by simpa using hs)⟩ (fun x hx => by
    obtain rfl : x = p.block := by simpa using hx
    exact hp)
theorem Upd.setRow {S : List Nat} {a w : World} (h : Upd S a w) {g : Nat} (hp : g ∈ S ∨ a.heap.size ≤ g) (cs : Array Value) : Upd S a (w.setRow g cs) :=
  h.step (T := [g]) ⟨rfl, rfl, rfl, by simp [World.setRow], fun k _ hs => setRow_other w g k cs (by simpa using hs)⟩ (fun x hx => by
    obtain rfl : x = g := by simpa using hx
    exact hp)
/-- What was there, and is not of S, is there. -/
theorem Upd.get {S : List Nat} {w w' : World} (h : Upd S w w') {k : Nat} {o : Obj} (hk : w.heap[k]? = some o) (hs : k ∉ S) : w'.heap[k]? = some o := by
  rw [h.block k ?_ hs]; exact hk
  rcases Nat.lt_or_ge k w.heap.size with h1 | h1
  · exact h1
  · rw [Array.getElem?_eq_none h1] at hk; cases hk
theorem Upd.below {S : List Nat} {w w' : World} (h : Upd S w w') {B : Nat} (hB : B ≤ w.heap.size) (hs : ∀ x, x ∈ S → B ≤ x) : Below B w w' :=
  ⟨h.os, h.tape, h.output, h.size, fun k hk => h.block k (by omega) fun hm => by have := hs k hm; omega⟩
theorem Upd.of_below {w w' : World} (h : Below w.heap.size w w') : Upd [] w w' := ⟨h.os, h.tape, h.output, h.size, fun k hk _ => h.block k hk⟩
theorem Upd.all {w w' : World} (h : Upd [] w w') : Below w.heap.size w w' := h.below (Nat.le_refl _) fun _ hx => by cases hx
theorem Upd.same {S : List Nat} {w w' : World} (h : w' = w) : Upd S w w' := by subst h; exact Upd.refl _ _

/-- Behind a law that ends in 'grownBy'. -/
theorem Upd.of_grown {w w' : World} {row : Option Nat} (h : w.grownBy w' row) : Upd row.toList w w' :=
  ⟨h.os, h.tape, h.output, h.size, fun k hk hs => h.block k hk fun e => hs (by simp [← e])⟩
theorem ownsRow_block {w : World} {base size n : Nat} {e : TypeId} {v : Value} {xs : List Value} (h : w.ownsRow base e size v n xs) : ∀ x, x ∈ v.ownBlock.toList → base ≤ x := by
  intro x hx
  rcases h.2 with ⟨rfl, _⟩ | ⟨g, cap, cur, rfl, hg, _⟩
  · simp [Value.ownBlock] at hx
  · simp [Value.ownBlock] at hx
    omega
theorem lt_of_block {w : World} {k : Nat} {o : Obj} (h : w.heap[k]? = some o) : k < w.heap.size := by
  rcases Nat.lt_or_ge k w.heap.size with h1 | h1
  · exact h1
  · rw [Array.getElem?_eq_none h1] at h; cases h
/-- Every cell of a block that is known whole, and that none is frozen. -/
theorem cells_of {w : World} {b : Nat} {cs : Array Value} {t : TypeId} (h : w.heap[b]? = some (.cells cs t (0, 0))) : (∀ j, w.cell? ⟨b, j, none⟩ = cs[j]?) ∧ (∀ j, w.frozen? ⟨b, j, none⟩ = false) :=
  ⟨fun j => cell_of_row w b j cs t _ h, fun j => frozen_of_row w b j cs t h⟩

section
variable {P : Program}
theorem add_off (g o i : Nat) : (⟨g, o, none⟩ : Addr).add i = ⟨g, o + i, none⟩ := by
  unfold Addr.add; split <;> simp_all
/-- A struct or an array that lies in a block from place 'off' on is read whole. -/
theorem run_loadVar_part (w : World) (g off n : Nat) (t ty : TypeId) (cs : Array Value) (fr : Nat × Nat) (d : TypeDesc) (hg : w.heap[g]? = some (.cells cs t fr))
    (hu : P.underlying ty = some d) (hd : (match d with | .struct _ | .array _ _ => true | _ => false) = true) (hi : (P.info? ty).map (·.size) = some n) (hn : off + n ≤ cs.size) :
    (loadVar ty ⟨g, off, none⟩).run P w = .ok (.agg (cs.extract off (off + n))) w := by
  have hlen : (cs.extract off (off + n)).toList.length = n := by simp; omega
  have hl := run_loadCells_list (P := P) w ⟨g, off, none⟩ (cs.extract off (off + n)).toList (fun j v hv => by
      rw [add_off, cell_of_row w g (off + j) cs t fr hg]
      simp only [Array.getElem?_toList, Array.getElem?_extract] at hv
      split at hv
      · exact hv
      · cases hv)
  rw [hlen] at hl
  cases hq : P.info? ty with
  | none => simp [hq] at hi
  | some i =>
    have hs : i.size = n := by simpa [hq] using hi
    have hagg : (isAgg ty).run P w = .ok true w := by
      unfold isAgg
      rw [Sem.run_bind, run_underlying hu w]
      cases d <;> simp_all
    simp only [Array.toArray_toList] at hl
    simp [loadVar, Sem.run_bind, hagg, sizeOf, typeInfo, hq, hs, hl]
theorem wpList_load_part {ops : Array Oper} {rest : List Oper} {o : Oper} {a : Act} {w : World} {Q : Exit → Act → World → Prop} (hgd : o.guard = none) (ty : TypeId) (x : Operand) (ho : o.op = .load ty x)
    (g off n : Nat) (hx : a.eval x = .pointer (some ⟨g, off, none⟩)) (t : TypeId) (cs : Array Value) (fr : Nat × Nat) (d : TypeDesc) (hg : w.heap[g]? = some (.cells cs t fr))
    (hu : P.underlying ty = some d) (hd : (match d with | .struct _ | .array _ _ => true | _ => false) = true) (hi : (P.info? ty).map (·.size) = some n) (hn : off + n ≤ cs.size)
    (h : wpList P ops Q rest (a.put o.dst (.agg (cs.extract off (off + n)))) w) : wpList P ops Q (o :: rest) a w :=
  wpList_plain hgd fun K hK => by
    unfold Oper.wp execOp
    simp only [ho, hx, Instr.loadAt, Instr.sureAddr, Sem.run_bind, Sem.run_pure, Result.andThen_ok, run_loadVar_part w g off n t ty cs fr d hg hu hd hi hn]
    exact hK _ _ h
/-- One cell of an array value. -/
theorem run_index_agg (w : World) {t e : TypeId} {len k : Nat} {d : TypeDesc} {cs : Array Value} {v : Value} (hu : P.underlying t = some (.array len e)) (he : P.underlying e = some d)
    (hd : (match d with | .struct _ | .array _ _ => true | _ => false) = false) (hi : (P.info? e).map (·.size) = some 1) (hk : k < len) (hv : cs[k]? = some v) (ik : IntKind) :
    (Instr.index t (.agg cs) (.int ik (k : Int))).run P w = .ok v w := by
  have hagg : (isAgg e).run P w = .ok false w := by
    unfold isAgg
    rw [Sem.run_bind, run_underlying he w]
    cases d <;> simp_all
  cases hq : P.info? e with
  | none => simp [hq] at hi
  | some i =>
    have hs : i.size = 1 := by simpa [hq] using hi
    simp [Instr.index, Sem.run_bind, asIntOf, run_underlying hu w, hk, sizeOf, typeInfo, hq, hs, part, hagg, hv]
/-- An operation whose run is known. -/
theorem wpList_val {ops : Array Oper} {rest : List Oper} {o : Oper} {a : Act} {w w' : World} {Q : Exit → Act → World → Prop} (hgd : o.guard = none) (v : Value)
    (hrun : (execOp a.eval o).run P w = .ok (.value v) w') (h : wpList P ops Q rest (a.put o.dst v) w') : wpList P ops Q (o :: rest) a w :=
  wpList_plain hgd fun K hK => by
    unfold Oper.wp
    rw [hrun]
    exact hK _ _ h
theorem wpList_build {ops : Array Oper} {rest : List Oper} {o : Oper} {a : Act} {w : World} {Q : Exit → Act → World → Prop} (hgd : o.guard = none) (t : TypeId) (parts : Array (Nat × Operand)) (ho : o.op = .build t parts)
    (ps : List (Nat × Value)) (hp : (parts.toList.map fun p => (p.1, a.eval p.2)) = ps) (v : Value) (hrun : (Instr.build t ps.toArray).run P w = .ok v w) (h : wpList P ops Q rest (a.put o.dst v) w) : wpList P ops Q (o :: rest) a w :=
  wpList_val hgd v (by
    have e : (parts.map fun (i, x) => (i, a.eval x)) = ps.toArray := by
      subst hp
      apply Array.ext'
      simp
    unfold execOp; simp only [ho, e, Sem.run_bind, hrun, Result.andThen_ok, Sem.run_pure]) h
theorem wpList_box {ops : Array Oper} {rest : List Oper} {o : Oper} {a : Act} {w : World} {Q : Exit → Act → World → Prop} (hgd : o.guard = none) (t : TypeId) (x : Operand) (ho : o.op = .box t x)
    (v : Value) (hx : a.eval x = v) (h : wpList P ops Q rest (a.put o.dst (.pointer (some ⟨w.heap.size, 0, none⟩))) (w.alloc (.cells v.cells t))) : wpList P ops Q (o :: rest) a w :=
  wpList_val (w' := w.alloc (.cells v.cells t)) hgd _ (by unfold execOp; simp only [ho, hx]; rfl) h
/-- The cells of a block that was made last. -/
theorem news_at (w : World) (l : List Value) (t : TypeId) : ∀ j u, l[j]? = some u → (w.alloc (.cells l.toArray t)).cell? ((⟨w.heap.size, 0, none⟩ : Addr).add j) = some u := by
  intro j u h
  rw [add_off, Nat.zero_add, World.cell?_alloc_new]
  simpa using h
/-- A row's cells with vs from 'off' on. -/
def splice (cs : Array Value) (off : Nat) (vs : List Value) : Array Value := (cs.toList.take off ++ vs ++ cs.toList.drop (off + vs.length)).toArray
theorem splice_get (cs : Array Value) (off : Nat) (vs : List Value) (h : off + vs.length ≤ cs.size) (j : Nat) :
    (splice cs off vs)[j]? = if off ≤ j ∧ j < off + vs.length then vs[j - off]? else cs[j]? := by
  unfold splice
  simp only [List.getElem?_toArray]
  have h1 : (cs.toList.take off).length = off := by simp; omega
  rw [List.append_assoc, List.getElem?_append, h1]
  by_cases ha : j < off
  · rw [if_pos ha, if_neg (by omega), List.getElem?_take_of_lt ha]; simp
  · rw [if_neg ha, List.getElem?_append]
    by_cases hb : j - off < vs.length
    · rw [if_pos hb, if_pos (by omega)]
    · rw [if_neg hb, if_neg (by omega), List.getElem?_drop, show off + vs.length + (j - off - vs.length) = j by omega]; simp
theorem splice_size (cs : Array Value) (off : Nat) (vs : List Value) (h : off + vs.length ≤ cs.size) : (splice cs off vs).size = cs.size := by
  unfold splice; simp; omega
/-- A struct or an array is stored into the middle of a block: what the block holds then; nothing else has turned. -/
theorem wpList_store_part {ops : Array Oper} {rest : List Oper} {o : Oper} {a : Act} {w : World} {Q : Exit → Act → World → Prop} (hgd : o.guard = none) (ty : TypeId) (x y : Operand) (ho : o.op = .store ty x y)
    (g off : Nat) (vs : Array Value) (hx : a.eval x = .pointer (some ⟨g, off, none⟩)) (hy : a.eval y = .agg vs) (t : TypeId) (cs cs' : Array Value) (hg : w.heap[g]? = some (.cells cs t (0, 0)))
    (hi : (P.info? ty).map (·.size) = some vs.size) (hn : off + vs.size ≤ cs.size) (hv : ∀ x ∈ vs.toList, x.oneCell' = true) (he : splice cs off vs.toList = cs')
    (h : ∀ w', w'.heap[g]? = some (.cells cs' t (0, 0)) → Upd [g] w w' → w'.heap.size = w.heap.size → wpList P ops Q rest (a.put o.dst undef) w') : wpList P ops Q (o :: rest) a w :=
  wpList_plain hgd fun K hK => by
    have hst := run_storeCells_at (P := P) g off t vs.toList 0 cs w hg (by simpa using hn) hv
    have h2 := h (w.setRow g cs') (setRow_heap _ _ _ _ _ _ hg) ((Upd.refl _ _).setRow (.inl (by simp)) _) (by simp)
    cases hq : P.info? ty with
    | none => simp [hq] at hi
    | some i =>
      have hs : i.size = vs.size := by simpa [hq] using hi
      have hsv : (storeVar ty ⟨g, off, none⟩ (.agg vs)).run P w = .ok () (w.setRow g cs') := by
        simp only [Nat.add_zero] at hst
        rw [← he]
        simp [storeVar, Sem.run_bind, sizeOf, typeInfo, hq, hs, Value.cells, hst, splice]
      unfold Oper.wp execOp
      simp only [ho, hx, hy, Instr.storeAt, Instr.sureAddr, Sem.run_bind, Sem.run_pure, Result.andThen_ok, hsv]
      exact hK _ _ h2
theorem run_bound (w : World) (k : IntKind) (i : Int) (y : Nat) (c : BoundsCode) (h0 : 0 ≤ i) (h1 : i ≤ y) : (Instr.sliceBound (.int k i) y c).run P w = .ok i.toNat w := by
  simp [Instr.sliceBound, asIntOf, h0, h1]
/-- An array in place, from a place on: less than all of it. -/
theorem run_arr_from (w : World) {t e : TypeId} {n : Nat} (hu : P.underlying t = some (.array n e)) (hs : (P.info? e).map (·.size) = some 1) (g o : Nat) (k : IntKind) (i : Int) (h0 : 0 ≤ i) (h1 : i < n) :
    (Instr.sliceAt t (.pointer (some ⟨g, o, none⟩)) (some (.int k i)) none none).run P w = .ok (.slice (some ⟨g, o + i.toNat, none⟩) (n - i.toNat) (n - i.toNat)) w := by
  cases hq : P.info? e with
  | none => simp [hq] at hs
  | some j =>
    have hj : j.size = 1 := by simpa [hq] using hs
    have hb := run_bound (P := P) w k i n .sliceB h0 (by omega)
    have hne : ¬ n = i.toNat := by omega
    simp [Instr.sliceAt, Instr.sliceBounds, Instr.sureAddr, run_underlying hu w, sizeOf, typeInfo, hq, hj, hb, hne, add_off]
/-- An array in place, up to a place. -/
theorem run_arr_to (w : World) {t e : TypeId} {n : Nat} (hu : P.underlying t = some (.array n e)) (hs : (P.info? e).map (·.size) = some 1) (g o : Nat) (k : IntKind) (i : Int) (h0 : 0 ≤ i) (h1 : i ≤ n) (hn : 0 < n) :
    (Instr.sliceAt t (.pointer (some ⟨g, o, none⟩)) none (some (.int k i)) none).run P w = .ok (.slice (some ⟨g, o, none⟩) i.toNat n) w := by
  cases hq : P.info? e with
  | none => simp [hq] at hs
  | some j =>
    have hj : j.size = 1 := by simpa [hq] using hs
    have hb := run_bound (P := P) w k i n .sliceAlen h0 h1
    have hne : ¬ n = 0 := by omega
    simp [Instr.sliceAt, Instr.sliceBounds, Instr.sureAddr, run_underlying hu w, sizeOf, typeInfo, hq, hb, add_off]
theorem run_arr_all (w : World) {t e : TypeId} {n : Nat} (hu : P.underlying t = some (.array n e)) (hs : (P.info? e).map (·.size) = some 1) (g o : Nat) (hn : 0 < n) :
    (Instr.sliceAt t (.pointer (some ⟨g, o, none⟩)) none none none).run P w = .ok (.slice (some ⟨g, o, none⟩) n n) w := by
  cases hq : P.info? e with
  | none => simp [hq] at hs
  | some j =>
    have hj : j.size = 1 := by simpa [hq] using hs
    have hne : ¬ n = 0 := by omega
    simp [Instr.sliceAt, Instr.sliceBounds, Instr.sureAddr, run_underlying hu w, sizeOf, typeInfo, hq, add_off]
theorem run_arr_to_max (w : World) {t e : TypeId} {n : Nat} (hu : P.underlying t = some (.array n e)) (hs : (P.info? e).map (·.size) = some 1) (g o : Nat) (k k' : IntKind) (i m : Int) (h0 : 0 ≤ i) (h1 : i ≤ m) (h2 : m ≤ n) (hm : 0 < m) :
    (Instr.sliceAt t (.pointer (some ⟨g, o, none⟩)) none (some (.int k i)) (some (.int k' m))).run P w = .ok (.slice (some ⟨g, o, none⟩) i.toNat m.toNat) w := by
  cases hq : P.info? e with
  | none => simp [hq] at hs
  | some j =>
    have hj : j.size = 1 := by simpa [hq] using hs
    have hb := run_bound (P := P) w k' m n .slice3Alen (by omega) h2
    have hb2 := run_bound (P := P) w k i m.toNat .slice3B h0 (by omega)
    have hne : ¬ m.toNat = 0 := by omega
    simp [Instr.sliceAt, Instr.sliceBounds, Instr.sureAddr, run_underlying hu w, sizeOf, typeInfo, hq, hb, hb2, add_off]
/-- copy into a row, out of cells or of a string: as many as there are, all with room. -/
theorem copy_cells (w : World) (dT sT ty elem : TypeId) (g o dLen dCap : Nat) (src : Value) (cur : Array Value) (t : TypeId) (cs : List Value) (hu : P.underlying dT = some (.slice elem)) (hs : (P.info? elem).map (·.size) = some 1)
    (hg : w.heap[g]? = some (.cells cur t (0, 0)))
    (hsrc : (∃ s : ByteArray, src = .string s ∧ cs = s.data.toList.map fun b => Value.int .u8 b.toNat) ∨ (∃ a c, src = .slice (some a) cs.length c ∧ ∀ j v, cs[j]? = some v → w.cell? (a.add j) = some v))
    (hle : cs.length ≤ dLen) (hfit : o + cs.length ≤ cur.size) (h1 : ∀ v ∈ cs, v.oneCell' = true) :
    ∃ w2, (Builtin.copy_ #[dT, sT] ty #[.slice (some ⟨g, o, none⟩) dLen dCap, src]).run P w = .ok (goInt cs.length) w2 ∧ w2.heap[g]? = some (.cells (splice cur o cs) t (0, 0)) ∧ Upd [g] w w2 ∧ w2.heap.size = w.heap.size := by
  refine ⟨w.setRow g (splice cur o cs), ?_, setRow_heap _ _ _ _ _ _ hg, (Upd.refl _ _).setRow (.inl (by simp)) _, by simp⟩
  have hst := run_storeCells_at (P := P) g o t cs 0 cur w hg (by simpa using hfit) h1
  simp only [Nat.add_zero] at hst
  cases hq : P.info? elem with
  | none => simp [hq] at hs
  | some i =>
    have hi : i.size = 1 := by simpa [hq] using hs
    rcases hsrc with ⟨s, rfl, hcs⟩ | ⟨a, c, rfl, hsrc⟩
    · have hlen : cs.length = s.size := by rw [hcs]; simp
      have hmin2 : Nat.min s.size dLen = cs.length := by rw [← hlen]; exact Nat.min_eq_left hle
      simp [Builtin.copy_, run_underlying hu, Builtin.lenOf, Builtin.firstCells, sizeOf, typeInfo, hq, hmin2]
      rw [← hcs, List.take_length, hst]
      simp [splice]
    · have hl := run_loadCells_list (P := P) w a cs hsrc
      have hmin : Nat.min cs.length dLen = cs.length := Nat.min_eq_left hle
      simp [Builtin.copy_, run_underlying hu, Builtin.lenOf, Builtin.firstCells, sizeOf, typeInfo, hq, hi, hmin, hl, hst, splice]
end
end Go.Proofs.YtlhdjgibkiffaaaGreatDoor
