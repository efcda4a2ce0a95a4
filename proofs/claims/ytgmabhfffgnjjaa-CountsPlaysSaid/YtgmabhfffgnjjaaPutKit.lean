/-
  PROVED HERE: what the writing functions hand back, in one form for the program and for the document; whether a number is in its bounds; a new writer. Conditions: those that each theorem names.
-/
import Derived.Test.YtgmabhfffgnjjaaSoundB
import Derived.Test.YtgmabhfffgnjjaaRefSum
namespace Go.Proofs.Ytgmabhfffgnjjaa
open Go.RowKit

/-- Is a number 0 to most? -/
def inB (n most : Int) : Bool := decide (0 ≤ n ∧ n ≤ most)
theorem inB_true {n most : Int} : inB n most = true ↔ 0 ≤ n ∧ n ≤ most := by unfold inB; simp
theorem inB_false {n most : Int} : inB n most = false ↔ ¬ (0 ≤ n ∧ n ≤ most) := by unfold inB; simp
theorem in_b (n most : Int) (w : World) : Calls Try.prog 39 #[.int .i64 n, .int .i64 most] w fun e w' => e = .returned (.bool (inB n most)) ∧ w = w' :=
  (in_any n most w).mono fun _ _ ⟨h, h1⟩ => ⟨h1, h.symm⟩
theorem rin_b (n most : Int) (w : World) : Calls Try.prog 45 #[.int .i64 n, .int .i64 most] w fun e w' => e = .returned (.bool (inB n most)) ∧ w = w' :=
  (rin_any n most w).mono fun _ _ ⟨h, h1⟩ => ⟨h1, h.symm⟩

/-- The value v is a slice that reads as the bytes l, in a block of its own that lies at B or beyond. -/
def IsRet (w : World) (B : Nat) (v : Value) (l : List Nat) : Prop :=
  BytesOk l ∧ ((v = .slice none 0 0 ∧ l = []) ∨ ∃ b cap cs ty fr, v = .slice (some ⟨b, 0, none⟩) l.length cap ∧ B ≤ b ∧ l.length ≤ cap ∧ cap ≤ 9223372036854775807 ∧ w.heap[b]? = some (.cells cs ty fr) ∧ ∀ i (h : i < l.length), cs[i]? = some (.int .u8 (l[i] : Int)))
theorem IsRet.slice {w : World} {B : Nat} {v : Value} {l : List Nat} (h : IsRet w B v l) : ∃ a cap, v = .slice a l.length cap ∧ IsBytes w a l ∧ (∀ b o, a = some ⟨b, o, none⟩ → B ≤ b) ∧ l.length ≤ cap ∧ cap ≤ 9223372036854775807 := by
  obtain ⟨ok, ⟨rfl, rfl⟩ | ⟨b, cap, cs, ty, fr, rfl, hB, hc, hm, hb, hi⟩⟩ := h
  · exact ⟨none, 0, rfl, ⟨ok, fun i hi => by simp at hi⟩, (by simp), by simp, by decide⟩
  · exact ⟨some ⟨b, 0, none⟩, cap, rfl, ⟨ok, fun i h => ⟨b, 0, rfl, by rw [Nat.zero_add, cell_of_row w b i cs ty fr hb]; exact hi i h⟩⟩, (by rintro b' o ⟨⟩; exact hB), hc, hm⟩
theorem IsRet.upd {w w' : World} {B : Nat} {v : Value} {l : List Nat} {S : List Nat} (h : IsRet w B v l) (u : Upd S w w') (hs : ∀ b, b ∈ S → b < B) : IsRet w' B v l := by
  obtain ⟨ok, h | ⟨b, cap, cs, ty, fr, hv, hB, hc, hm, hb, hi⟩⟩ := h
  · exact ⟨ok, .inl h⟩
  · exact ⟨ok, .inr ⟨b, cap, cs, ty, fr, hv, hB, hc, hm, u.get hb (fun hx => by have := hs b hx; omega), hi⟩⟩
theorem IsRet.nil (w : World) (B : Nat) : IsRet w B (.slice none 0 0) [] := ⟨BytesOk.nil, .inl ⟨rfl, rfl⟩⟩
theorem IsRet.base {w : World} {B C : Nat} {v : Value} {l : List Nat} (h : IsRet w B v l) (hC : C ≤ B) : IsRet w C v l := by
  obtain ⟨ok, h | ⟨b, cap, cs, ty, fr, hv, hB, r⟩⟩ := h
  · exact ⟨ok, .inl h⟩
  · exact ⟨ok, .inr ⟨b, cap, cs, ty, fr, hv, Nat.le_trans hC hB, r⟩⟩
theorem IsBlk.ret {w : World} {b B : Nat} {l : List Nat} (h : IsBlk w b l) (hB : B ≤ b) {n : Nat} (hn : l.length = n) (hm : n ≤ 9223372036854775807) : IsRet w B (.slice (some ⟨b, 0, none⟩) n n) l := by
  obtain ⟨⟨cs, ty, hb, r⟩, ok⟩ := h
  subst hn
  exact ⟨ok, .inr ⟨b, _, cs, ty, _, rfl, hB, Nat.le_refl _, hm, hb, r⟩⟩
theorem IsOut.ret {w : World} {B : Nat} {v : Value} {l : List Nat} (h : IsOut w B v l) : IsRet w B v l := by
  obtain ⟨⟨hl, ⟨rfl, h0⟩ | ⟨g, cap, cur, rfl, hg, hb, hc, hm, hs, ht⟩⟩ | ⟨g, cs, ty, fr, rfl, hg, hb, hi, hm⟩, ok⟩ := h
  · exact ⟨ok, .inl ⟨rfl, List.length_eq_zero_iff.1 h0⟩⟩
  · refine ⟨ok, .inr ⟨g, cap, cur, 5, _, rfl, hg, hc, by unfold maxLen at hm; omega, hb, fun i hi => ?_⟩⟩
    have e : (cur.toList.take (l.length * 1))[i]? = (u8s l)[i]? := by rw [ht]
    rw [List.getElem?_take_of_lt (by omega), u8s_get, List.getElem?_eq_getElem hi] at e
    simpa using e
  · exact ⟨ok, .inr ⟨g, _, cs, ty, fr, rfl, hg, Nat.le_refl _, by omega, hb, hi⟩⟩
/-- What a writing function hands back: the bytes and no error, or none and the error of a thing that may not be handed in. -/
def PutOut (B : Nat) (o : Option (List Nat)) (e : Ending) (w' : World) : Prop := ∃ v, e = .returned (.tuple #[v, .int .i64 (if o.isSome then 0 else 1)]) ∧ IsRet w' B v (o.getD [])
theorem PutOut.no (B : Nat) (w : World) : PutOut B none (.returned (.tuple #[.slice none 0 0, .int .i64 1])) w := ⟨_, rfl, IsRet.nil w B⟩
theorem PutOut.yes {B : Nat} {w : World} {l : List Nat} {v : Value} (h : IsRet w B v l) : PutOut B (some l) (.returned (.tuple #[v, .int .i64 0])) w := ⟨_, rfl, h⟩

/-- A writer as it is made. -/
def writer0 : List Value := List.replicate 256 (Value.int .u8 0) ++ [Value.int .i64 0]
theorem isW_new {w : World} {b : Nat} (h : w.heap[b]? = some (.cells writer0.toArray 65 (0, 0))) : IsW w b [] := by
  have h1 : (List.replicate 256 (Value.int .u8 0)).length = 256 := List.length_replicate
  refine ⟨⟨_, h, ?_, fun i hi => ?_, ?_⟩, BytesOk.nil⟩
  · rw [List.size_toArray]; unfold writer0; rw [List.length_append, h1]; rfl
  · rw [List.getElem?_toArray]
    unfold writer0
    rw [List.getElem?_append_left (by rw [h1]; exact hi), List.getElem?_replicate, if_pos hi]
    rfl
  · rw [List.getElem?_toArray]
    unfold writer0
    rw [List.getElem?_append_right (by rw [h1]; exact Nat.le_refl _), h1]
    rfl
theorem writerZero : Try.zeroCells65 = writer0.toArray := by kernel_rfl
theorem isW_made (w : World) : IsW (w.alloc (.cells Try.zeroCells65 65)) w.heap.size [] := isW_new (by rw [writerZero]; exact heap_alloc_new w _)
section
variable {P : Program}
theorem splice_all (cs vs : Array Value) (h : vs.size = cs.size) : splice cs 0 vs.toList = vs := by
  unfold splice
  rw [List.take_zero, List.nil_append, Nat.zero_add, List.drop_of_length_le (by simp [h]), List.append_nil]
/-- A whole block is stored into. -/
theorem wpList_store_all {ops : Array Oper} {rest : List Oper} {o : Oper} {a : Act} {w : World} {Q : Exit → Act → World → Prop} (hgd : o.guard = none) (ty : TypeId) (x y : Operand) (ho : o.op = .store ty x y)
    (g : Nat) (vs : Array Value) (hx : a.eval x = .pointer (some ⟨g, 0, none⟩)) (hy : a.eval y = .agg vs) (t : TypeId) (cs : Array Value) (hg : w.heap[g]? = some (.cells cs t (0, 0)))
    (hi : (P.info? ty).map (·.size) = some vs.size) (hn : vs.size = cs.size) (hv : vs.toList.all Value.oneCell' = true)
    (h : ∀ w', w'.heap[g]? = some (.cells vs t (0, 0)) → Upd [g] w w' → w'.heap.size = w.heap.size → wpList P ops Q rest (a.put o.dst undef) w') : wpList P ops Q (o :: rest) a w :=
  wpList_store_part hgd ty x y ho g 0 vs hx hy t cs vs hg hi (by omega) (fun x hx => List.all_eq_true.1 hv x hx) (splice_all _ _ hn) h
theorem wpList_load_all {ops : Array Oper} {rest : List Oper} {o : Oper} {a : Act} {w : World} {Q : Exit → Act → World → Prop} (hgd : o.guard = none) (ty : TypeId) (x : Operand) (ho : o.op = .load ty x)
    (g n : Nat) (hx : a.eval x = .pointer (some ⟨g, 0, none⟩)) (t : TypeId) (cs : Array Value) (fr : Nat × Nat) (d : TypeDesc) (hg : w.heap[g]? = some (.cells cs t fr))
    (hu : P.underlying ty = some d) (hd : (match d with | .struct _ | .array _ _ => true | _ => false) = true) (hi : (P.info? ty).map (·.size) = some n) (hn : n = cs.size)
    (h : wpList P ops Q rest (a.put o.dst (.agg cs)) w) : wpList P ops Q (o :: rest) a w := by
  refine wpList_load_part hgd ty x ho g 0 n hx t cs fr d hg hu hd hi (by omega) ?_
  rw [Nat.zero_add, hn, Array.extract_size]
  exact h
end
theorem i64s_one (l : List Int) : (l.map (Value.int .i64)).all Value.oneCell' = true := by
  rw [List.all_map, List.all_eq_true]; intro x _; rfl
theorem IsBlk.upd' {w w' : World} {b : Nat} {l : List Nat} {S : List Nat} (h : IsBlk w b l) (u : Upd S w w') (hs : ∀ x, x ∈ S → x < b) : IsBlk w' b l := h.upd u fun hx => Nat.lt_irrefl _ (hs b hx)
end Go.Proofs.Ytgmabhfffgnjjaa
