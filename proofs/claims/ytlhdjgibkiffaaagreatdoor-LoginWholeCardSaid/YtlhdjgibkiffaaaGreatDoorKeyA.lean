/-
  PROVED HERE: Parse of package keys is the plain function. Conditions: those that each theorem names.
-/
import Derived.Test.YtlhdjgibkiffaaaGreatDoorKeyJ
import Derived.Test.YtlhdjgibkiffaaaGreatDoorKeyC
import Derived.Test.YtlhdjgibkiffaaaGreatDoorKeyM
import Derived.Laws.IdiomStrings
namespace Go.Proofs.YtlhdjgibkiffaaaGreatDoor
open Go.RowKit Go.Shelf

attribute [local go_sem] Oper.semAt_some

/-- No error, or ErrKeys. -/
def errP {α : Type} : Option α → Int | some _ => 0 | none => 43
/-- The world in which the iterator of bytes has been made. -/
abbrev bwld (w : World) (v z : Value) : World := ((w.alloc (.cells #[v] 28)).alloc (.cells #[z] 28)).alloc (.cells #[.int .i64 1] 3)
set_option maxRecDepth 100000 in
theorem bsplit_any (w : World) (p q : Option Addr) (n c k : Nat) : Calls Tryz.prog 20 #[.slice p n c, .slice q 1 k] w fun e w' => e = .returned (.func (.func 41) #[] #[.pointer (some ⟨w.heap.size + 1, 0, none⟩), .pointer (some ⟨w.heap.size, 0, none⟩), .pointer (some ⟨w.heap.size + 2, 0, none⟩)]) ∧ w' = bwld w (.slice p n c) (.slice q 1 k) := by
  go_enter Tryz.func20, Tryz.ntmps20
  go_wp2
  go_ret
  exact ⟨rfl, rfl⟩
theorem piece_string {W : World} {p : Option Addr} {t : Txt} (h : IsTxt W p t) (hn : t ≠ []) (c : Nat) : (convert 28 9 (.slice p t.length c)).run Tryz.prog W = .ok (.string (txt t)) W := by
  obtain ⟨g, o, rfl, hg, _⟩ := h 0 (List.length_pos_iff.2 hn)
  refine run_convert_bytes_back W _ _ 5 _ c t Tryz.underlying28 Tryz.underlying5 Tryz.underlying9 fun j hj => ?_
  obtain ⟨g', o', e, _, h3⟩ := h j hj
  cases e
  rw [add_off]
  exact h3
theorem infoPair3 : (Tryz.prog.info? 68).map (fun i => (i.zero, i.size, i.bytes)) = some (some (.agg #[.string (txt []), .string (txt [])]), 2, 32) := by kernel_rfl
/-- An append of one pair, in a round. -/
theorem wpListIn_pushp {F : Fence} {n : Nat} {w : World} {ops : Array Oper} {rest : List Oper} {o : Oper} {a : Act} {Q : Exit → Act → World → Prop} (hgd : o.guard = none) (s x : Operand)
    (ho : o.op = Op.call { callee := Callee.builtin Builtin.append, args := #[s, x], argTypes := #[44, 44] }) {base : Nat} {v : Value} {l : List Pr} (hs : a.eval s = v) (hown : w.ownsRow base 68 2 v l.length (prCells l)) (p : Pr) (g c : Nat)
    (hx : a.eval x = .slice (some ⟨g, 0, none⟩) 1 c) (hc : ∀ j u, [Value.string (txt p.1), Value.string (txt p.2)][j]? = some u → w.cell? ((⟨g, 0, none⟩ : Addr).add j) = some u) (hl : l.length ≤ 1073741824) (hb : base ≤ w.heap.size)
    (hK : ∀ v' w', w'.ownsRow base 68 2 v' (l ++ [p]).length (prCells (l ++ [p])) → (∃ c' k', v' = .slice c' (l.length + 1) k') → Upd v.ownBlock.toList w w' → wpListIn F n Tryz.prog ops Q rest (a.put o.dst v') w') : wpListIn F n Tryz.prog ops Q (o :: rest) a w := by
  obtain ⟨i0, hi, hz0, hz1, hz2⟩ := info_parts infoPair3
  refine wpListIn_append_own _ hgd s x 44 ho base 68 i0 _ 2 32 Tryz.underlying44 hi hz0 hz1 hz2 rfl (by decide) v l.length (prCells l) hs hown ⟨g, 0, none⟩ 1 c [.string (txt p.1), .string (txt p.2)] hx rfl hc (by simp [Value.oneCell']) (by unfold maxLen; omega) (by omega) hb ?_
  intro v' w' h1 h2 _
  have h1' : w'.ownsRow base 68 2 v' (l ++ [p]).length (prCells (l ++ [p])) := by
    rw [prCells_append, List.length_append]; simpa [prCells] using h1
  refine hK v' w' h1' ?_ (Upd.of_grown h2)
  obtain ⟨g', cap', rfl⟩ := ownsRow_succ h1
  exact ⟨_, _, rfl⟩
theorem pieceP_cut (t : Txt) (ht : t ≠ []) : pieceP t = if Lib.hasSuffix t [0] && (cutV (Lib.trimSuffix t [0])).2.2 then some ((cutV (Lib.trimSuffix t [0])).1, (cutV (Lib.trimSuffix t [0])).2.1) else none := by
  rcases pieceP_words t ht with ⟨h1, h2⟩ | ⟨h1, h2, h3⟩
  · rw [h1, h2]; rfl
  · rw [h1, h2, h3]
    unfold cutV
    cases cutEq t.dropLast with
    | none => rfl
    | some p => rfl
theorem ownsRow_upd {w w' : World} {base size n : Nat} {e : TypeId} {v : Value} {xs : List Value} {T : List Nat} (h : w.ownsRow base e size v n xs) (u : Upd T w w') (hT : ∀ x ∈ T, x < base) : w'.ownsRow base e size v n xs := by
  obtain ⟨h1, h2 | ⟨g, cap, cur, h2, h3, h4, h5⟩⟩ := h
  · exact ⟨h1, .inl h2⟩
  · exact ⟨h1, .inr ⟨g, cap, cur, h2, h3, u.get h4 (fun hm => by have := hT _ hm; omega), h5⟩⟩
/-- Between two rounds of Parse. -/
structure PaAt (w : World) (dp : Option Addr) (d : Txt) (xs : List (BPiece dp d)) (acc : List Pr) (v : Value) (W : World) : Prop where
  r0 : W.heap[w.heap.size]? = some (.cells #[.slice none 0 0] 44 (0, 0))
  r1 : W.heap[w.heap.size + 1]? = some (.cells #[.int .i64 0] 45 (0, 0))
  lb : W.heap[w.heap.size + 2]? = some (.cells #[v] 44 (0, 0))
  own : W.ownsRow (w.heap.size + 9) 68 2 v acc.length (prCells acc)
  fold : foldS [] (xs.map (·.1.2)) = some acc
  below : Below w.heap.size w W
theorem PaAt.cells {w : World} {dp : Option Addr} {d : Txt} {xs : List (BPiece dp d)} {acc : List Pr} {v : Value} {W : World} (h : PaAt w dp d xs acc v W) :
    W.cell? ⟨w.heap.size, 0, none⟩ = some (.slice none 0 0) ∧ W.cell? ⟨w.heap.size + 1, 0, none⟩ = some (.int .i64 0) ∧ W.cell? ⟨w.heap.size + 1 + 1, 0, none⟩ = some v ∧ W.frozen? ⟨w.heap.size, 0, none⟩ = false ∧ W.frozen? ⟨w.heap.size + 1, 0, none⟩ = false ∧ W.frozen? ⟨w.heap.size + 1 + 1, 0, none⟩ = false :=
  ⟨(cells_of h.r0).1 0, (cells_of h.r1).1 0, (cells_of h.lb).1 0, (cells_of h.r0).2 0, (cells_of h.r1).2 0, (cells_of h.lb).2 0⟩
theorem PaAt.grown {w : World} {dp : Option Addr} {d : Txt} {xs : List (BPiece dp d)} {acc acc' : List Pr} {v v' : Value} {W W1 W2 : World} (h : PaAt w dp d xs acc v W) (u1 : Upd [] W W1) (_h' : W2.ownsRow (w.heap.size + 9) 68 2 v' acc'.length (prCells acc')) (u2 : Upd v.ownBlock.toList W1 W2) :
    W2.cell? ⟨w.heap.size, 0, none⟩ = some (.slice none 0 0) ∧ W2.cell? ⟨w.heap.size + 1, 0, none⟩ = some (.int .i64 0) ∧ W2.cell? ⟨w.heap.size + 1 + 1, 0, none⟩ = some v ∧ W2.frozen? ⟨w.heap.size, 0, none⟩ = false ∧ W2.frozen? ⟨w.heap.size + 1, 0, none⟩ = false ∧ W2.frozen? ⟨w.heap.size + 1 + 1, 0, none⟩ = false := by
  have hb : ∀ x, x ∈ v.ownBlock.toList → w.heap.size + 9 ≤ x := ownsRow_block h.own
  have n : ∀ j, j < w.heap.size + 9 → j ∉ v.ownBlock.toList := fun j hj hm => by have := hb j hm; omega
  have e0 := u2.get (u1.get h.r0 (by simp)) (n _ (by omega))
  have e1 := u2.get (u1.get h.r1 (by simp)) (n _ (by omega))
  have e2 := u2.get (u1.get h.lb (by simp)) (n _ (by omega))
  exact ⟨(cells_of e0).1 0, (cells_of e1).1 0, (cells_of e2).1 0, (cells_of e0).2 0, (cells_of e1).2 0, (cells_of e2).2 0⟩
/-- .. the append's store. -/
theorem PaAt.step {w : World} {dp : Option Addr} {d : Txt} {xs : List (BPiece dp d)} {acc : List Pr} {v v' : Value} {W W1 W2 : World} (h : PaAt w dp d xs acc v W) (u1 : Upd [] W W1) (x : BPiece dp d) {p : Pr} (hx : x.1.2 ≠ []) (hp : pieceP x.1.2 = some p)
    (h' : W2.ownsRow (w.heap.size + 9) 68 2 v' (acc ++ [p]).length (prCells (acc ++ [p]))) (u2 : Upd v.ownBlock.toList W1 W2) : PaAt w dp d (xs ++ [x]) (acc ++ [p]) v' (W2.setCell ⟨w.heap.size + 1 + 1, 0, none⟩ v') := by
  have hb : ∀ x, x ∈ v.ownBlock.toList → w.heap.size + 9 ≤ x := ownsRow_block h.own
  have n : ∀ j, j < w.heap.size + 9 → j ∉ v.ownBlock.toList := fun j hj hm => by have := hb j hm; omega
  have u3 : Upd [w.heap.size + 1 + 1] W2 (W2.setCell ⟨w.heap.size + 1 + 1, 0, none⟩ v') := (Upd.refl _ _).setCell (.inl (by simp)) _
  have b1 := h.below.size
  have b2 := u1.size
  have b3 := u2.size
  exact ⟨u3.get (u2.get (u1.get h.r0 (by simp)) (n _ (by omega))) (by simp; omega), u3.get (u2.get (u1.get h.r1 (by simp)) (n _ (by omega))) (by simp), heap_setCell_same _ _ _ _ _ _ (u2.get (u1.get h.lb (by simp)) (n _ (by omega))),
    ownsRow_upd h' u3 (by simp), by rw [List.map_append]; exact foldS_snoc _ _ _ _ _ h.fold hx hp,
    ((h.below.trans (u1.below b1 (by simp))).trans (u2.below (by omega) (fun x hx => by have := hb x hx; omega))).trans (u3.below (by omega) (by simp; omega))⟩
/-- A refusal's two stores. -/
theorem PaAt.bad {w : World} {dp : Option Addr} {d : Txt} {xs : List (BPiece dp d)} {acc : List Pr} {v : Value} {W : World} (h : PaAt w dp d xs acc v W) :
    Upd [w.heap.size, w.heap.size + 1] W ((W.setCell ⟨w.heap.size, 0, none⟩ (.slice none 0 0)).setCell ⟨w.heap.size + 1, 0, none⟩ (.int .i64 43)) ∧
    ((W.setCell ⟨w.heap.size, 0, none⟩ (.slice none 0 0)).setCell ⟨w.heap.size + 1, 0, none⟩ (.int .i64 43)).heap[w.heap.size]? = some (.cells #[.slice none 0 0] 44 (0, 0)) ∧
    ((W.setCell ⟨w.heap.size, 0, none⟩ (.slice none 0 0)).setCell ⟨w.heap.size + 1, 0, none⟩ (.int .i64 43)).heap[w.heap.size + 1]? = some (.cells #[.int .i64 43] 45 (0, 0)) ∧
    Below w.heap.size w ((W.setCell ⟨w.heap.size, 0, none⟩ (.slice none 0 0)).setCell ⟨w.heap.size + 1, 0, none⟩ (.int .i64 43)) := by
  have u1 : Upd [w.heap.size] W (W.setCell ⟨w.heap.size, 0, none⟩ (.slice none 0 0)) := (Upd.refl _ _).setCell (.inl (by simp)) _
  have u2 : Upd [w.heap.size + 1] (W.setCell ⟨w.heap.size, 0, none⟩ (.slice none 0 0)) ((W.setCell ⟨w.heap.size, 0, none⟩ (.slice none 0 0)).setCell ⟨w.heap.size + 1, 0, none⟩ (.int .i64 43)) := (Upd.refl _ _).setCell (.inl (by simp)) _
  refine ⟨(u1.mono (by simp)).trans (u2.mono (by simp)), u2.get (heap_setCell_same _ _ _ _ _ _ h.r0) (by simp), heap_setCell_same _ _ _ _ _ _ (u1.get h.r1 (by simp)), ?_⟩
  exact (h.below.trans (u1.below h.below.size (by simp))).trans (u2.below (Nat.le_trans h.below.size u1.size) (by simp))
theorem PaAt.good {w : World} {dp : Option Addr} {d : Txt} {xs : List (BPiece dp d)} {acc : List Pr} {v : Value} {W : World} (h : PaAt w dp d xs acc v W) :
    Upd [w.heap.size, w.heap.size + 1] W ((W.setCell ⟨w.heap.size, 0, none⟩ v).setCell ⟨w.heap.size + 1, 0, none⟩ (.int .i64 0)) ∧
    ((W.setCell ⟨w.heap.size, 0, none⟩ v).setCell ⟨w.heap.size + 1, 0, none⟩ (.int .i64 0)).heap[w.heap.size]? = some (.cells #[v] 44 (0, 0)) ∧
    ((W.setCell ⟨w.heap.size, 0, none⟩ v).setCell ⟨w.heap.size + 1, 0, none⟩ (.int .i64 0)).heap[w.heap.size + 1]? = some (.cells #[.int .i64 0] 45 (0, 0)) ∧
    Below w.heap.size w ((W.setCell ⟨w.heap.size, 0, none⟩ v).setCell ⟨w.heap.size + 1, 0, none⟩ (.int .i64 0)) ∧
    ((W.setCell ⟨w.heap.size, 0, none⟩ v).setCell ⟨w.heap.size + 1, 0, none⟩ (.int .i64 0)).ownsRow (w.heap.size + 9) 68 2 v acc.length (prCells acc) := by
  have u1 : Upd [w.heap.size] W (W.setCell ⟨w.heap.size, 0, none⟩ v) := (Upd.refl _ _).setCell (.inl (by simp)) _
  have u2 : Upd [w.heap.size + 1] (W.setCell ⟨w.heap.size, 0, none⟩ v) ((W.setCell ⟨w.heap.size, 0, none⟩ v).setCell ⟨w.heap.size + 1, 0, none⟩ (.int .i64 0)) := (Upd.refl _ _).setCell (.inl (by simp)) _
  refine ⟨(u1.mono (by simp)).trans (u2.mono (by simp)), u2.get (heap_setCell_same _ _ _ _ _ _ h.r0) (by simp), heap_setCell_same _ _ _ _ _ _ (u1.get h.r1 (by simp)), ?_, ownsRow_upd (ownsRow_upd h.own u1 (by simp)) u2 (by simp)⟩
  exact (h.below.trans (u1.below h.below.size (by simp))).trans (u2.below (Nat.le_trans h.below.size u1.size) (by simp))
theorem row_slice {W : World} {base size n : Nat} {e : TypeId} {v : Value} {xs : List Value} (h : W.ownsRow base e size v n xs) : ∃ p n c, v = .slice p n c := by
  obtain ⟨_, ⟨rfl, _⟩ | ⟨g, cap, cur, rfl, _⟩⟩ := h
  · exact ⟨_, _, _, rfl⟩
  · exact ⟨_, _, _, rfl⟩
/-- A row of pairs is a slice of pairs. -/
theorem prs_of_row {W : World} {base : Nat} {v : Value} {l : List Pr} (h : W.ownsRow base 68 2 v l.length (prCells l)) : IsPrs W v l := by
  obtain ⟨_, ⟨rfl, h0⟩ | ⟨g, cap, cur, rfl, _, hg, hn, hm, hs, hc⟩⟩ := h
  · exact .inl ⟨rfl, List.length_eq_zero_iff.1 h0⟩
  · refine .inr ⟨g, 0, cap, rfl, hn, hm, lt_of_get hg, fun i hi => ?_⟩
    obtain ⟨e1, e2⟩ := prCells_get l i hi
    rw [cell_of_row W g _ cur _ _ hg, cell_of_row W g _ cur _ _ hg]
    rw [← hc, List.getElem?_take_of_lt (by omega), Array.getElem?_toList] at e1 e2
    exact ⟨by simpa using e1, by simpa using e2⟩
/-- A round has ended it. -/
def PaEnd (w : World) (dp : Option Addr) (d : Txt) (c : Code) (xs : List (BPiece dp d)) (W : World) : Prop :=
  ∃ ys x, xs = ys ++ [x] ∧ ((c = .exit 0 ∧ x.1.2 = [] ∧ ∃ acc v, PaAt w dp d ys acc v W) ∨ (c = .ret ∧ x.1.2 ≠ [] ∧ pieceP x.1.2 = none ∧ (∃ acc, foldS [] (ys.map (·.1.2)) = some acc) ∧
    W.heap[w.heap.size]? = some (.cells #[.slice none 0 0] 44 (0, 0)) ∧ W.heap[w.heap.size + 1]? = some (.cells #[.int .i64 43] 45 (0, 0)) ∧ Below w.heap.size w W))
theorem PaAt.lets {w : World} {dp : Option Addr} {d : Txt} {xs : List (BPiece dp d)} {acc : List Pr} {v : Value} {T : List Nat} (hT : ∀ x ∈ T, w.heap.size + 2 < x ∧ x < w.heap.size + 9) {A B : World} (h : PaAt w dp d xs acc v A) (u : Upd T A B) : PaAt w dp d xs acc v B :=
  ⟨u.get h.r0 (fun hm => by have := hT _ hm; omega), u.get h.r1 (fun hm => by have := hT _ hm; omega), u.get h.lb (fun hm => by have := hT _ hm; omega), ownsRow_upd h.own u (fun x hx => (hT x hx).2), h.fold, h.below.trans (u.below h.below.size fun x hx => by have := hT x hx; omega)⟩
theorem PaEnd.lets {w : World} {dp : Option Addr} {d : Txt} {T : List Nat} (hT : ∀ x ∈ T, w.heap.size + 2 < x ∧ x < w.heap.size + 9) (c : Code) : Lets T (PaEnd w dp d c) := fun xs A B h u => by
  obtain ⟨ys, x, h0, ⟨h1, h2, acc, v, h3⟩ | ⟨h1, h2, h3, h4, h5, h6, h7⟩⟩ := h
  · exact ⟨ys, x, h0, .inl ⟨h1, h2, acc, v, h3.lets hT u⟩⟩
  · exact ⟨ys, x, h0, .inr ⟨h1, h2, h3, h4, u.get h5 (fun hm => by have := hT _ hm; omega), u.get h6 (fun hm => by have := hT _ hm; omega), h7.trans (u.below h7.size fun x hx => by have := hT x hx; omega)⟩⟩
set_option maxRecDepth 100000 in
set_option maxHeartbeats 4000000 in
theorem parse_any {w : World} (dp : Option Addr) (d : Txt) (c : Nat) (h : IsTxt w dp d) (hc : d.length ≤ c) (hn : dp = none → c = 0) (hd : d.length ≤ 1073741824) :
    Calls Tryz.prog 15 #[.slice dp d.length c] w fun e w' => (∃ v, e = .returned (.tuple #[v, .int .i64 (errP (parseP d))]) ∧ IsPrs w' v ((parseP d).getD [])) ∧ Below w.heap.size w w' := by
  have HS := Lib.hid (fun w z => bsplit_any w dp (some z) d.length c)
  have H := Lib.hid h
  have HD := Lib.hid hd
  have HC := Lib.hid hc
  have HN := Lib.hid hn
  have HLT := Lib.hid (show d ≠ [] → ∀ a, dp = some a → a.block < w.heap.size from fun hne a ha => by
    obtain ⟨g, o, e, hg, _⟩ := h 0 (List.length_pos_iff.2 hne)
    rw [ha] at e; cases e; exact hg)
  clear h hd hc hn
  refine (callsIn_wide (n := 8)).1 ?_
  refine callsIn_of_wp_marks Tryz.func15 rfl trivial ?_ rfl
  simp only [Tryz.ntmps15, List.size_toArray, List.length_cons, List.length_nil, Nat.reduceAdd, Nat.reduceSub, Array.replicate_succ, Array.replicate_zero, List.push_toArray, List.append_toArray, List.nil_append, List.cons_append]
  gi_wp2_with (refine ⟨trivial, ?_⟩; gi_at_call 20; refine (callsIn_wide.2 (HS.out _ _ _)).mono ?_; rintro e w3 ⟨rfl, rfl⟩)
  obtain ⟨W0, hW0⟩ : ∃ W0, bwld ((((w.alloc (.cells #[.slice none 0 0] 44)).alloc (.cells #[.int .i64 0] 45)).alloc (.cells #[.slice none 0 0] 44)).alloc (.cells #[.int .u8 0] 5)) (.slice dp d.length c) (.slice (some ⟨w.heap.size + 1 + 1 + 1, 0, none⟩) 1 1) = W0 := ⟨_, rfl⟩
  have hu : Upd [] w W0 := by rw [← hW0]; exact (((((((Upd.refl [] w).alloc _).alloc _).alloc _).alloc _).alloc _).alloc _).alloc _
  have hs0 : W0.heap.size = w.heap.size + 7 := by rw [← hW0]; simp
  have e0 : W0.heap[w.heap.size]? = some (.cells #[.slice none 0 0] 44 (0, 0)) := by
    rw [← hW0]; exact ((((((((Upd.refl [] _).alloc _).alloc _).alloc _).alloc _).alloc _).alloc _).get (heap_alloc_new w _) (by simp))
  have e1 : W0.heap[w.heap.size + 1]? = some (.cells #[.int .i64 0] 45 (0, 0)) := by
    have := heap_alloc_new (w.alloc (.cells #[.slice none 0 0] 44)) (.cells #[.int .i64 0] 45)
    rw [World.size_alloc] at this
    rw [← hW0]; exact (((((((Upd.refl [] _).alloc _).alloc _).alloc _).alloc _).alloc _).get this (by simp))
  have e2 : W0.heap[w.heap.size + 2]? = some (.cells #[.slice none 0 0] 44 (0, 0)) := by
    have := heap_alloc_new ((w.alloc (.cells #[.slice none 0 0] 44)).alloc (.cells #[.int .i64 0] 45)) (.cells #[.slice none 0 0] 44)
    rw [World.size_alloc, World.size_alloc] at this
    rw [← hW0]; exact ((((((Upd.refl [] _).alloc _).alloc _).alloc _).alloc _).get this (by simp))
  have e3 : W0.heap[w.heap.size + 3]? = some (.cells #[.int .u8 0] 5 (0, 0)) := by
    have := heap_alloc_new (((w.alloc (.cells #[.slice none 0 0] 44)).alloc (.cells #[.int .i64 0] 45)).alloc (.cells #[.slice none 0 0] 44)) (.cells #[.int .u8 0] 5)
    rw [World.size_alloc, World.size_alloc, World.size_alloc] at this
    rw [← hW0]; exact (((((Upd.refl [] _).alloc _).alloc _).alloc _).get this (by simp))
  have e4 : W0.heap[w.heap.size + 4]? = some (.cells #[.slice dp d.length c] 28 (0, 0)) := by
    have := heap_alloc_new ((((w.alloc (.cells #[.slice none 0 0] 44)).alloc (.cells #[.int .i64 0] 45)).alloc (.cells #[.slice none 0 0] 44)).alloc (.cells #[.int .u8 0] 5)) (.cells #[.slice dp d.length c] 28)
    rw [World.size_alloc, World.size_alloc, World.size_alloc, World.size_alloc] at this
    rw [← hW0]; exact ((((Upd.refl [] _).alloc _).alloc _).get this (by simp))
  have e5 : W0.heap[w.heap.size + 5]? = some (.cells #[.slice (some ⟨w.heap.size + 1 + 1 + 1, 0, none⟩) 1 1] 28 (0, 0)) := by
    have := heap_alloc_new (((((w.alloc (.cells #[.slice none 0 0] 44)).alloc (.cells #[.int .i64 0] 45)).alloc (.cells #[.slice none 0 0] 44)).alloc (.cells #[.int .u8 0] 5)).alloc (.cells #[.slice dp d.length c] 28)) (.cells #[.slice (some ⟨w.heap.size + 1 + 1 + 1, 0, none⟩) 1 1] 28)
    rw [World.size_alloc, World.size_alloc, World.size_alloc, World.size_alloc, World.size_alloc] at this
    rw [← hW0]; exact (((Upd.refl [] _).alloc _).get this (by simp))
  have e6 : W0.heap[w.heap.size + 6]? = some (.cells #[.int .i64 1] 3 (0, 0)) := by
    have := heap_alloc_new ((((((w.alloc (.cells #[.slice none 0 0] 44)).alloc (.cells #[.int .i64 0] 45)).alloc (.cells #[.slice none 0 0] 44)).alloc (.cells #[.int .u8 0] 5)).alloc (.cells #[.slice dp d.length c] 28)).alloc (.cells #[.slice (some ⟨w.heap.size + 1 + 1 + 1, 0, none⟩) 1 1] 28)) (.cells #[.int .i64 1] 3)
    rw [World.size_alloc, World.size_alloc, World.size_alloc, World.size_alloc, World.size_alloc, World.size_alloc] at this
    rw [← hW0]; exact this
  have hdat : IsTxt W0 dp d := H.out.below hu.all
  have hb0 : BBoxes (w.heap.size + 1 + 1 + 1 + 1) (w.heap.size + 1 + 1 + 1) 1 dp d d W0 :=
    ⟨⟨dp, c, e4, PieceOf.whole dp d W0 hdat, HC.out, HN.out⟩, e5, e6, (cells_of e3).1 0, hdat, by omega, fun hne a ha => by have := HLT.out hne a ha; omega⟩
  have hr0 : PaAt w dp d [] [] (.slice none 0 0) W0 := ⟨e0, e1, e2, World.ownsRow_nil _ _ _ _, rfl, hu.all⟩
  rw [hW0]
  have HST := Lib.hid (bseq_stops (w.heap.size + 1 + 1 + 1 + 1) (w.heap.size + 1 + 1 + 1) 1 dp d hb0 (by have := HD.out; omega))
  have HR0 := Lib.hid hr0
  have HS0 := Lib.hid hs0
  clear hb0 hs0 hr0 hW0 e0 e1 e2 e3 e4 e5 e6 hu hdat
  refine wpIn_range_box (n := 8) (gf := 41) (lb := #[.pointer (some ⟨w.heap.size + 1 + 1 + 1 + 1 + 1, 0, none⟩), .pointer (some ⟨w.heap.size + 1 + 1 + 1 + 1, 0, none⟩), .pointer (some ⟨w.heap.size + 1 + 1 + 1 + 1 + 2, 0, none⟩)]) rfl (enters_of Tryz.func41 (by kernel_rfl) rfl)
    HST.out (by rw [HS0.out]; omega) (fun k hk => by
      rw [HS0.out]
      rcases hk with hk | hk | ⟨hne, a, ha, rfl⟩
      · unfold KBox at hk; omega
      · omega
      · have := HLT.out hne a ha; omega) (fun _ => rfl)
    (fun xs W => ∃ acc v, PaAt w dp d xs acc v W) (PaEnd w dp d) (fun xs A B ⟨acc, v, h⟩ u => ⟨acc, v, h.lets (by rw [HS0.out]; simp) u⟩) (PaEnd.lets (by rw [HS0.out]; simp)) ⟨_, _, HR0.out⟩
    (fun x => { tmps := #[.slice dp d.length c, undef, .pointer (some ⟨w.heap.size, 0, none⟩), .pointer (some ⟨w.heap.size + 1, 0, none⟩), .pointer (some ⟨w.heap.size + 1 + 1, 0, none⟩), .slice x.1.1 x.1.2.length x.1.2.length, undef, undef, undef, undef, undef, .slice dp d.length c, .slice (some ⟨w.heap.size + 1 + 1 + 1, 0, none⟩) 1 1, .func (.func 41) #[] #[.pointer (some ⟨w.heap.size + 1 + 1 + 1 + 1 + 1, 0, none⟩), .pointer (some ⟨w.heap.size + 1 + 1 + 1 + 1, 0, none⟩), .pointer (some ⟨w.heap.size + 1 + 1 + 1 + 1 + 2, 0, none⟩)], .slice x.1.1 x.1.2.length x.1.2.length, undef, undef, undef, undef, undef, undef, undef, undef, undef, undef, undef, undef, undef, undef, undef, undef, undef, undef, undef, undef, undef, undef, undef, undef, undef, undef, undef, undef, undef, undef, undef], defers := [] }) ?assign ?body ?done ?stop
  case assign =>
    intro l x W R hR
    gi_wp2
    exact hR
  case body =>
    rintro l pre x W ⟨acc, v, hc⟩ hlt hpn
    have hal := foldS_length _ _ _ hc.fold
    simp only [List.length_nil, List.length_map, Nat.zero_add] at hal
    have HAL := Lib.hid (show acc.length ≤ 1073741824 by have := HD.out; omega)
    have HW0 := Lib.hid (show w.heap.size + 9 ≤ W.heap.size by have := HS0.out; omega)
    clear hal hpn
    have HC2 := Lib.hid hc
    obtain ⟨hc0, hc1, hc2, hf0, hf1, hf2⟩ := hc.cells
    have hxt := x.2.txt (H.out.below hc.below)
    clear hc
    by_cases ht : x.1.2 = []
    · have hl : x.1.2.length = 0 := by rw [ht]; rfl
      have HT := Lib.hid ht
      clear ht hxt
      gi_wp2
      exact ⟨Keep.refl _ _, pre, x, rfl, .inl ⟨rfl, HT.out, acc, v, HC2.out⟩⟩
    · have hps := piece_string hxt ht x.1.2.length
      have hl : ¬ x.1.2.length = 0 := fun e => ht (List.length_eq_zero_iff.1 e)
      have hlb : x.1.2.length ≤ 1073741824 := by obtain ⟨off, h1, _⟩ := x.2; have := HD.out; omega
      have HCS := Lib.hid (cutSuf_any x.1.2 W (by omega))
      have htl : (Lib.trimSuffix x.1.2 [0]).length ≤ 1073741824 := by
        unfold Lib.trimSuffix; split
        · rw [List.length_take]; omega
        · exact hlb
      have HCT := Lib.hid (cut_any (Lib.trimSuffix x.1.2 [0]) W (by omega))
      have hpp := pieceP_cut x.1.2 ht
      generalize Lib.hasSuffix x.1.2 [0] = wh at *
      generalize hts : Lib.trimSuffix x.1.2 [0] = ts at *
      obtain ⟨k, vv, ok, hcv⟩ : ∃ k vv ok, cutV ts = (k, vv, ok) := ⟨_, _, _, rfl⟩
      rw [hcv] at HCT hpp
      have HT := Lib.hid ht
      have HPP := Lib.hid hpp
      have HXT := Lib.hid hxt
      clear ht hxt hpp hts htl hcv
      cases wh with
      | false =>
        simp only [Bool.false_and, Bool.false_eq_true, if_false] at HPP
        gi_wp2_with (first
          | (refine ⟨trivial, ?_⟩; gi_at_call 21; refine (callsIn_wide.2 HCS.out).mono ?_; rintro e w4 ⟨rfl, rfl⟩)
          | (refine ⟨trivial, ?_⟩; gi_at_call 22; refine (callsIn_wide.2 HCT.out).mono ?_; rintro e w5 ⟨rfl, hb5⟩; have hp5 := HC2.out.lets (T := []) (by simp) (Upd.of_below hb5); obtain ⟨q0, q1, q2, g0, g1, g2⟩ := hp5.cells; have HP5 := Lib.hid hp5; have HB5 := Lib.hid hb5; clear hb5 hp5))
        obtain ⟨s1, s2, s3, s4⟩ := HP5.out.bad
        exact ⟨(Keep.of_upd (Upd.of_below HB5.out) (by simp)).trans HB5.out.size (Keep.of_upd s1 (by rw [HS0.out]; simp; omega)), pre, x, rfl, .inr ⟨rfl, HT.out, HPP.out, ⟨acc, HC2.out.fold⟩, s2, s3, s4⟩⟩
      | true =>
        cases ok with
        | false =>
          simp only [Bool.and_false, Bool.false_eq_true, if_false] at HPP
          gi_wp2_with (first
          | (refine ⟨trivial, ?_⟩; gi_at_call 21; refine (callsIn_wide.2 HCS.out).mono ?_; rintro e w4 ⟨rfl, rfl⟩)
          | (refine ⟨trivial, ?_⟩; gi_at_call 22; refine (callsIn_wide.2 HCT.out).mono ?_; rintro e w5 ⟨rfl, hb5⟩; have hp5 := HC2.out.lets (T := []) (by simp) (Upd.of_below hb5); obtain ⟨q0, q1, q2, g0, g1, g2⟩ := hp5.cells; have HP5 := Lib.hid hp5; have HB5 := Lib.hid hb5; clear hb5 hp5))
          obtain ⟨s1, s2, s3, s4⟩ := HP5.out.bad
          exact ⟨(Keep.of_upd (Upd.of_below HB5.out) (by simp)).trans HB5.out.size (Keep.of_upd s1 (by rw [HS0.out]; simp; omega)), pre, x, rfl, .inr ⟨rfl, HT.out, HPP.out, ⟨acc, HC2.out.fold⟩, s2, s3, s4⟩⟩
        | true =>
          simp only [Bool.and_true, if_true] at HPP
          gi_wp2_with (first
          | (refine ⟨trivial, ?_⟩; gi_at_call 21; refine (callsIn_wide.2 HCS.out).mono ?_; rintro e w4 ⟨rfl, rfl⟩)
          | (refine ⟨trivial, ?_⟩; gi_at_call 22; refine (callsIn_wide.2 HCT.out).mono ?_; rintro e w5 ⟨rfl, hb5⟩; have hp5 := HC2.out.lets (T := []) (by simp) (Upd.of_below hb5); obtain ⟨q0, q1, q2, g0, g1, g2⟩ := hp5.cells; have HP5 := Lib.hid hp5; have HB5 := Lib.hid hb5; clear hb5 hp5)
          | (gi_at_builtin; refine wpListIn_pushp rfl (.tmp 36) (.tmp 40) rfl rfl (HP5.out.own.alloc _) (k, vv) w5.heap.size 1 rfl (news_at _ [.string (txt k), .string (txt vv)] _) HAL.out (by have := HW0.out; have := HB5.out.size; simp; omega) ?_; rintro v6 w6 h6 ⟨c6, k6, rfl⟩ u6; have hd6 := HP5.out.grown ((Upd.refl [] _).alloc _) h6 u6; obtain ⟨z0, z1, z2, z3, z4, z5⟩ := hd6; have H6 := Lib.hid h6; have U6 := Lib.hid (show Upd v.ownBlock.toList _ _ from u6); clear h6 u6))
          have hst := HP5.out.step ((Upd.refl [] _).alloc (.cells [.string (txt k), .string (txt vv)].toArray 68)) x HT.out HPP.out H6.out U6.out
          have hb : ∀ x, x ∈ v.ownBlock.toList → w.heap.size + 9 ≤ x := ownsRow_block HP5.out.own
          have u1 : Upd ((w.heap.size + 1 + 1) :: v.ownBlock.toList) w5 w6 := ((Upd.refl [] w5).alloc (.cells [.string (txt k), .string (txt vv)].toArray 68)).mono (by simp) |>.trans (U6.out.mono fun x hx => List.mem_cons_of_mem _ hx)
          have u2 : Upd ((w.heap.size + 1 + 1) :: v.ownBlock.toList) w5 (w6.setCell ⟨w.heap.size + 1 + 1, 0, none⟩ (.slice c6 (acc.length + 1) k6)) := u1.setCell (.inl (by simp)) _
          refine ⟨(Keep.of_upd (Upd.of_below HB5.out) (by simp)).trans HB5.out.size (Keep.of_upd u2 fun y hy hk => ?_), Nat.le_trans HB5.out.size u2.size, _, _, hst⟩
          have h1 : y = w.heap.size + 1 + 1 ∨ w.heap.size + 9 ≤ y := by
            rcases List.mem_cons.1 hy with h | h
            · exact .inl h
            · exact .inr (hb y h)
          rw [HS0.out] at hk
          rcases hk with (hk | hk | ⟨hne, a, ha, rfl⟩) | hk | hk
          · unfold KBox at hk; omega
          · omega
          · have := HLT.out hne a ha; omega
          · omega
          · omega
  case done =>
    rintro xs W hS ⟨acc, v, hc⟩ hD
    have hpf := parse_done hc.fold hS
    have hl2 : acc.length = ([] : List Pr).length + (xs.map (·.1.2)).length → acc.length ≤ 140737488355328 := fun _ => by
      have := parseFrom_len hpf; have := HD.out; omega
    clear hS
    obtain ⟨p1, n1, c1, rfl⟩ := row_slice hc.own
    have HC2 := Lib.hid hc
    have HPF := Lib.hid hpf
    have HDD := Lib.hid hD
    have hal := foldS_length _ _ _ hc.fold
    obtain ⟨hc0, hc1, hc2, hf0, hf1, hf2⟩ := hc.cells
    have HM := Lib.hid (may_any (prs_of_row hc.own) (hl2 hal))
    clear hc hpf hD hal hl2
    cases hmay : mayP acc with
    | false =>
      have hpp : parseP d = none := by unfold parseP; rw [HPF.out]; simp [hmay]
      rw [hmay] at HM
      have HPP := Lib.hid hpp
      clear hmay hpp
      gi_wp2_with (refine ⟨trivial, ?_⟩; gi_at_call 23; refine (callsIn_wide.2 HM.out).mono ?_; rintro e w7 ⟨rfl, hb7⟩; have hp7 := HC2.out.lets (T := []) (by simp) (Upd.of_below hb7); obtain ⟨q0, q1, q2, g0, g1, g2⟩ := hp7.cells; have HP7 := Lib.hid hp7; have HB7 := Lib.hid hb7; clear hb7 hp7)
      obtain ⟨s1, s2, s3, s4⟩ := HP7.out.bad
      have hD2 := s1.get ((Upd.of_below HB7.out).get HDD.out (by simp)) (by rw [HS0.out]; simp)
      have u3 := upd_put ((w7.setCell ⟨w.heap.size, 0, none⟩ (.slice none 0 0)).setCell ⟨w.heap.size + 1, 0, none⟩ (.int .i64 43)) W0.heap.size (.deferred none)
      refine ⟨by simp, .inl ⟨_, _, rfl, run_takeDeferred hD2, ?_⟩⟩
      refine ⟨_, results_cell2 rfl _ rfl rfl (Tryz.isAgg44 _) (Tryz.isAgg45 _) ((cells_of (u3.get s2 (by rw [HS0.out]; simp))).1 0) ((cells_of (u3.get s3 (by rw [HS0.out]; simp))).1 0), ⟨.slice none 0 0, ?_, ?_⟩, s4.trans (u3.below s4.size (by rw [HS0.out]; simp))⟩
      · rw [HPP.out]; rfl
      · rw [HPP.out]; exact .inl ⟨rfl, rfl⟩
    | true =>
      have hpp : parseP d = some acc := by unfold parseP; rw [HPF.out]; simp [hmay]
      rw [hmay] at HM
      have HPP := Lib.hid hpp
      clear hmay hpp
      gi_wp2_with (refine ⟨trivial, ?_⟩; gi_at_call 23; refine (callsIn_wide.2 HM.out).mono ?_; rintro e w7 ⟨rfl, hb7⟩; have hp7 := HC2.out.lets (T := []) (by simp) (Upd.of_below hb7); obtain ⟨q0, q1, q2, g0, g1, g2⟩ := hp7.cells; have HP7 := Lib.hid hp7; have HB7 := Lib.hid hb7; clear hb7 hp7)
      obtain ⟨s1, s2, s3, s4, s5⟩ := HP7.out.good
      have hD2 := s1.get ((Upd.of_below HB7.out).get HDD.out (by simp)) (by rw [HS0.out]; simp)
      have u3 := upd_put ((w7.setCell ⟨w.heap.size, 0, none⟩ (.slice p1 n1 c1)).setCell ⟨w.heap.size + 1, 0, none⟩ (.int .i64 0)) W0.heap.size (.deferred none)
      refine ⟨by simp, .inl ⟨_, _, rfl, run_takeDeferred hD2, ?_⟩⟩
      refine ⟨_, results_cell2 rfl _ rfl rfl (Tryz.isAgg44 _) (Tryz.isAgg45 _) ((cells_of (u3.get s2 (by rw [HS0.out]; simp))).1 0) ((cells_of (u3.get s3 (by rw [HS0.out]; simp))).1 0), ⟨.slice p1 n1 c1, ?_, ?_⟩, s4.trans (u3.below s4.size (by rw [HS0.out]; simp))⟩
      · rw [HPP.out]; rfl
      · rw [HPP.out]; exact prs_of_row (ownsRow_upd s5 u3 (by rw [HS0.out]; simp))
  case stop =>
    rintro cc pre W hSp ⟨ys, x, rfl, ⟨rfl, hx, acc, v, hc⟩ | ⟨rfl, h2, h3, ⟨acc, h4⟩, h5, h6, h7⟩⟩ hD
    · have hpf := parse_stop hc.fold (by rw [List.map_append] at hSp; simpa [hx] using hSp)
      have hl2 : acc.length = ([] : List Pr).length + (ys.map (·.1.2)).length → acc.length ≤ 140737488355328 := fun _ => by
        have := parseFrom_len hpf; have := HD.out; omega
      clear hSp hx
      obtain ⟨p1, n1, c1, rfl⟩ := row_slice hc.own
      have HC2 := Lib.hid hc
      have HPF := Lib.hid hpf
      have HDD := Lib.hid hD
      have hal := foldS_length _ _ _ hc.fold
      obtain ⟨hc0, hc1, hc2, hf0, hf1, hf2⟩ := hc.cells
      have HM := Lib.hid (may_any (prs_of_row hc.own) (hl2 hal))
      clear hc hpf hD hal hl2
      cases hmay : mayP acc with
      | false =>
        have hpp : parseP d = none := by unfold parseP; rw [HPF.out]; simp [hmay]
        rw [hmay] at HM
        have HPP := Lib.hid hpp
        clear hmay hpp
        gi_wp2_with (refine ⟨trivial, ?_⟩; gi_at_call 23; refine (callsIn_wide.2 HM.out).mono ?_; rintro e w7 ⟨rfl, hb7⟩; have hp7 := HC2.out.lets (T := []) (by simp) (Upd.of_below hb7); obtain ⟨q0, q1, q2, g0, g1, g2⟩ := hp7.cells; have HP7 := Lib.hid hp7; have HB7 := Lib.hid hb7; clear hb7 hp7)
        obtain ⟨s1, s2, s3, s4⟩ := HP7.out.bad
        have hD2 := s1.get ((Upd.of_below HB7.out).get HDD.out (by simp)) (by rw [HS0.out]; simp)
        have u3 := upd_put ((w7.setCell ⟨w.heap.size, 0, none⟩ (.slice none 0 0)).setCell ⟨w.heap.size + 1, 0, none⟩ (.int .i64 43)) W0.heap.size (.deferred none)
        refine ⟨by simp, .inl ⟨_, _, rfl, run_takeDeferred hD2, ?_⟩⟩
        refine ⟨_, results_cell2 rfl _ rfl rfl (Tryz.isAgg44 _) (Tryz.isAgg45 _) ((cells_of (u3.get s2 (by rw [HS0.out]; simp))).1 0) ((cells_of (u3.get s3 (by rw [HS0.out]; simp))).1 0), ⟨.slice none 0 0, ?_, ?_⟩, s4.trans (u3.below s4.size (by rw [HS0.out]; simp))⟩
        · rw [HPP.out]; rfl
        · rw [HPP.out]; exact .inl ⟨rfl, rfl⟩
      | true =>
        have hpp : parseP d = some acc := by unfold parseP; rw [HPF.out]; simp [hmay]
        rw [hmay] at HM
        have HPP := Lib.hid hpp
        clear hmay hpp
        gi_wp2_with (refine ⟨trivial, ?_⟩; gi_at_call 23; refine (callsIn_wide.2 HM.out).mono ?_; rintro e w7 ⟨rfl, hb7⟩; have hp7 := HC2.out.lets (T := []) (by simp) (Upd.of_below hb7); obtain ⟨q0, q1, q2, g0, g1, g2⟩ := hp7.cells; have HP7 := Lib.hid hp7; have HB7 := Lib.hid hb7; clear hb7 hp7)
        obtain ⟨s1, s2, s3, s4, s5⟩ := HP7.out.good
        have hD2 := s1.get ((Upd.of_below HB7.out).get HDD.out (by simp)) (by rw [HS0.out]; simp)
        have u3 := upd_put ((w7.setCell ⟨w.heap.size, 0, none⟩ (.slice p1 n1 c1)).setCell ⟨w.heap.size + 1, 0, none⟩ (.int .i64 0)) W0.heap.size (.deferred none)
        refine ⟨by simp, .inl ⟨_, _, rfl, run_takeDeferred hD2, ?_⟩⟩
        refine ⟨_, results_cell2 rfl _ rfl rfl (Tryz.isAgg44 _) (Tryz.isAgg45 _) ((cells_of (u3.get s2 (by rw [HS0.out]; simp))).1 0) ((cells_of (u3.get s3 (by rw [HS0.out]; simp))).1 0), ⟨.slice p1 n1 c1, ?_, ?_⟩, s4.trans (u3.below s4.size (by rw [HS0.out]; simp))⟩
        · rw [HPP.out]; rfl
        · rw [HPP.out]; exact prs_of_row (ownsRow_upd s5 u3 (by rw [HS0.out]; simp))
    · have hpf := parse_bad h4 h2 h3 (by rw [List.map_append] at hSp; exact hSp)
      have HPP := Lib.hid (show parseP d = none by unfold parseP; rw [hpf])
      clear hSp h2 h3 h4 hpf
      gi_wp2
      have u3 := upd_put W W0.heap.size (.deferred none)
      refine ⟨by simp, .inl ⟨_, _, rfl, run_takeDeferred hD, ?_⟩⟩
      refine ⟨_, results_cell2 rfl _ rfl rfl (Tryz.isAgg44 _) (Tryz.isAgg45 _) ((cells_of (u3.get h5 (by rw [HS0.out]; simp))).1 0) ((cells_of (u3.get h6 (by rw [HS0.out]; simp))).1 0), ⟨.slice none 0 0, ?_, ?_⟩, h7.trans (u3.below h7.size (by rw [HS0.out]; simp))⟩
      · rw [HPP.out]; rfl
      · rw [HPP.out]; exact .inl ⟨rfl, rfl⟩
end Go.Proofs.YtlhdjgibkiffaaaGreatDoor
