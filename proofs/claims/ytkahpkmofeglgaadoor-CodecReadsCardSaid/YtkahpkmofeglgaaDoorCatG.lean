/-
  PROVED HERE: GetCatalogue of package codec, of any bytes. Conditions: the bytes can be read.
-/
import Derived.Test.YtkahpkmofeglgaaDoorCatW
import Derived.Test.YtkahpkmofeglgaaDoorNodeG
namespace Go.Proofs.YtkahpkmofeglgaaDoor
open Go.RowKit

theorem putCat_any {w : World} {a a' : Option Addr} {cap cap' : Nat} {c : Cat} (hb : IsVols w a c.vols) (hb' : IsInts w a' c.stack) (hl : c.vols.length ≤ 9223372036854775807) (hl' : c.stack.length ≤ 9223372036854775807) :
    Calls Tryd.prog 39 #[catV c (.slice a c.vols.length cap) (.slice a' c.stack.length cap')] w fun e w' => PutOut w.heap.size (putCat c) e w' ∧ Upd [] w w' := by
  cases ho : okCat0 c
  · exact putCat_no c ho hl hl'
  · exact putCat_yes hb hb' ho
def volCells (l : List Vol) : List Value := l.flatMap Vol.vals
theorem volCells_len (l : List Vol) : (volCells l).length = l.length * 6 := by
  unfold volCells
  rw [List.length_flatMap]
  induction l with
  | nil => rfl
  | cons a l ih => simp [Vol.vals] at ih ⊢; omega
theorem volCells_get (l : List Vol) (i j : Nat) (hi : i < l.length) (u : Value) (h : l[i].vals[j]? = some u) : (volCells l)[i * 6 + j]? = some u := by
  have hj : j < 6 := by
    rcases Nat.lt_or_ge j 6 with h1 | h1
    · exact h1
    · rw [List.getElem?_eq_none (by simpa [Vol.vals] using h1)] at h; cases h
  have e : volCells l = volCells (l.take i) ++ (l[i].vals ++ volCells (l.drop (i + 1))) := by
    unfold volCells
    rw [← List.flatMap_cons (x := l[i]), ← List.flatMap_append, ← List.drop_eq_getElem_cons hi, List.take_append_drop]
  have hl : (volCells (l.take i)).length = i * 6 := by rw [volCells_len, List.length_take, Nat.min_eq_left (by omega)]
  rw [e, List.getElem?_append_right (by omega), hl, Nat.add_sub_cancel_left, List.getElem?_append_left (by simpa [Vol.vals] using hj)]
  exact h
/-- The value v is a slice of the call's own that holds the volumes l. -/
def VolsOut (w : World) (B : Nat) (v : Value) (l : List Vol) : Prop := w.ownsRow B 129 6 v l.length (volCells l)
theorem VolsOut.nil (w : World) (B : Nat) : VolsOut w B (.slice none 0 0) [] := ⟨rfl, .inl ⟨rfl, rfl⟩⟩
theorem VolsOut.upd {w w' : World} {B : Nat} {v : Value} {l : List Vol} {S : List Nat} (h : VolsOut w B v l) (u : Upd S w w') (hs : ∀ x ∈ v.ownBlock.toList, x ∉ S) : VolsOut w' B v l := ownsRow_upd h u hs
theorem VolsOut.base {w : World} {B C : Nat} {v : Value} {l : List Vol} (h : VolsOut w B v l) (hC : C ≤ B) : VolsOut w C v l := by
  obtain ⟨hl, ⟨rfl, h0⟩ | ⟨g, cap, cur, rfl, hg, r⟩⟩ := h
  · exact ⟨hl, .inl ⟨rfl, h0⟩⟩
  · exact ⟨hl, .inr ⟨g, cap, cur, rfl, Nat.le_trans hC hg, r⟩⟩
theorem VolsOut.low {w : World} {B : Nat} {v : Value} {l : List Vol} (h : VolsOut w B v l) : ∀ x ∈ v.ownBlock.toList, B ≤ x ∧ x < w.heap.size := by
  intro x hx
  obtain ⟨hl, ⟨rfl, h0⟩ | ⟨g, cap, cur, rfl, hg, hb, r⟩⟩ := h
  · simp [Value.ownBlock] at hx
  · obtain rfl : x = g := by simpa [Value.ownBlock] using hx
    exact ⟨hg, lt_of_block hb⟩
theorem VolsOut.slice {w : World} {B : Nat} {v : Value} {l : List Vol} (h : VolsOut w B v l) : ∃ a cap, v = .slice a l.length cap ∧ IsVols w a l := by
  obtain ⟨hl, ⟨rfl, h0⟩ | ⟨g, cap, cur, rfl, hg, hb, hc, hm, hs, ht⟩⟩ := h
  · exact ⟨none, 0, by rw [h0], fun i hi => by omega⟩
  · refine ⟨some ⟨g, 0, none⟩, cap, rfl, fun i hi => ⟨g, 0, rfl, fun j u hj => ?_⟩⟩
    rw [(cells_of hb).1, Nat.zero_add]
    have h1 := volCells_get l i j hi u hj
    have hlt : i * 6 + j < l.length * 6 := by
      rcases Nat.lt_or_ge (i * 6 + j) (l.length * 6) with h2 | h2
      · exact h2
      · rw [List.getElem?_eq_none (by rw [volCells_len]; exact h2)] at h1; cases h1
    have e : (cur.toList.take (l.length * 6))[i * 6 + j]? = (volCells l)[i * 6 + j]? := by rw [ht]
    rw [List.getElem?_take_of_lt hlt, h1] at e
    simpa using e
theorem infoVolz : (Tryd.prog.info? 129).map (fun i => (i.zero, i.size, i.bytes)) = some (some (.agg #[.int .i64 0, .int .i64 0, .int .i64 0, .int .i64 0, .int .i64 0, .int .i64 0]), 6, 48) := by kernel_rfl
/-- One volume more, as a step of a region that draws its order; the slice known in an earlier world. -/
theorem step_pushv {w w0 : World} {S0 : List Nat} {ops : Array Oper} {o : Oper} {a : Act} {K : Act → World → Prop} {Q : Exit → Act → World → Prop} {E : Prop} (hgd : o.guard = none) (s x : Operand)
    (ho : o.op = .call { callee := .builtin .append, args := #[s, x], argTypes := #[73, 73] }) {B : Nat} {v : Value} {l : List Vol} (hs : a.eval s = v) (u : Upd S0 w0 w) (hown : VolsOut w0 B v l) (hd : ∀ y ∈ v.ownBlock.toList, y ∉ S0)
    (g : Nat) (c : Nat) (n : Vol) (hx : a.eval x = .slice (some ⟨g, 0, none⟩) 1 c) (hc : ∀ j y, n.vals[j]? = some y → w.cell? ((⟨g, 0, none⟩ : Addr).add j) = some y) (hr : l.length ≤ 1000000) (hB : B ≤ w0.heap.size)
    (h : ∀ a' n' c' w', VolsOut w' B (.slice a' n' c') (l ++ [n]) → Mine v w (.slice a' n' c') w' → (∀ y ∈ (Value.slice a' n' c').ownBlock.toList, y ∈ v.ownBlock.toList ∨ w0.heap.size ≤ y) → K (a.put o.dst (.slice a' n' c')) w') :
    if Region.wanted o (yielded ops a.tmps) = true then Oper.wp Tryd.prog o a w K Q else E := by
  have hw : Region.wanted o (yielded ops a.tmps) = true := by simp [Region.wanted, hgd]
  rw [if_pos hw]
  obtain ⟨i0, hi, hz0, hz1, hz2⟩ := info_parts infoVolz
  obtain ⟨v', w', hrun, h2, h3⟩ := run_append_blk (P := Tryd.prog) w B 73 o.type 129 i0 (.agg #[.int .i64 0, .int .i64 0, .int .i64 0, .int .i64 0, .int .i64 0, .int .i64 0]) 6 48 Tryd.underlying73 hi hz0 hz1 hz2 rfl (by decide) v _ _ (hown.upd u hd) ⟨g, 0, none⟩ 1 c n.vals rfl hc (by simp [Vol.vals, Value.oneCell']) (by unfold maxLen; omega) (by omega) (Nat.le_trans hB u.size)
  have ho' : VolsOut w' B v' (l ++ [n]) := by
    unfold VolsOut
    rw [List.length_append, show volCells (l ++ [n]) = volCells l ++ n.vals by simp [volCells]]
    exact h2
  obtain ⟨a', c', e, _⟩ := ho'.slice
  subst e
  generalize (l ++ [n]).length = n' at ho' h3 hrun
  unfold Oper.wp
  simp [execOp, ho, resolve, invoke, builtin, hs, hx, hrun, Result.andThen]
  exact h _ _ _ _ ho' h3 (fun y hy => (h3.blk y hy).imp id (fun h => Nat.le_trans u.size h))
def cat0 : Cat := ⟨0, [], []⟩
/-- What reading a catalogue hands back. -/
def CatRes (B : Nat) (o : Option Cat) (e : Ending) (w' : World) : Prop := ∃ v s, e = .returned (.tuple #[catV (o.getD cat0) v s, .bool o.isSome]) ∧ VolsOut w' B v (o.getD cat0).vols ∧ IntsOut w' B s (o.getD cat0).stack
theorem CatRes.no (B : Nat) (w : World) : CatRes B none (.returned (.tuple #[.agg #[.int .i64 0, .slice none 0 0, .slice none 0 0], .bool false])) w := ⟨.slice none 0 0, .slice none 0 0, rfl, VolsOut.nil w B, IntsOut.nil w B⟩
theorem infoCat : (Tryd.prog.info? 75).map (·.size) = some 3 := by kernel_rfl
theorem buildCat0 (w : World) : (Instr.build 75 #[]).run Tryd.prog w = .ok (.agg #[.int .i64 0, .slice none 0 0, .slice none 0 0]) w := run_build w _ _ _ (by kernel_rfl)
theorem buildCat (n : Int) (w : World) : (Instr.build 75 #[(0, .int .i64 n)]).run Tryd.prog w = .ok (.agg #[.int .i64 n, .slice none 0 0, .slice none 0 0]) w := run_build w _ _ _ (by kernel_rfl)
theorem buildVol (i s z q r m : Int) (w : World) : (Instr.build 129 #[(0, .int .i64 i), (1, .int .i64 s), (2, .int .i64 z), (3, .int .i64 q), (4, .int .i64 r), (5, .int .i64 m)]).run Tryd.prog w = .ok (.agg #[.int .i64 i, .int .i64 s, .int .i64 z, .int .i64 q, .int .i64 r, .int .i64 m]) w := run_build w _ _ _ (by kernel_rfl)
/-- A catalogue that is being read: its block, the volumes and the stack so far. -/
def HalfC (w : World) (cb : Nat) (N : Int) (vs : List Vol) (st : List Int) : Prop := ∃ v s, w.heap[cb]? = some (.cells #[.int .i64 N, v, s] 75 (0, 0)) ∧ VolsOut w (cb + 1) v vs ∧ IntsOut w (cb + 1) s st ∧ ∀ x ∈ v.ownBlock.toList, x ∉ s.ownBlock.toList
theorem leafS {wc w8 : World} {cb : Nat} {N : Int} {vs : List Vol} {st : List Int} {v s s8 : Value} (hcb : wc.heap[cb]? = some (.cells #[.int .i64 N, v, s] 75 (0, 0))) (hv : VolsOut wc (cb + 1) v vs) (hs : ∀ y ∈ s.ownBlock.toList, cb + 1 ≤ y) (N8 : IntsOut w8 (cb + 1) s8 st) (M8 : Mine s wc s8 w8) (hd : ∀ y ∈ v.ownBlock.toList, y ∉ s.ownBlock.toList) :
    HalfC (w8.setCell ⟨cb, 2, none⟩ s8) cb N vs st ∧ Upd (cb :: s.ownBlock.toList) wc (w8.setCell ⟨cb, 2, none⟩ s8) := by
  have hb8 := M8.upd.get hcb (fun h => by have := hs _ h; omega)
  have h2 := heap_setCell_same w8 cb 2 _ _ s8 hb8
  have us : Upd [cb] w8 (w8.setCell ⟨cb, 2, none⟩ s8) := (Upd.refl _ _).setCell (.inl (by simp)) _
  refine ⟨⟨v, s8, h2, (hv.upd M8.upd hd).upd us (fun y hy hy2 => by have := (hv.low y hy).1; simp at hy2; omega), N8.upd us (fun y hy hy2 => by have := (N8.low y hy).1; simp at hy2; omega), fun y hy hy2 => ?_⟩, (M8.upd.mono (fun y hy => by simp [hy])).trans (us.mono (fun y hy => by simp at hy; simp [hy]))⟩
  rcases M8.blk y hy2 with h | h
  · exact hd y hy h
  · have := (hv.low y hy).2; omega
theorem leafV {wc w8 : World} {cb : Nat} {N : Int} {vs : List Vol} {st : List Int} {v s v8 : Value} (hcb : wc.heap[cb]? = some (.cells #[.int .i64 N, v, s] 75 (0, 0))) (hst : IntsOut wc (cb + 1) s st) (hv : ∀ y ∈ v.ownBlock.toList, cb + 1 ≤ y) (N8 : VolsOut w8 (cb + 1) v8 vs) (M8 : Mine v wc v8 w8) (hd : ∀ y ∈ v.ownBlock.toList, y ∉ s.ownBlock.toList) :
    HalfC (w8.setCell ⟨cb, 1, none⟩ v8) cb N vs st ∧ Upd (cb :: v.ownBlock.toList) wc (w8.setCell ⟨cb, 1, none⟩ v8) := by
  have hb8 := M8.upd.get hcb (fun h => by have := hv _ h; omega)
  have h2 := heap_setCell_same w8 cb 1 _ _ v8 hb8
  have us : Upd [cb] w8 (w8.setCell ⟨cb, 1, none⟩ v8) := (Upd.refl _ _).setCell (.inl (by simp)) _
  refine ⟨⟨v8, s, h2, N8.upd us (fun y hy hy2 => by have := (N8.low y hy).1; simp at hy2; omega), (hst.upd M8.upd (fun y hy hy2 => hd y hy2 hy)).upd us (fun y hy hy2 => by have := (hst.low y hy).1; simp at hy2; omega), fun y hy hy2 => ?_⟩, (M8.upd.mono (fun y hy => by simp [hy])).trans (us.mono (fun y hy => by simp at hy; simp [hy]))⟩
  rcases M8.blk y hy with h | h
  · exact hd y h hy2
  · have := (hst.low y hy2).2; omega
theorem HalfC.upd {w w' : World} {cb : Nat} {N : Int} {vs : List Vol} {st : List Int} {S : List Nat} (h : HalfC w cb N vs st) (u : Upd S w w') (hs : ∀ y ∈ S, y < cb) : HalfC w' cb N vs st := by
  obtain ⟨v, s, h1, h2, h3, h4⟩ := h
  exact ⟨v, s, u.get h1 (fun h => Nat.lt_irrefl _ (hs _ h)), h2.upd u (fun y hy hy2 => by have := (h2.low y hy).1; have := hs y hy2; omega), h3.upd u (fun y hy hy2 => by have := (h3.low y hy).1; have := hs y hy2; omega), h4⟩
theorem get_seg {w : World} {r : Nat} {q : Option Nat} {l : List Nat} (h240 : l.length = 240) (a k : Nat) (ki : Int) (hki : ki = (k : Int)) (ha : a + k ≤ 240) (hk : k ≤ 8) (h : IsRd w r q (l.drop a)) :
    Calls Tryd.prog 60 #[pt r, .int .i64 ki] w fun e w' => e = .returned (.int .i64 (numi (seg l a k))) ∧ IsRd w' r q (l.drop (a + k)) ∧ Upd [r] w w' := by
  have := get_k k ki hki h hk (by rw [List.length_drop]; omega)
  rw [List.drop_drop, ← seg_eq (by omega)] at this
  exact this
set_option maxRecDepth 100000 in
set_option maxHeartbeats 1600000 in
theorem getCat_len {w : World} {a : Option Addr} {n cap : Nat} (h : ¬ (n : Int) = 240) :
    Calls Tryd.prog 42 #[.slice a n cap] w fun e w' => CatRes w.heap.size none e w' ∧ Upd [] w w' := by
  have hbd := buildCat0
  have hd : ((n : Int) != 240) = true := by simpa using h
  have hx0 := ((Upd.refl [] _).alloc (.cells #[.int .i64 0, .slice none 0 0, .slice none 0 0] 75)).get (heap_alloc_new w (.cells #[.int .i64 0, .slice none 0 0, .slice none 0 0] 75)) (by simp)
  have hx1 := heap_alloc_new (w.alloc (.cells #[.int .i64 0, .slice none 0 0, .slice none 0 0] 75)) (.cells #[.int .i64 0, .slice none 0 0, .slice none 0 0] 75)
  rw [show (w.alloc (.cells #[.int .i64 0, .slice none 0 0, .slice none 0 0] 75)).heap.size = w.heap.size + 1 by simp] at hx1
  have HX0 := Lib.hid hx0
  have HX1 := Lib.hid hx1
  have HU := Lib.hid (((Upd.refl [] w).alloc (.cells #[.int .i64 0, .slice none 0 0, .slice none 0 0] 75)).alloc (.cells #[.int .i64 0, .slice none 0 0, .slice none 0 0] 75))
  clear hx0 hx1
  go_enter Tryd.func42, Tryd.ntmps42
  go_wp2_with (first
    | (refine wpList_load_all rfl 75 (.tmp 4) rfl (w.heap.size + 1) 3 rfl _ _ _ _ HX1.out Tryd.underlying75 rfl infoCat rfl ?_)
    | (refine wpList_store_all rfl 75 (.tmp 2) (.tmp 14) rfl w.heap.size _ rfl rfl _ _ HX0.out infoCat rfl (by kernel_rfl) ?_; intro w2 hg2 hu2 _; have G2 := Lib.hid hg2; have U2 := Lib.hid hu2; clear hg2 hu2))
  refine bodyPost_ret (results_block_tmp Tryd.results42 _ _ w.heap.size 3 _ _ _ _ rfl G2.out Tryd.underlying75 rfl infoCat rfl) rfl ⟨CatRes.no _ _, HU.out.step U2.out (fun x hx => .inr (by simp at hx; omega))⟩
theorem getCat_gap {l : List Nat} {k : Nat} (hk : k < 8 - catCount l) (h : ¬ numi (seg l (5 + 2 * (catCount l + k)) 2) = 0) : getCat l = none := by
  have : gap l (catCount l) = false := by
    unfold gap
    rw [List.all_eq_false]
    exact ⟨k, List.mem_range.2 hk, by simpa using h⟩
  unfold getCat
  rw [this]; simp
theorem gap_all {l : List Nat} {n : Nat} (h : ∀ k, k < 8 - n → numi (seg l (5 + 2 * (n + k)) 2) = 0) : gap l n = true := by
  unfold gap
  rw [List.all_eq_true]
  intro k hk
  rw [decide_eq_true_eq]
  exact h k (List.mem_range.1 hk)
set_option maxRecDepth 100000 in
set_option maxHeartbeats 6400000 in
theorem getCat_240 {w : World} {b o : Nat} {l : List Nat} {cap : Nat} (hb : IsBytes w (some ⟨b, o, none⟩) l) (hc : l.length ≤ cap) (hm : cap ≤ 9223372036854775807) (h240 : l.length = 240) :
    Calls Tryd.prog 42 #[.slice (some ⟨b, o, none⟩) 240 cap] w fun e w' => CatRes w.heap.size (getCat l) e w' ∧ Upd [] w w' := by
  have hbl : b < w.heap.size := World.block_lt_of_cell? _ _ (hb.at 0 (by omega))
  have hX0 := ((Upd.refl [] _).alloc (.cells #[.int .i64 0, .slice none 0 0, .slice none 0 0] 75)).get (heap_alloc_new w (.cells #[.int .i64 0, .slice none 0 0, .slice none 0 0] 75)) (by simp)
  have hX1 := heap_alloc_new (w.alloc (.cells #[.int .i64 0, .slice none 0 0, .slice none 0 0] 75)) (.cells #[.int .i64 0, .slice none 0 0, .slice none 0 0] 75)
  rw [show (w.alloc (.cells #[.int .i64 0, .slice none 0 0, .slice none 0 0] 75)).heap.size = w.heap.size + 1 by simp] at hX1
  have hU0 := ((Upd.refl [] w).alloc (.cells #[.int .i64 0, .slice none 0 0, .slice none 0 0] 75)).alloc (.cells #[.int .i64 0, .slice none 0 0, .slice none 0 0] 75)
  have hz2 : ((w.alloc (.cells #[.int .i64 0, .slice none 0 0, .slice none 0 0] 75)).alloc (.cells #[.int .i64 0, .slice none 0 0, .slice none 0 0] 75)).heap.size = w.heap.size + 2 := by simp
  have hR : IsRd (((w.alloc (.cells #[.int .i64 0, .slice none 0 0, .slice none 0 0] 75)).alloc (.cells #[.int .i64 0, .slice none 0 0, .slice none 0 0] 75)).alloc (.cells #[.slice (some ⟨b, o, none⟩) 240 cap] 117)) (w.heap.size + 2) (some b) l := by
    have hn := heap_alloc_new ((w.alloc (.cells #[.int .i64 0, .slice none 0 0, .slice none 0 0] 75)).alloc (.cells #[.int .i64 0, .slice none 0 0, .slice none 0 0] 75)) (.cells #[.slice (some ⟨b, o, none⟩) 240 cap] 117)
    rw [hz2] at hn
    exact ⟨⟨some ⟨b, o, none⟩, cap, by rw [h240]; exact hn, hb.upd (hU0.alloc _) (by simp), hc, by unfold maxLen; omega, by rintro b' o' ⟨⟩; rfl⟩, by intro e; simp only [Option.some.injEq] at e; omega⟩
  have hRA := (Upd.refl [] ((w.alloc (.cells #[.int .i64 0, .slice none 0 0, .slice none 0 0] 75)).alloc (.cells #[.int .i64 0, .slice none 0 0, .slice none 0 0] 75))).alloc (.cells #[.slice (some ⟨b, o, none⟩) 240 cap] 117)
  have hbig : ¬ catCount l ≤ 8 → getCat l = none := fun h => by unfold getCat; rw [decide_eq_false h]; simp
  have HBIG := Lib.hid hbig
  have HGAP := Lib.hid (fun k hk h => getCat_gap (l := l) (k := k) hk h)
  have hno : okCat (catOf l (catCount l)) = false → getCat l = none := fun h => by unfold getCat; rw [h]; simp
  have HNO := Lib.hid hno
  have hyes : catCount l ≤ 8 → gap l (catCount l) = true → okCat (catOf l (catCount l)) = true → getCat l = if bare (l.drop 173) then some (catOf l (catCount l)) else none := by
    intro h1 h2 h3; unfold getCat; rw [decide_eq_true h240, decide_eq_true h1, h2, h3, Bool.true_and, Bool.true_and, Bool.true_and, Bool.true_and]
  have HGY := Lib.hid hyes
  have HR := Lib.hid hR
  have HRA := Lib.hid hRA
  have HL := Lib.hid h240
  have HBL := Lib.hid hbl
  have HCN := Lib.hid (show numi (seg l 4 1) = (catCount l : Int) from seg_nat hb.1 4 1 (by decide))
  have hbd := fun w => buildRd (some ⟨b, o, none⟩) 240 cap w
  have hbd0 := buildCat0
  have HU0 := Lib.hid hU0
  have HX0 := Lib.hid hX0
  have HX1 := Lib.hid hX1
  have HZ2 := Lib.hid hz2
  have hsg : ∀ i k, i + k ≤ 240 → (l.drop i).take k = seg l i k := fun i k h => (seg_eq (by rw [h240]; exact h)).symm
  have HSG := Lib.hid hsg
  clear hb hc h240 hbl hX0 hU0 hR hyes hX1 hsg hbig hno hz2 hRA
  go_enter Tryd.func42, Tryd.ntmps42
  go_wp2_with fail
  refine (get_k 4 4 rfl HR.out (by decide) (by rw [HL.out]; decide)).mono ?_
  rintro e w2 ⟨rfl, r2, u2⟩
  rw [show l.take 4 = seg l 0 4 from HSG.out 0 4 (by decide)]
  obtain ⟨W2, hW2⟩ : ∃ W2, (w.alloc (.cells #[.int .i64 0, .slice none 0 0, .slice none 0 0] 75)).alloc (.cells #[.int .i64 0, .slice none 0 0, .slice none 0 0] 75) = W2 := ⟨_, rfl⟩
  rw [hW2] at HU0 HX0 HX1 HZ2 HRA u2
  have u2b := HRA.out.step u2 (fun x hx => .inr (by have := HZ2.out; simp at hx; omega))
  have hw3 : w.heap.size + 2 < w2.heap.size := by
    obtain ⟨⟨_, _, hrb, _⟩, _⟩ := r2
    exact lt_of_block hrb
  obtain ⟨N, hN⟩ : ∃ N, numi (seg l 0 4) = N := ⟨_, rfl⟩
  rw [hN]
  have HNE := Lib.hid hN
  have HW3 := Lib.hid hw3
  have R2 := Lib.hid (r2.upd ((Upd.refl [] w2).alloc (.cells #[.int .i64 N, .slice none 0 0, .slice none 0 0] 75)) (by simp) (by simp))
  have U2 := Lib.hid (u2b.alloc (.cells #[.int .i64 N, .slice none 0 0, .slice none 0 0] 75))
  have HP2 := Lib.hid (heap_alloc_new w2 (.cells #[.int .i64 N, .slice none 0 0, .slice none 0 0] 75))
  have hbl1 := fun w => buildCat N w
  clear r2 u2 u2b HR HRA hW2 hN hw3
  go_wp2_with fail
  refine (get_k 1 1 rfl R2.out (by decide) (by rw [List.length_drop, HL.out]; decide)).mono ?_
  rintro e w3 ⟨rfl, r3, u3⟩
  rw [HSG.out 4 1 (by decide), HCN.out]
  rw [List.drop_drop] at r3
  have R3 := Lib.hid r3
  have U3 := Lib.hid (U2.out.step u3 (fun x hx => .inr (by have := HZ2.out; simp at hx; omega)))
  have HP3 := Lib.hid (u3.get HP2.out (by have := HW3.out; simp; omega))
  clear r3 u3 R2 U2 HP2
  by_cases h8 : catCount l ≤ 8
  rotate_left
  · have HG := Lib.hid (HBIG.out h8)
    have d1 : decide (8 < (catCount l : Int)) = true := decide_eq_true (by omega)
    have HY0 := Lib.hid (U3.out.get HX0.out (by simp))
    have HY1 := Lib.hid (U3.out.get HX1.out (by simp))
    clear h8
    go_wp2_with (first
      | (refine wpList_load_all rfl 75 (.tmp 4) rfl (w.heap.size + 1) 3 rfl _ _ _ _ HY1.out Tryd.underlying75 rfl infoCat rfl ?_)
      | (refine wpList_store_all rfl 75 (.tmp 2) (.tmp 22) rfl w.heap.size _ rfl rfl _ _ HY0.out infoCat rfl (by kernel_rfl) ?_; intro w6 hg6 hu6 _; have G6 := Lib.hid hg6; have U6 := Lib.hid hu6; clear hg6 hu6))
    refine bodyPost_ret (results_block_tmp Tryd.results42 _ _ w.heap.size 3 _ _ _ _ rfl G6.out Tryd.underlying75 rfl infoCat rfl) rfl ⟨by rw [HG.out]; exact CatRes.no _ _, (HU0.out.trans U3.out).step U6.out (fun x hx => .inr (by simp at hx; omega))⟩
  have d1 : decide (8 < (catCount l : Int)) = false := decide_eq_false (by omega)
  have HG8 := Lib.hid (HGY.out h8)
  obtain ⟨n, hn⟩ : ∃ n, catCount l = n := ⟨_, rfl⟩
  rw [hn] at h8 d1 HNO HG8 HGAP ⊢
  clear HBIG HGY HCN hn
  have hsub : IntKind.i64.wrap (8 - (n : Int)) = ((8 - n : Nat) : Int) := by rw [IntWalk.i64_in _ (by omega)]; omega
  have HP3b := Lib.hid (show HalfC w3 w2.heap.size N [] (stackOf l 0) from ⟨_, _, HP3.out, VolsOut.nil _ _, by simpa [stackOf] using IntsOut.nil w3 (w2.heap.size + 1), by simp [Value.ownBlock]⟩)
  go_wp2_with fail
  go_loopw [24] (fun i wr => ∃ k : Nat, k ≤ n ∧ i = .int .i64 k ∧ IsRd wr (w.heap.size + 2) (some b) (l.drop (5 + 2 * k)) ∧ HalfC wr w2.heap.size N [] (stackOf l k) ∧ Upd [] W2 wr) (fun i _ => n - (intOf i).toNat)
  case atStart => exact ⟨0, by omega, rfl, R3.out, HP3b.out, U3.out⟩
  case round =>
    obtain ⟨k, hk, rfl, hR, hF, hU⟩ := hrel
    have HU := Lib.hid hU
    have HRD := Lib.hid hR
    have HF := Lib.hid hF
    clear hR hF hU
    have hw3 := HW3.out
    by_cases hlt7 : k < n
    · obtain ⟨v, s, hcb, hvo, hio, hdis⟩ := HF.out
      obtain ⟨av, cv, rfl, _⟩ := hvo.slice
      obtain ⟨ap, cp, rfl, _, _, _, _⟩ := hio.slice
      have HLK := Lib.hid (show (stackOf l k).length ≤ 10000000000000 by rw [stackOf_len]; omega)
      generalize (stackOf l k).length = ns at hcb hio hdis
      have hget := get_k 2 2 rfl (HRD.out.upd (Upd.refl [] wr).drew (by simp) (by simp)) (by decide) (by rw [List.length_drop, HL.out]; omega)
      rw [HSG.out (5 + 2 * k) 2 (by omega), List.drop_drop, show 5 + 2 * k + 2 = 5 + 2 * (k + 1) by omega] at hget
      have HSK := Lib.hid (stackOf_succ l k)
      generalize numi (seg l (5 + 2 * k) 2) = x at hget HSK
      have HGET := Lib.hid hget
      have HCB := Lib.hid hcb
      have HVO := Lib.hid hvo
      have HIO := Lib.hid hio
      have HDIS := Lib.hid hdis
      have hblk : ∀ S wx, Upd S wr wx → (∀ y ∈ S, y ≠ w2.heap.size) → wx.heap[w2.heap.size]? = some (.cells #[.int .i64 N, .slice av 0 cv, .slice ap ns cp] 75 (0, 0)) := fun S wx u h => u.get hcb (fun hm => h _ hm rfl)
      have HBLK := Lib.hid hblk
      have hcel : ∀ S wx, Upd S wr wx → (∀ y ∈ S, y ≠ w2.heap.size) → wx.cell? ⟨w2.heap.size, 2, none⟩ = some (.slice ap ns cp) ∧ wx.frozen? ⟨w2.heap.size, 2, none⟩ = false := fun S wx u h => by
        obtain ⟨k1, k2⟩ := cells_of (hblk S wx u h)
        exact ⟨k1 2, k2 2⟩
      have HCEL := Lib.hid hcel
      have hsz := lt_of_block hcb
      obtain ⟨p0, f0⟩ := hcel [] wr (Upd.refl _ _) (by simp)
      have HOS : Hid (∀ y ∈ (Value.slice ap ns cp).ownBlock.toList ++ [w.heap.size + 2], y ≠ w2.heap.size) := fun y hy => by
        rcases List.mem_append.1 hy with h | h
        · have := (hio.low y h).1; omega
        · simp at h; omega
      clear hget hcb hvo hio hdis hblk hcel
      go_upto_region 11 with fail
      go_region_law (first
        | (go_simp; go_at_call 60; refine HGET.out.mono ?_; rintro e y1 ⟨rfl, r1, u1⟩; have RD1 := Lib.hid r1; have hud := (Upd.refl [w.heap.size + 2] wr).drew.trans u1; have UD1 := Lib.hid hud; obtain ⟨p1, f1⟩ := HCEL.out _ _ hud (by simp; omega); have hsz1 := Nat.lt_of_lt_of_le hsz hud.size; clear r1 u1 hud)
        | (refine step_pushi2 (w0 := y1) (S0 := []) rfl (.tmp 27) (.tmp 29) rfl (v := .slice ap ns cp) (l := stackOf l k) rfl ?uk (HIO.out.upd UD1.out (fun y hy hy2 => by have := HIO.out.low y hy; simp at hy2; omega)) (fun y _ h => by cases h) _ _ x rfl ?ck HLK.out hsz1 ?_; (case uk => exact (Upd.refl _ _).alloc _); (case ck => exact new4 _ _); intro a7 n7 c7 w7 hn7 hm7 hu7 hb7; have N7 := Lib.hid hn7; have M7 := Lib.hid hm7; obtain ⟨p2, f2⟩ := HCEL.out _ _ ((UD1.out.mono (T := (Value.slice ap ns cp).ownBlock.toList ++ [w.heap.size + 2]) (fun y hy => by simp at hy; simp [hy])).trans ((hu7.mono (fun y hy => by simp at hy; simp [hy])))) HOS.out; have hsz7 := Nat.lt_of_lt_of_le hsz1 hu7.size; clear hn7 hm7 hu7 hb7))
      all_goals
        go_wp2
        go_roundw
        case rel =>
          have hx1 := ((Upd.refl [] y1).alloc (.cells #[.int .i64 x] 3))
          have hy1 := UD1.out.trans (hx1.mono (T := [w.heap.size + 2]) (by simp))
          have hl := leafS (HBLK.out _ _ hy1 (by simp; omega)) (HVO.out.upd hy1 (fun y hy hy2 => by have := HVO.out.low y hy; simp at hy2; omega)) (fun y hy => (HIO.out.low y hy).1) N7.out M7.out HDIS.out
          have hbl := HBL.out
          refine ⟨k + 1, by omega, by go_num, (RD1.out.upd hx1 (by simp) (by simp)).upd hl.2 (fun h => by rcases List.mem_cons.1 h with h | h; exact absurd h (by omega); exact absurd (HIO.out.low _ h).1 (by omega)) (by rintro b' ⟨⟩ h; rcases List.mem_cons.1 h with h | h; exact absurd h (by omega); exact absurd (HIO.out.low _ h).1 (by omega)), by rw [HSK.out]; exact hl.1, ?_⟩
          have hz2 := HZ2.out
          exact (HU.out.step hy1 (fun y hy => .inr (by simp at hy; omega))).step hl.2 (fun y hy => .inr (by rcases List.mem_cons.1 hy with h | h; omega; have := (HIO.out.low y h).1; omega))
        case measure => simp [intOf]; omega
    · obtain rfl : k = n := by omega
      have HFE := Lib.hid HF.out
      have hsub' := hsub
      go_wp2_with fail
      go_loopw [35] (fun i wr => ∃ j : Nat, j ≤ 8 - k ∧ i = .int .i64 j ∧ (∀ i', i' < j → numi (seg l (5 + 2 * (k + i')) 2) = 0) ∧ IsRd wr (w.heap.size + 2) (some b) (l.drop (5 + 2 * (k + j))) ∧ HalfC wr w2.heap.size N [] (stackOf l k) ∧ Upd [] W2 wr) (fun i _ => (8 - k) - (intOf i).toNat)
      case atStart => exact ⟨0, by omega, rfl, fun j hj => absurd hj (by omega), HRD.out, HF.out, HU.out⟩
      case round =>
        clear HRD HF HU HFE
        obtain ⟨j, hj, rfl, hin, hR, hF, hU⟩ := hrel
        have HIN := Lib.hid hin
        have HU := Lib.hid hU
        have HRD := Lib.hid hR
        have HF := Lib.hid hF
        clear hin hR hF hU
        by_cases hlj : j < 8 - k
        · have HGET := Lib.hid (get_seg HL.out (5 + 2 * (k + j)) 2 2 rfl (by omega) (by decide) HRD.out)
          have HNG := Lib.hid (HGAP.out j hlj)
          obtain ⟨x, hx⟩ : ∃ x, numi (seg l (5 + 2 * (k + j)) 2) = x := ⟨_, rfl⟩
          rw [hx] at HGET HNG
          have HXE := Lib.hid hx
          clear hx
          by_cases hx0 : x = 0
          · subst hx0
            go_wp2_with fail
            refine HGET.out.mono ?_
            rintro e y1 ⟨rfl, r1, u1⟩
            have R1 := Lib.hid r1
            have U1 := Lib.hid (HU.out.step u1 (fun y hy => .inr (by have := HZ2.out; simp at hy; omega)))
            have HF1 := Lib.hid (HF.out.upd u1 (fun y hy => by simp at hy; omega))
            clear r1 u1
            go_wp2
            go_roundw
            case rel =>
              refine ⟨j + 1, by omega, by go_num, fun i' hi' => ?_, R1.out, HF1.out, U1.out⟩
              by_cases e : i' = j
              · subst e; exact HXE.out
              · exact HIN.out i' (by omega)
            case measure => simp [intOf]; omega
          · have hd : (x != 0) = true := by simpa using hx0
            have HG := Lib.hid (HNG.out hx0)
            go_wp2_with fail
            refine HGET.out.mono ?_
            rintro e y1 ⟨rfl, r1, u1⟩
            have U1 := Lib.hid (HU.out.step u1 (fun y hy => .inr (by have := HZ2.out; simp at hy; omega)))
            have HY0 := Lib.hid (U1.out.get HX0.out (by simp))
            have HY1 := Lib.hid (U1.out.get HX1.out (by simp))
            clear r1 u1
            go_wp2_with (first
              | (refine wpList_load_all rfl 75 (.tmp 4) rfl (w.heap.size + 1) 3 rfl _ _ _ _ HY1.out Tryd.underlying75 rfl infoCat rfl ?_)
              | (refine wpList_store_all rfl 75 (.tmp 2) (.tmp 39) rfl w.heap.size _ rfl rfl _ _ HY0.out infoCat rfl (by kernel_rfl) ?_; intro w6 hg6 hu6 _; have G6 := Lib.hid hg6; have U6 := Lib.hid hu6; clear hg6 hu6))
            refine bodyPost_ret (results_block_tmp Tryd.results42 _ _ w.heap.size 3 _ _ _ _ rfl G6.out Tryd.underlying75 rfl infoCat rfl) rfl ⟨by rw [HG.out]; exact CatRes.no _ _, (HU0.out.trans U1.out).step U6.out (fun x hx => .inr (by simp at hx; omega))⟩
        · obtain rfl : j = 8 - k := by omega
          have HGT := Lib.hid (gap_all HIN.out)
          have hR := HRD.out
          rw [show 5 + 2 * (k + (8 - k)) = 21 by omega] at hR
          have HR21 := Lib.hid hR
          clear hR HRD HIN
          go_wp2_with fail
          go_loopw [41] (fun i wr => ∃ j : Nat, j ≤ 8 ∧ i = .int .i64 j ∧ IsRd wr (w.heap.size + 2) (some b) (l.drop (21 + 19 * j)) ∧ HalfC wr w2.heap.size N (volsOf l j) (stackOf l k) ∧ Upd [] W2 wr) (fun i _ => 8 - (intOf i).toNat)
          case atStart => exact ⟨0, by omega, rfl, HR21.out, HF.out, HU.out⟩
          case round =>
            clear HR21 HF HU
            obtain ⟨j, hj, rfl, hR, hF, hU⟩ := hrel
            have HU := Lib.hid hU
            have HRD := Lib.hid hR
            have HF := Lib.hid hF
            clear hR hF hU
            by_cases hlj : j < 8
            · obtain ⟨v, s, hcb, hvo, hio, hdis⟩ := HF.out
              obtain ⟨av, cv, rfl, _⟩ := hvo.slice
              obtain ⟨ap, cp, rfl, _, _, _, _⟩ := hio.slice
              have HLK := Lib.hid (show (volsOf l j).length ≤ 1000000 by rw [volsOf_len]; omega)
              generalize (volsOf l j).length = nv at hcb hvo hdis
              generalize (stackOf l k).length = ns at hcb hio hdis
              have HSK := Lib.hid (volsOf_succ l j)
              have HCB := Lib.hid hcb
              have HVO := Lib.hid hvo
              have HIO := Lib.hid hio
              have HDIS := Lib.hid hdis
              have hblk : ∀ S wx, Upd S wr wx → (∀ y ∈ S, y ≠ w2.heap.size) → wx.heap[w2.heap.size]? = some (.cells #[.int .i64 N, .slice av nv cv, .slice ap ns cp] 75 (0, 0)) := fun S wx u h => u.get hcb (fun hm => h _ hm rfl)
              have HBLK := Lib.hid hblk
              have hcel : ∀ S wx, Upd S wr wx → (∀ y ∈ S, y ≠ w2.heap.size) → wx.cell? ⟨w2.heap.size, 1, none⟩ = some (.slice av nv cv) ∧ wx.frozen? ⟨w2.heap.size, 1, none⟩ = false := fun S wx u h => by
                obtain ⟨k1, k2⟩ := cells_of (hblk S wx u h)
                exact ⟨k1 1, k2 1⟩
              have HCEL := Lib.hid hcel
              have hsz := lt_of_block hcb
              obtain ⟨p0, f0⟩ := hcel [] wr (Upd.refl _ _) (by simp)
              have HOS : Hid (∀ y ∈ (Value.slice av nv cv).ownBlock.toList ++ [w.heap.size + 2], y ≠ w2.heap.size) := fun y hy => by
                rcases List.mem_append.1 hy with h | h
                · have := (hvo.low y h).1; omega
                · simp at h; omega
              have R0 := Lib.hid (HRD.out.upd (Upd.refl [] wr).drew (by simp) (by simp))
              have hbv := fun i s z q r m w => buildVol i s z q r m w
              clear hcb hvo hio hdis hblk hcel
              go_upto_region 20 with fail
              go_region_law (first
                | (refine step_pushv (w0 := y6) (S0 := []) rfl (.tmp 44) (.tmp 52) rfl (v := .slice av nv cv) (l := volsOf l j) rfl ?uk (HVO.out.upd UD6.out (fun y hy hy2 => by have := HVO.out.low y hy; simp at hy2; omega)) (fun y _ h => by cases h) _ _ (volAt l (21 + 19 * j)) rfl ?ck HLK.out hsz6 ?_; (case uk => exact (Upd.refl _ _).alloc _); (case ck => exact news_at _ (Vol.vals (volAt l (21 + 19 * j))) _); intro a7 n7 c7 w7 hn7 hm7 hb7; have N7 := Lib.hid hn7; have M7 := Lib.hid hm7; obtain ⟨p2, f2⟩ := HCEL.out _ _ ((UD6.out.mono (T := (Value.slice av nv cv).ownBlock.toList ++ [w.heap.size + 2]) (fun y hy => by simp at hy; simp [hy])).trans (((Upd.refl _ _).alloc _).trans (hm7.upd.mono (fun y hy => by simp [hy])))) HOS.out; have hsz7 := Nat.lt_of_lt_of_le hsz6 (Nat.le_trans (by simp) hm7.upd.size); clear hn7 hm7 hb7)
                | (go_simp; go_at_call 60; first
                  | ((with_reducible refine (get_seg HL.out (21 + 19 * j) 4 4 rfl (by omega) (by decide) R0.out).mono ?_); rintro e y1 ⟨rfl, r1, u1⟩; have R1 := Lib.hid r1; have hud := ((Upd.refl [w.heap.size + 2] wr).drew.trans u1); have UD1 := Lib.hid hud; obtain ⟨p1, f1⟩ := HCEL.out _ _ hud (by simp; omega); have hsz1 := Nat.lt_of_lt_of_le hsz hud.size; clear r1 u1 hud)
                  | ((with_reducible refine (get_seg HL.out (21 + 19 * j + 4) 1 1 rfl (by omega) (by decide) R1.out).mono ?_); rintro e y2 ⟨rfl, r1, u1⟩; have R2 := Lib.hid r1; have hud := (UD1.out.trans u1); have UD2 := Lib.hid hud; obtain ⟨p1, f1⟩ := HCEL.out _ _ hud (by simp; omega); have hsz2 := Nat.lt_of_lt_of_le hsz hud.size; clear r1 u1 hud)
                  | ((with_reducible refine (get_seg HL.out (21 + 19 * j + 4 + 1) 4 4 rfl (by omega) (by decide) R2.out).mono ?_); rintro e y3 ⟨rfl, r1, u1⟩; have R3 := Lib.hid r1; have hud := (UD2.out.trans u1); have UD3 := Lib.hid hud; obtain ⟨p1, f1⟩ := HCEL.out _ _ hud (by simp; omega); have hsz3 := Nat.lt_of_lt_of_le hsz hud.size; clear r1 u1 hud)
                  | ((with_reducible refine (get_seg HL.out (21 + 19 * j + 4 + 1 + 4) 4 4 rfl (by omega) (by decide) R3.out).mono ?_); rintro e y4 ⟨rfl, r1, u1⟩; have R4 := Lib.hid r1; have hud := (UD3.out.trans u1); have UD4 := Lib.hid hud; obtain ⟨p1, f1⟩ := HCEL.out _ _ hud (by simp; omega); have hsz4 := Nat.lt_of_lt_of_le hsz hud.size; clear r1 u1 hud)
                  | ((with_reducible refine (get_seg HL.out (21 + 19 * j + 4 + 1 + 4 + 4) 2 2 rfl (by omega) (by decide) R4.out).mono ?_); rintro e y5 ⟨rfl, r1, u1⟩; have R5 := Lib.hid r1; have hud := (UD4.out.trans u1); have UD5 := Lib.hid hud; obtain ⟨p1, f1⟩ := HCEL.out _ _ hud (by simp; omega); have hsz5 := Nat.lt_of_lt_of_le hsz hud.size; clear r1 u1 hud)
                  | ((with_reducible refine (get_seg HL.out (21 + 19 * j + 4 + 1 + 4 + 4 + 2) 4 4 rfl (by omega) (by decide) R5.out).mono ?_); rintro e y6 ⟨rfl, r1, u1⟩; have R6 := Lib.hid r1; have hud := (UD5.out.trans u1); have UD6 := Lib.hid hud; obtain ⟨p1, f1⟩ := HCEL.out _ _ hud (by simp; omega); have hsz6 := Nat.lt_of_lt_of_le hsz hud.size; clear r1 u1 hud)))
              all_goals
                go_wp2
                go_roundw
                case rel =>
                  have hx1 := ((Upd.refl [] y6).alloc (.cells (Vol.vals (volAt l (21 + 19 * j))).toArray 129))
                  have hy1 := UD6.out.trans (hx1.mono (T := [w.heap.size + 2]) (by simp))
                  have hl := leafV (HBLK.out _ _ hy1 (by simp; omega)) (HIO.out.upd hy1 (fun y hy hy2 => by have := HIO.out.low y hy; simp at hy2; omega)) (fun y hy => (HVO.out.low y hy).1) N7.out M7.out HDIS.out
                  have hbl := HBL.out
                  have hr6 := R6.out
                  rw [show 21 + 19 * j + 4 + 1 + 4 + 4 + 2 + 4 = 21 + 19 * (j + 1) by omega] at hr6
                  refine ⟨j + 1, by omega, by go_num, (hr6.upd hx1 (by simp) (by simp)).upd hl.2 (fun h => by rcases List.mem_cons.1 h with h | h; exact absurd h (by omega); exact absurd (HVO.out.low _ h).1 (by omega)) (by rintro b' ⟨⟩ h; rcases List.mem_cons.1 h with h | h; exact absurd h (by omega); exact absurd (HVO.out.low _ h).1 (by omega)), by rw [HSK.out]; exact hl.1, ?_⟩
                  have hz2 := HZ2.out
                  exact (HU.out.step hy1 (fun y hy => .inr (by simp at hy; omega))).step hl.2 (fun y hy => .inr (by rcases List.mem_cons.1 hy with h | h; omega; have := (HVO.out.low y h).1; omega))
                case measure => simp [intOf]; omega
            · obtain rfl : j = 8 := by omega
              obtain ⟨v, s, hcb, hvo, hio, hdis⟩ := HF.out
              obtain ⟨av, cv, rfl, hiv⟩ := hvo.slice
              obtain ⟨ap, cp, rfl, hii, _, _, _⟩ := hio.slice
              have hpc := putCat_any (c := ⟨N, stackOf l k, volsOf l 8⟩) (cap := cv) (cap' := cp) hiv hii (by simp only [volsOf_len]; decide) (by simp only [stackOf_len]; omega)
              have hce : catOf l k = ⟨N, stackOf l k, volsOf l 8⟩ := by unfold catOf; rw [HNE.out]
              have HCB := Lib.hid hcb
              have HVO := Lib.hid hvo
              have HIO := Lib.hid hio
              have HPC := Lib.hid (show Calls Tryd.prog 39 #[.agg #[.int .i64 N, .slice av (volsOf l 8).length cv, .slice ap (stackOf l k).length cp]] wr fun e w' => PutOut wr.heap.size (putCat ⟨N, stackOf l k, volsOf l 8⟩) e w' ∧ Upd [] wr w' from hpc)
              have HGN := Lib.hid (show okCat ⟨N, stackOf l k, volsOf l 8⟩ = false → getCat l = none by rw [← hce]; exact HNO.out)
              have HGS := Lib.hid (show okCat ⟨N, stackOf l k, volsOf l 8⟩ = true → getCat l = if bare (l.drop 173) then some ⟨N, stackOf l k, volsOf l 8⟩ else none by rw [← hce]; exact HG8.out HGT.out)
              have hR := HRD.out
              rw [show 21 + 19 * 8 = 173 from rfl] at hR
              have hba := bare_any hR
              have HR := Lib.hid hR
              clear hcb hvo hio hdis hiv hii hpc hce hR hba
              cases hok : okCat ⟨N, stackOf l k, volsOf l 8⟩
              · have HG := Lib.hid (HGN.out hok)
                rw [show putCat ⟨N, stackOf l k, volsOf l 8⟩ = none by unfold putCat; rw [hok]; simp] at HPC
                clear hok
                go_wp2_with (refine wpList_load_all rfl 75 (.tmp 6) rfl w2.heap.size 3 rfl _ _ _ _ HCB.out Tryd.underlying75 rfl infoCat rfl ?_)
                refine HPC.out.mono ?_
                rintro e y1 ⟨⟨vp, rfl, _⟩, u1⟩
                simp only [Option.isSome_none, Bool.false_eq_true, if_false]
                have U1 := Lib.hid (HU.out.trans u1)
                have HY0 := Lib.hid (U1.out.get HX0.out (by simp))
                have HY1 := Lib.hid (U1.out.get HX1.out (by simp))
                clear u1
                go_wp2_with (first
                  | (refine wpList_load_all rfl 75 (.tmp 4) rfl (w.heap.size + 1) 3 rfl _ _ _ _ HY1.out Tryd.underlying75 rfl infoCat rfl ?_)
                  | (refine wpList_store_all rfl 75 (.tmp 2) (.tmp 67) rfl w.heap.size _ rfl rfl _ _ HY0.out infoCat rfl (by kernel_rfl) ?_; intro w6 hg6 hu6 _; have G6 := Lib.hid hg6; have U6 := Lib.hid hu6; clear hg6 hu6))
                refine bodyPost_ret (results_block_tmp Tryd.results42 _ _ w.heap.size 3 _ _ _ _ rfl G6.out Tryd.underlying75 rfl infoCat rfl) rfl ⟨by rw [HG.out]; exact CatRes.no _ _, (HU0.out.trans U1.out).step U6.out (fun x hx => .inr (by simp at hx; omega))⟩
              · have hgs := HGS.out hok
                rw [show putCat ⟨N, stackOf l k, volsOf l 8⟩ = some (pad (catBytes ⟨N, stackOf l k, volsOf l 8⟩) 240) by unfold putCat; rw [hok]; simp] at HPC
                clear hok
                cases hB : bare (l.drop 173)
                · rw [hB] at hgs
                  simp only [Bool.false_eq_true, if_false] at hgs
                  have HG := Lib.hid hgs
                  have HBR := Lib.hid hB
                  clear hgs hB
                  go_wp2_with (refine wpList_load_all rfl 75 (.tmp 6) rfl w2.heap.size 3 rfl _ _ _ _ HCB.out Tryd.underlying75 rfl infoCat rfl ?_)
                  refine HPC.out.mono ?_
                  rintro e y1 ⟨⟨vp, rfl, _⟩, u1⟩
                  simp only [Option.isSome_some, if_true]
                  have U1 := Lib.hid (HU.out.trans u1)
                  have hba := bare_any (HR.out.upd u1 (by simp) (by simp))
                  rw [HBR.out] at hba
                  have HBA := Lib.hid hba
                  clear u1 hba
                  go_wp2_with fail
                  refine HBA.out.mono ?_
                  rintro e y2 ⟨rfl, u2⟩
                  have U2 := Lib.hid (U1.out.trans u2)
                  have HY0 := Lib.hid (U2.out.get HX0.out (by simp))
                  have HY1 := Lib.hid (U2.out.get HX1.out (by simp))
                  clear u2
                  go_wp2_with (first
                    | (refine wpList_load_all rfl 75 (.tmp 4) rfl (w.heap.size + 1) 3 rfl _ _ _ _ HY1.out Tryd.underlying75 rfl infoCat rfl ?_)
                    | (refine wpList_store_all rfl 75 (.tmp 2) (.tmp 67) rfl w.heap.size _ rfl rfl _ _ HY0.out infoCat rfl (by kernel_rfl) ?_; intro w6 hg6 hu6 _; have G6 := Lib.hid hg6; have U6 := Lib.hid hu6; clear hg6 hu6))
                  refine bodyPost_ret (results_block_tmp Tryd.results42 _ _ w.heap.size 3 _ _ _ _ rfl G6.out Tryd.underlying75 rfl infoCat rfl) rfl ⟨by rw [HG.out]; exact CatRes.no _ _, (HU0.out.trans U2.out).step U6.out (fun x hx => .inr (by simp at hx; omega))⟩
                · rw [hB] at hgs
                  simp only [if_true] at hgs
                  have HG := Lib.hid hgs
                  have HBR := Lib.hid hB
                  clear hgs hB
                  go_wp2_with (refine wpList_load_all rfl 75 (.tmp 6) rfl w2.heap.size 3 rfl _ _ _ _ HCB.out Tryd.underlying75 rfl infoCat rfl ?_)
                  refine HPC.out.mono ?_
                  rintro e y1 ⟨⟨vp, rfl, _⟩, u1⟩
                  simp only [Option.isSome_some, if_true]
                  have U1 := Lib.hid u1
                  have hba := bare_any (HR.out.upd u1 (by simp) (by simp))
                  rw [HBR.out] at hba
                  have HBA := Lib.hid hba
                  clear u1 hba
                  go_wp2_with fail
                  refine HBA.out.mono ?_
                  rintro e y2 ⟨rfl, u2⟩
                  have U2 := Lib.hid (U1.out.trans u2)
                  have HY0 := Lib.hid ((HU.out.trans U2.out).get HX0.out (by simp))
                  have HY1 := Lib.hid (U2.out.get HCB.out (by simp))
                  clear u2
                  go_wp2_with (first
                    | (refine wpList_load_all rfl 75 (.tmp 6) rfl w2.heap.size 3 rfl _ _ _ _ HY1.out Tryd.underlying75 rfl infoCat rfl ?_)
                    | (refine wpList_store_all rfl 75 (.tmp 2) (.tmp 68) rfl w.heap.size _ rfl rfl _ _ HY0.out infoCat (by simp only [List.size_toArray, List.length_cons, List.length_nil]) rfl ?_; intro w6 hg6 hu6 _; have G6 := Lib.hid hg6; have U6 := Lib.hid hu6; clear hg6 hu6))
                  refine bodyPost_ret (results_block_tmp Tryd.results42 _ _ w.heap.size 3 _ _ _ _ rfl G6.out Tryd.underlying75 rfl infoCat rfl) rfl ⟨?_, (HU0.out.trans (HU.out.trans U2.out)).step U6.out (fun x hx => .inr (by simp at hx; omega))⟩
                  rw [HG.out]
                  exact ⟨_, _, rfl, ((HVO.out.upd U2.out (by simp)).upd U6.out (fun y hy hy2 => by have := HVO.out.low y hy; simp at hy2; omega)).base (by omega), ((HIO.out.upd U2.out (by simp)).upd U6.out (fun y hy hy2 => by have := HIO.out.low y hy; simp at hy2; omega)).base (by omega)⟩
theorem getCat_any {w : World} {a : Option Addr} {l : List Nat} {cap : Nat} (hb : IsBytes w a l) (hc : l.length ≤ cap) (hm : cap ≤ 9223372036854775807) :
    Calls Tryd.prog 42 #[.slice a l.length cap] w fun e w' => CatRes w.heap.size (getCat l) e w' ∧ Upd [] w w' := by
  by_cases h : l.length = 240
  · obtain ⟨b, o, rfl, _⟩ := hb.2 0 (by omega)
    have := getCat_240 hb hc hm h
    rw [h]
    exact this
  · have hg : getCat l = none := by unfold getCat; rw [decide_eq_false h]; rfl
    rw [hg]
    exact getCat_len (by omega)
end Go.Proofs.YtkahpkmofeglgaaDoor
