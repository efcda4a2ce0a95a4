/-
  PROVED HERE: what the writing functions hand back, in one form for the program and for the document; whether a number is in its bounds; a new writer. Conditions: those that each theorem names.
  PROVED HERE: plain laws on records as bytes: a sector is what was put into it just if its sum, its beginning and its noughts are; numbers that were put are read again. Conditions: those that each theorem names; no program's text is used.
  PROVED HERE: PutSuper of package codec. Conditions: the table may be used.
  PROVED HERE: plain laws on superblocks: what is read of any bytes is what would be written as these bytes; what was written is read again. Conditions: those that each theorem names; no program's text is used.
-/
import Derived.Test.YtpnpjffhkaejgaaGreatDoorSoundB
import Derived.Test.YtpnpjffhkaejgaaGreatDoorRefSum
namespace Go.Proofs.YtpnpjffhkaejgaaGreatDoor
open Go.RowKit

/-- Is a number 0 to most? -/
def inB (n most : Int) : Bool := decide (0 ≤ n ∧ n ≤ most)
theorem inB_true {n most : Int} : inB n most = true ↔ 0 ≤ n ∧ n ≤ most := by unfold inB; simp
theorem inB_false {n most : Int} : inB n most = false ↔ ¬ (0 ≤ n ∧ n ≤ most) := by unfold inB; simp
theorem in_b (n most : Int) (w : World) : Calls Tryz.prog 32 #[.int .i64 n, .int .i64 most] w fun e w' => e = .returned (.bool (inB n most)) ∧ w = w' :=
  (in_any n most w).mono fun _ _ ⟨h, h1⟩ => ⟨h1, h.symm⟩
theorem rin_b (n most : Int) (w : World) : Calls Tryz.prog 41 #[.int .i64 n, .int .i64 most] w fun e w' => e = .returned (.bool (inB n most)) ∧ w = w' :=
  (rin_any n most w).mono fun _ _ ⟨h, h1⟩ => ⟨h1, h.symm⟩

/-- The value v is a slice that reads as the bytes l, in a block of its own that lies at B or beyond. -/
def IsRet (w : World) (B : Nat) (v : Value) (l : List Nat) : Prop :=
  BytesOk l ∧ ((v = .slice none 0 0 ∧ l = []) ∨ ∃ b cap cs ty fr, v = .slice (some ⟨b, 0, none⟩) l.length cap ∧ B ≤ b ∧ l.length ≤ cap ∧ cap ≤ 9223372036854775807 ∧ w.heap[b]? = some (.cells cs ty fr) ∧ ∀ i (h : i < l.length), cs[i]? = some (.int .u8 (l[i] : Int)))
theorem IsRet.slice {w : World} {B : Nat} {v : Value} {l : List Nat} (h : IsRet w B v l) : ∃ a cap, v = .slice a l.length cap ∧ IsBytes w a l ∧ (∀ b o, a = some ⟨b, o, none⟩ → B ≤ b) ∧ l.length ≤ cap ∧ cap ≤ 9223372036854775807 := by
  obtain ⟨ok, ⟨rfl, rfl⟩ | ⟨b, cap, cs, ty, fr, rfl, hB, hc, hm, hb, hi⟩⟩ := h
  · exact ⟨none, 0, rfl, ⟨ok, fun i hi => by simp at hi⟩, (by simp), by simp, by decide⟩
  · exact ⟨some ⟨b, 0, none⟩, cap, rfl, ⟨ok, fun i h => ⟨b, 0, rfl, by rw [Nat.zero_add, cell_of_row w b i cs ty fr hb]; exact hi i h⟩⟩, (by rintro b' o ⟨⟩; exact hB), hc, hm⟩
theorem IsRet.upd {w w' : World} {B : Nat} {v : Value} {l : List Nat} {S : List Nat} (h : IsRet w B v l) (u : Upd S w w') (hs : ∀ b, b ∈ S → b < B) : IsRet w' B v l := by
  obtain ⟨ok, h | ⟨b, cap, cs, ty, fr, hv, hB, hc, hm, hb, hi⟩⟩ := h
  · exact ⟨ok, .inl h⟩
  · exact ⟨ok, .inr ⟨b, cap, cs, ty, fr, hv, hB, hc, hm, u.get hb (fun hx => by have := hs b hx; omega), hi⟩⟩
theorem IsRet.nil (w : World) (B : Nat) : IsRet w B (.slice none 0 0) [] := ⟨BytesOk.nil, .inl ⟨rfl, rfl⟩⟩
theorem IsRet.base {w : World} {B C : Nat} {v : Value} {l : List Nat} (h : IsRet w B v l) (hC : C ≤ B) : IsRet w C v l := by
  obtain ⟨ok, h | ⟨b, cap, cs, ty, fr, hv, hB, r⟩⟩ := h
  · exact ⟨ok, .inl h⟩
  · exact ⟨ok, .inr ⟨b, cap, cs, ty, fr, hv, Nat.le_trans hC hB, r⟩⟩
theorem IsBlk.ret {w : World} {b B : Nat} {l : List Nat} (h : IsBlk w b l) (hB : B ≤ b) {n : Nat} (hn : l.length = n) (hm : n ≤ 9223372036854775807) : IsRet w B (.slice (some ⟨b, 0, none⟩) n n) l := by
  obtain ⟨⟨cs, ty, hb, r⟩, ok⟩ := h
  subst hn
  exact ⟨ok, .inr ⟨b, _, cs, ty, _, rfl, hB, Nat.le_refl _, hm, hb, r⟩⟩
theorem IsOut.ret {w : World} {B : Nat} {v : Value} {l : List Nat} (h : IsOut w B v l) : IsRet w B v l := by
  obtain ⟨⟨hl, ⟨rfl, h0⟩ | ⟨g, cap, cur, rfl, hg, hb, hc, hm, hs, ht⟩⟩ | ⟨g, cs, ty, fr, rfl, hg, hb, hi, hm⟩, ok⟩ := h
  · exact ⟨ok, .inl ⟨rfl, List.length_eq_zero_iff.1 h0⟩⟩
  · refine ⟨ok, .inr ⟨g, cap, cur, 5, _, rfl, hg, hc, by unfold maxLen at hm; omega, hb, fun i hi => ?_⟩⟩
    have e : (cur.toList.take (l.length * 1))[i]? = (u8s l)[i]? := by rw [ht]
    rw [List.getElem?_take_of_lt (by omega), u8s_get, List.getElem?_eq_getElem hi] at e
    simpa using e
  · exact ⟨ok, .inr ⟨g, _, cs, ty, fr, rfl, hg, Nat.le_refl _, by omega, hb, hi⟩⟩
/-- What a writing function hands back: the bytes and no error, or none and the error of a thing that may not be handed in. -/
def PutOut (B : Nat) (o : Option (List Nat)) (e : Ending) (w' : World) : Prop := ∃ v, e = .returned (.tuple #[v, .int .i64 (if o.isSome then 0 else 1)]) ∧ IsRet w' B v (o.getD [])
theorem PutOut.no (B : Nat) (w : World) : PutOut B none (.returned (.tuple #[.slice none 0 0, .int .i64 1])) w := ⟨_, rfl, IsRet.nil w B⟩
theorem PutOut.yes {B : Nat} {w : World} {l : List Nat} {v : Value} (h : IsRet w B v l) : PutOut B (some l) (.returned (.tuple #[v, .int .i64 0])) w := ⟨_, rfl, h⟩

/-- A writer as it is made. -/
def writer0 : List Value := List.replicate 256 (Value.int .u8 0) ++ [Value.int .i64 0]
theorem isW_new {w : World} {b : Nat} (h : w.heap[b]? = some (.cells writer0.toArray 89 (0, 0))) : IsW w b [] := by
  have h1 : (List.replicate 256 (Value.int .u8 0)).length = 256 := List.length_replicate
  refine ⟨⟨_, h, ?_, fun i hi => ?_, ?_⟩, BytesOk.nil⟩
  · rw [List.size_toArray]; unfold writer0; rw [List.length_append, h1]; rfl
  · rw [List.getElem?_toArray]
    unfold writer0
    rw [List.getElem?_append_left (by rw [h1]; exact hi), List.getElem?_replicate, if_pos hi]
    rfl
  · rw [List.getElem?_toArray]
    unfold writer0
    rw [List.getElem?_append_right (by rw [h1]; exact Nat.le_refl _), h1]
    rfl
theorem writerZero : Tryz.zeroCells89 = writer0.toArray := by kernel_rfl
theorem isW_made (w : World) : IsW (w.alloc (.cells Tryz.zeroCells89 89)) w.heap.size [] := isW_new (by rw [writerZero]; exact heap_alloc_new w _)
section
variable {P : Program}
theorem splice_all (cs vs : Array Value) (h : vs.size = cs.size) : splice cs 0 vs.toList = vs := by
  unfold splice
  rw [List.take_zero, List.nil_append, Nat.zero_add, List.drop_of_length_le (by simp [h]), List.append_nil]
/-- A whole block is stored into. -/
theorem wpList_store_all {ops : Array Oper} {rest : List Oper} {o : Oper} {a : Act} {w : World} {Q : Exit → Act → World → Prop} (hgd : o.guard = none) (ty : TypeId) (x y : Operand) (ho : o.op = .store ty x y)
    (g : Nat) (vs : Array Value) (hx : a.eval x = .pointer (some ⟨g, 0, none⟩)) (hy : a.eval y = .agg vs) (t : TypeId) (cs : Array Value) (hg : w.heap[g]? = some (.cells cs t (0, 0)))
    (hi : (P.info? ty).map (·.size) = some vs.size) (hn : vs.size = cs.size) (hv : vs.toList.all Value.oneCell' = true)
    (h : ∀ w', w'.heap[g]? = some (.cells vs t (0, 0)) → Upd [g] w w' → w'.heap.size = w.heap.size → wpList P ops Q rest (a.put o.dst undef) w') : wpList P ops Q (o :: rest) a w :=
  wpList_store_part hgd ty x y ho g 0 vs hx hy t cs vs hg hi (by omega) (fun x hx => List.all_eq_true.1 hv x hx) (splice_all _ _ hn) h
theorem wpList_load_all {ops : Array Oper} {rest : List Oper} {o : Oper} {a : Act} {w : World} {Q : Exit → Act → World → Prop} (hgd : o.guard = none) (ty : TypeId) (x : Operand) (ho : o.op = .load ty x)
    (g n : Nat) (hx : a.eval x = .pointer (some ⟨g, 0, none⟩)) (t : TypeId) (cs : Array Value) (fr : Nat × Nat) (d : TypeDesc) (hg : w.heap[g]? = some (.cells cs t fr))
    (hu : P.underlying ty = some d) (hd : (match d with | .struct _ | .array _ _ => true | _ => false) = true) (hi : (P.info? ty).map (·.size) = some n) (hn : n = cs.size)
    (h : wpList P ops Q rest (a.put o.dst (.agg cs)) w) : wpList P ops Q (o :: rest) a w := by
  refine wpList_load_part hgd ty x ho g 0 n hx t cs fr d hg hu hd hi (by omega) ?_
  rw [Nat.zero_add, hn, Array.extract_size]
  exact h
end
theorem i64s_one (l : List Int) : (l.map (Value.int .i64)).all Value.oneCell' = true := by
  rw [List.all_map, List.all_eq_true]; intro x _; rfl
theorem IsBlk.upd' {w w' : World} {b : Nat} {l : List Nat} {S : List Nat} (h : IsBlk w b l) (u : Upd S w w') (hs : ∀ x, x ∈ S → x < b) : IsBlk w' b l := h.upd u fun hx => Nat.lt_irrefl _ (hs b hx)
end Go.Proofs.YtpnpjffhkaejgaaGreatDoor
namespace Go.Proofs.YtpnpjffhkaejgaaGreatDoor
open Go.RowKit

theorem take_of_prefix {m l : List Nat} (h : m <+: l) : l.take m.length = m := by
  obtain ⟨q, rfl⟩ := h; simp
theorem pad_of {m l : List Nat} {n : Nat} (hl : l.length = n) (ht : l.take m.length = m) (hb : bare (l.drop m.length) = true) : pad m n = l := by
  subst hl
  have hm : m.length ≤ l.length := by
    have := congrArg List.length ht
    rw [List.length_take] at this; omega
  have hd : l.drop m.length = List.replicate (l.length - m.length) 0 := by
    apply List.ext_getElem?
    intro i
    rw [List.getElem?_replicate]
    have := (bare_iff _).1 hb i
    rw [List.getD_eq_getElem?_getD] at this
    by_cases h : i < l.length - m.length
    · rw [if_pos h, List.getElem?_eq_getElem (by simpa using h)] at *
      simpa using this
    · rw [if_neg h, List.getElem?_eq_none (by simp; omega)]
  unfold pad
  rw [← hd]
  conv => rhs; rw [← List.take_append_drop m.length l, ht]
theorem pad_iff {m l : List Nat} {n : Nat} (hm : m.length ≤ n) : pad m n = l ↔ l.length = n ∧ l.take m.length = m ∧ bare (l.drop m.length) = true := by
  constructor
  · rintro rfl
    refine ⟨pad_len hm, ?_, ?_⟩
    · unfold pad; simp
    · unfold pad bare
      simp
  · rintro ⟨h1, h2, h3⟩
    exact pad_of h1 h2 h3
theorem frame_iff {m l : List Nat} (hm : m.length ≤ 252) : frame m = l ↔ l.length = 256 ∧ l.drop 252 = le4 (crc (l.take 252)) ∧ l.take m.length = m ∧ bare ((l.take 252).drop m.length) = true := by
  constructor
  · rintro rfl
    have h1 := pad_len hm
    have ht : (frame m).take 252 = pad m 252 := by unfold frame; rw [List.take_append_of_le_length (by omega), List.take_of_length_le (by omega)]
    have h3 := (pad_iff hm).1 (rfl : pad m 252 = pad m 252)
    refine ⟨frame_len hm, ?_, ?_, ?_⟩
    · rw [ht]; unfold frame; rw [List.drop_append_of_le_length (by omega), List.drop_of_length_le (by omega)]; rfl
    · have : (frame m).take m.length = ((frame m).take 252).take m.length := by rw [List.take_take, Nat.min_eq_left hm]
      rw [this, ht]; exact h3.2.1
    · rw [ht]; exact h3.2.2
  · rintro ⟨h1, h2, h3, h4⟩
    have ht : pad m 252 = l.take 252 := pad_of (by rw [List.length_take]; omega) (by rw [List.take_take, Nat.min_eq_left hm]; exact h3) h4
    unfold frame
    rw [ht, ← h2, List.take_append_drop]

/-- Numbers one behind the other, each in so many bytes. -/
def enc (fs : List (Nat × Nat)) : List Nat := fs.flatMap fun f => be f.1 f.2
def dec : List Nat → List Nat → List (Nat × Nat)
  | _, [] => []
  | l, k :: ks => (num (l.take k), k) :: dec (l.drop k) ks
theorem enc_cons (f : Nat × Nat) (fs : List (Nat × Nat)) : enc (f :: fs) = be f.1 f.2 ++ enc fs := by simp [enc]
theorem enc_append (a b : List (Nat × Nat)) : enc (a ++ b) = enc a ++ enc b := by simp [enc]
theorem enc_len (fs : List (Nat × Nat)) : (enc fs).length = (fs.map (·.2)).sum := by
  induction fs with
  | nil => rfl
  | cons f fs ih => rw [enc_cons, List.length_append, be_len, ih]; simp
theorem enc_ok (fs : List (Nat × Nat)) : BytesOk (enc fs) := by
  induction fs with
  | nil => exact BytesOk.nil
  | cons f fs ih => rw [enc_cons]; exact (BytesOk.be _ _).append ih
theorem enc_dec {l : List Nat} (h : BytesOk l) (ks : List Nat) (hs : ks.sum ≤ l.length) : enc (dec l ks) = l.take ks.sum := by
  induction ks generalizing l with
  | nil => simp [dec, enc]
  | cons k ks ih =>
    simp only [List.sum_cons] at hs ⊢
    simp only [dec]
    rw [enc_cons, ih (h.drop k) (by rw [List.length_drop]; omega)]
    have e := be_num (h.take k)
    rw [List.length_take, Nat.min_eq_left (by omega)] at e
    rw [e, List.take_add]
theorem dec_enc (fs : List (Nat × Nat)) (hf : ∀ f ∈ fs, f.1 < 256 ^ f.2) (q : List Nat) : dec (enc fs ++ q) (fs.map (·.2)) = fs := by
  induction fs with
  | nil => rfl
  | cons f fs ih =>
    rw [enc_cons, List.map_cons, List.append_assoc]
    simp only [dec]
    have hl := be_len f.1 f.2
    rw [List.take_append_of_le_length (by omega), List.take_of_length_le (by omega), num_be_of_lt (hf f (by simp)), List.drop_append_of_le_length (by omega), List.drop_of_length_le (by omega), List.nil_append, ih fun g hg => hf g (by simp [hg])]
/-- What is read as a number that is in its bounds is that number. -/
theorem numi_in {l : List Nat} (h : BytesOk l) (hl : l.length ≤ 8) {m : Int} (hm : inB (numi l) m = true) (_hm : m ≤ 9223372036854775807) : (numi l).toNat = num l ∧ numi l = (num l : Int) := by
  have h1 := num_lt h
  have h2 : 256 ^ l.length ≤ 256 ^ 8 := Nat.pow_le_pow_right (by decide) hl
  have h3 : (256 : Nat) ^ 8 = 18446744073709551616 := by decide
  have h4 := (inB_true.1 hm).1
  unfold numi wrap64 at h4 ⊢
  omega
theorem seg_take {l : List Nat} (a k n : Nat) (h : a + k ≤ n) (hl : n ≤ l.length) : seg l a k = ((l.take n).drop a).take k := by
  rw [seg_eq (by omega), List.drop_take, List.take_take, Nat.min_eq_left (by omega)]
end Go.Proofs.YtpnpjffhkaejgaaGreatDoor
namespace Go.Proofs.YtpnpjffhkaejgaaGreatDoor
open Go.RowKit

def i64s (l : List Int) : List Value := l.map (Value.int .i64)
def okSuper (l : List Int) : Bool := l.all (inB · 1099511627776)
def superBytes (l : List Int) : List Nat := [80, 83, 85, 80] ++ l.flatMap fun n => be n.toNat 8
def putSuper (l : List Int) : Option (List Nat) := if okSuper l then some (frame (superBytes l)) else none
theorem putSuper_no {l : List Int} {k : Nat} (hk : k < l.length) (h : inB l[k] 1099511627776 = false) : putSuper l = none := by
  unfold putSuper okSuper
  rw [if_neg]
  intro hall
  have := List.all_eq_true.1 hall l[k] (List.getElem_mem hk)
  rw [h] at this; cases this
theorem okSuper_of {l : List Int} (h : ∀ k (hk : k < l.length), inB l[k] 1099511627776 = true) : okSuper l = true := by
  unfold okSuper
  rw [List.all_eq_true]
  intro x hx
  obtain ⟨k, hk, rfl⟩ := List.mem_iff_getElem.1 hx
  exact h k hk
theorem superBytes_len (l : List Int) : (superBytes l).length = 4 + 8 * l.length := by
  unfold superBytes
  rw [List.length_append, List.length_flatMap]
  simp only [be_len]
  induction l with
  | nil => rfl
  | cons a l ih => simp at ih ⊢; omega
theorem superBytes_take (l : List Int) (k : Nat) (hk : k < l.length) : superBytes (l.take (k + 1)) = superBytes (l.take k) ++ be l[k].toNat 8 := by
  unfold superBytes
  rw [List.take_succ_eq_append_getElem hk, List.flatMap_append, List.append_assoc]
  simp
theorem idx7 (T : TypeId) (hT : T = 86) (l : List Int) (h7 : l.length = 7) (k : Nat) (hk : k < l.length) (w : World) : (Instr.index T (.agg (i64s l).toArray) (.int .i64 (k : Int))).run Tryz.prog w = .ok (.int .i64 l[k]) w := by
  subst hT
  exact run_index_agg w Tryz.underlying86 Tryz.underlying3 rfl (by kernel_rfl) (by omega) (by simp [i64s, List.getElem?_eq_getElem hk]) .i64
set_option maxRecDepth 100000 in
set_option maxHeartbeats 1600000 in
theorem putSuper_any {t : Nat} {w : World} (ht : TabOk w t) (x0 x1 x2 x3 x4 x5 x6 : Int) :
    Calls Tryz.prog 19 #[pt t, .agg #[.int .i64 x0, .int .i64 x1, .int .i64 x2, .int .i64 x3, .int .i64 x4, .int .i64 x5, .int .i64 x6]] w fun e w' => PutOut w.heap.size (putSuper [x0, x1, x2, x3, x4, x5, x6]) e w' ∧ TabOk w' t ∧ Upd [t] w w' := by
  have hlt := Lib.hid ht.lt
  have HT := Lib.hid ht
  have HA := Lib.hid (show ∀ o, Upd [] w (w.alloc o) from fun o => (Upd.refl [] w).alloc o)
  have hsb : superBytes [] = [80, 83, 85, 80] := rfl
  have HSB := Lib.hid hsb
  clear ht hsb
  go_enter Tryz.func19, Tryz.ntmps19
  go_wp2_with fail
  have hW0 := isW_made (w.alloc (.cells #[.int .i64 x0, .int .i64 x1, .int .i64 x2, .int .i64 x3, .int .i64 x4, .int .i64 x5, .int .i64 x6] 34))
  have hC0 := ((Upd.refl [] _).alloc (.cells Tryz.zeroCells89 89)).get (heap_alloc_new w (.cells #[.int .i64 x0, .int .i64 x1, .int .i64 x2, .int .i64 x3, .int .i64 x4, .int .i64 x5, .int .i64 x6] 34)) (by simp)
  rw [show (w.alloc (.cells #[.int .i64 x0, .int .i64 x1, .int .i64 x2, .int .i64 x3, .int .i64 x4, .int .i64 x5, .int .i64 x6] 34)).heap.size = w.heap.size + 1 by simp] at hW0
  refine (text_any (s := ⟨#[80, 83, 85, 80]⟩) hW0 (by decide) (by decide)).mono ?_
  rintro e w1 ⟨rfl, h1, u1⟩
  have hC1 := u1.get hC0 (by simp)
  obtain ⟨k1, _⟩ := cells_of hC1
  have k0 := k1 0; have k2 := k1 1; have k3 := k1 2; have k4 := k1 3; have k5 := k1 4; have k6 := k1 5; have k7 := k1 6
  simp only [List.getElem?_toArray, List.getElem?_cons_zero, List.getElem?_cons_succ] at k0 k2 k3 k4 k5 k6 k7
  have H1 := Lib.hid h1
  have U1 := Lib.hid (((Upd.refl [] w).alloc _ |>.alloc _).step u1 (T := [w.heap.size + 1]) (fun x hx => .inr (by simp at hx; omega)))
  clear hW0 hC0 hC1 h1 u1 k1
  go_wp2
  go_loopw [25] (fun i wr => ∃ k : Nat, k ≤ 7 ∧ i = .int .i64 k ∧ (∀ j (hj : j < k) (h7 : j < [x0, x1, x2, x3, x4, x5, x6].length), inB [x0, x1, x2, x3, x4, x5, x6][j] 1099511627776 = true) ∧ IsW wr (w.heap.size + 1) (superBytes ([x0, x1, x2, x3, x4, x5, x6].take k)) ∧ Upd [] w wr) (fun i _ => 7 - (intOf i).toNat)
  case atStart => exact ⟨0, by decide, rfl, fun j hj => absurd hj (by omega), H1.out, U1.out⟩
  case round =>
    obtain ⟨k, hk, rfl, hin, hW, hU⟩ := hrel
    have HIN := Lib.hid hin
    have HW := Lib.hid hW
    have HU := Lib.hid hU
    clear hin hW hU
    by_cases hlt7 : k < 7
    · have hk7 : k < [x0, x1, x2, x3, x4, x5, x6].length := hlt7
      have hidx : ∀ w, (Instr.index 86 (.agg #[.int .i64 x0, .int .i64 x1, .int .i64 x2, .int .i64 x3, .int .i64 x4, .int .i64 x5, .int .i64 x6]) (.int .i64 (k : Int))).run Tryz.prog w = .ok (.int .i64 [x0, x1, x2, x3, x4, x5, x6][k]) w := idx7 _ rfl [x0, x1, x2, x3, x4, x5, x6] rfl k hk7
      have HS := Lib.hid (superBytes_take [x0, x1, x2, x3, x4, x5, x6] k hk7)
      have HL := Lib.hid (superBytes_len ([x0, x1, x2, x3, x4, x5, x6].take k))
      have HN := Lib.hid (fun h => putSuper_no (l := [x0, x1, x2, x3, x4, x5, x6]) hk7 h)
      have hxe : [x0, x1, x2, x3, x4, x5, x6][k] = [x0, x1, x2, x3, x4, x5, x6][k] := rfl
      generalize hx : [x0, x1, x2, x3, x4, x5, x6][k] = x at hidx HS HN
      have HX := Lib.hid hx
      clear hx hxe
      cases hI : inB x 1099511627776
      · go_wp2_with (go_at_call 32; refine (in_b _ _ _).mono ?_; rintro e w' ⟨rfl, rfl⟩)
        go_ret2
        rw [HN.out hI]
        exact ⟨PutOut.no _ _, HT.out.upd HU.out (by simp), HU.out.mono (by simp)⟩
      · obtain ⟨m, rfl⟩ := Int.eq_ofNat_of_zero_le (inB_true.1 hI).1
        have hm := (inB_true.1 hI).2
        go_wp2_with (first | (go_at_call 32; refine (in_b _ _ _).mono ?_; rintro e w' ⟨rfl, rfl⟩) | (go_at_call 33; refine (put_any (k := 8) HW.out (by decide) (by omega) (by rw [HL.out, List.length_take]; simp; omega)).mono ?_; rintro e w2 ⟨rfl, h2, u2⟩; have H2 := Lib.hid h2; have U2 := Lib.hid u2; clear h2 u2))
        go_roundw
        case rel =>
          refine ⟨k + 1, by omega, by go_num, fun j hj h7 => ?_, by rw [HS.out]; exact H2.out, HU.out.step U2.out (fun x hx => .inr (by simp at hx; omega))⟩
          by_cases e : j = k
          · subst e; rw [HX.out]; exact hI
          · exact HIN.out j (by omega) h7
        case measure => simp [intOf]; omega
    · obtain rfl : k = 7 := by omega
      have HO := Lib.hid (okSuper_of (l := [x0, x1, x2, x3, x4, x5, x6]) fun k hk => HIN.out k (by simpa using hk) hk)
      have hne : w.heap.size + 1 ≠ t := by have := hlt.out; omega
      have hl : (superBytes ([x0, x1, x2, x3, x4, x5, x6].take 7)).length ≤ 252 := by rw [superBytes_len, List.length_take]; simp
      have HNE := Lib.hid hne
      have HLE := Lib.hid hl
      clear hne hl
      go_wp2_with (go_at_call 34; refine (framed_any HW.out HLE.out (HT.out.upd HU.out (by simp)) HNE.out).mono ?_; rintro e w2 ⟨rfl, h2, h3, u2⟩; have H2 := Lib.hid h2; have H3 := Lib.hid h3; have U2 := Lib.hid u2; clear h2 h3 u2)
      go_ret2
      have e : putSuper [x0, x1, x2, x3, x4, x5, x6] = some (frame (superBytes ([x0, x1, x2, x3, x4, x5, x6].take 7))) := by unfold putSuper; rw [if_pos HO.out]; rfl
      rw [e]
      exact ⟨PutOut.yes (H2.out.ret (by omega) (frame_len HLE.out) (by decide)), .inr H3.out, (HU.out.mono (by simp)).step U2.out (fun x hx => by
        simp at hx
        rcases hx with h | h
        · exact .inr (by omega)
        · exact .inl (by simp [h]))⟩
end Go.Proofs.YtpnpjffhkaejgaaGreatDoor
namespace Go.Proofs.YtpnpjffhkaejgaaGreatDoor
open Go.RowKit

def superOf (l : List Nat) : List Int := (List.range 7).map fun k => numi (seg l (4 + 8 * k) 8)
/-- As the program reads. -/
def getSuper (l : List Nat) : Option (List Int) := if soundL l [80, 83, 85, 80] && okSuper (superOf l) && bare (((l.drop 4).take 248).drop 56) then some (superOf l) else none
/-- As the document reads. -/
def refSuper (l : List Nat) : Option (List Int) := if okSuper (superOf l) && decide (frame (superBytes (superOf l)) = l) then some (superOf l) else none
theorem superOf_len (l : List Nat) : (superOf l).length = 7 := by simp [superOf]
theorem okSuper_at {s : List Int} (h : okSuper s = true) {x : Int} (hx : x ∈ s) : inB x 1099511627776 = true := List.all_eq_true.1 h x hx
theorem superOf_at {l : List Nat} (h : okSuper (superOf l) = true) (k : Nat) (hk : k < 7) : inB (numi (seg l (4 + 8 * k) 8)) 1099511627776 = true :=
  okSuper_at h (by unfold superOf; exact List.mem_map.2 ⟨k, by simpa using hk, rfl⟩)
/-- What was read of a sector, written again, is its beginning. -/
theorem superBytes_of {l : List Nat} (hb : BytesOk l) (hl : 60 ≤ l.length) (ho : okSuper (superOf l) = true) (hw : l.take 4 = [80, 83, 85, 80]) : superBytes (superOf l) = l.take 60 := by
  have e : ∀ k, k < 7 → be (numi (seg l (4 + 8 * k) 8)).toNat 8 = (l.drop (4 + 8 * k)).take 8 := by
    intro k hk
    have h1 := (numi_in (seg_ok hb _ _) (by rw [seg_len]; decide) (superOf_at ho k hk) (by decide)).1
    rw [h1]
    have h2 := be_num (seg_ok hb (4 + 8 * k) 8)
    rw [seg_len] at h2
    rw [h2, seg_eq (by omega)]
  unfold superBytes superOf
  rw [← hw]
  simp only [show List.range 7 = [0, 1, 2, 3, 4, 5, 6] from rfl, List.map_cons, List.map_nil, List.flatMap_cons, List.flatMap_nil]
  rw [e 0 (by decide), e 1 (by decide), e 2 (by decide), e 3 (by decide), e 4 (by decide), e 5 (by decide), e 6 (by decide)]
  rw [show (60 : Nat) = 4 + (8 + (8 + (8 + (8 + (8 + (8 + 8)))))) from rfl]
  simp only [List.take_add, List.drop_drop, List.append_nil]
theorem getSuper_ref {l : List Nat} (hb : BytesOk l) : getSuper l = refSuper l := by
  unfold getSuper refSuper
  by_cases ho : okSuper (superOf l) = true
  · rw [ho]
    have hm : (superBytes (superOf l)).length = 60 := by rw [superBytes_len, superOf_len]
    have hiff := frame_iff (m := superBytes (superOf l)) (l := l) (by omega)
    have key : (soundL l [80, 83, 85, 80] && true && bare (((l.drop 4).take 248).drop 56)) = (true && decide (frame (superBytes (superOf l)) = l)) := by
      rw [Bool.eq_iff_iff]
      simp only [Bool.and_true, Bool.true_and, Bool.and_eq_true, decide_eq_true_eq, hiff, hm, soundL]
      have hr : ((l.drop 4).take 248).drop 56 = (l.take 252).drop 60 := by
        rw [List.drop_take, List.drop_take, List.drop_drop]
      rw [hr]
      constructor
      · rintro ⟨⟨h1, h2, h3⟩, h4⟩
        exact ⟨h1, h2, (superBytes_of hb (by omega) ho h3).symm, h4⟩
      · rintro ⟨h1, h2, h3, h4⟩
        refine ⟨⟨h1, h2, ?_⟩, h4⟩
        have := congrArg (List.take 4) h3
        rw [List.take_take] at this
        rw [show min 4 60 = 4 from rfl] at this
        rw [this]; rfl
    rw [key]
  · rw [Bool.not_eq_true] at ho
    rw [ho]; simp
theorem superOf_bytes {s : List Int} (h7 : s.length = 7) (ho : okSuper s = true) (q : List Nat) : superOf (superBytes s ++ q) = s := by
  apply List.ext_getElem?
  intro k
  unfold superOf
  rw [List.getElem?_map]
  by_cases hk : k < 7
  · have hks : k < s.length := by omega
    rw [List.getElem?_range hk, List.getElem?_eq_getElem hks]
    have hx := okSuper_at ho (List.getElem_mem hks)
    have hm := inB_true.1 hx
    have e1 : superBytes s = superBytes (s.take k) ++ be s[k].toNat 8 ++ (s.drop (k + 1)).flatMap fun n => be n.toNat 8 := by
      rw [← superBytes_take s k hks]
      unfold superBytes
      rw [List.append_assoc, ← List.flatMap_append, List.take_append_drop]
    have hl : (superBytes (s.take k)).length = 4 + 8 * k := by rw [superBytes_len, List.length_take, Nat.min_eq_left (by omega)]
    have e2 : seg (superBytes s ++ q) (4 + 8 * k) 8 = be s[k].toNat 8 := by
      rw [seg_eq (by rw [List.length_append, superBytes_len]; omega), e1, List.append_assoc, List.append_assoc, ← hl, List.drop_append_of_le_length (Nat.le_refl _), List.drop_of_length_le (Nat.le_refl _), List.nil_append, List.take_append_of_le_length (by rw [be_len]; decide), List.take_of_length_le (by rw [be_len]; decide)]
    simp only [Option.map_some]
    rw [e2]
    have h3 : num (be s[k].toNat 8) = s[k].toNat := num_be_of_lt (by
      have : (256 : Nat) ^ 8 = 18446744073709551616 := by decide
      omega)
    unfold numi
    rw [h3]
    congr 1
    simp only [wrap64]
    omega
  · rw [List.getElem?_eq_none (by simp; omega), List.getElem?_eq_none (by omega)]; rfl
theorem superBytes_ok (s : List Int) : BytesOk (superBytes s) := by
  unfold superBytes
  refine BytesOk.append ?_ ?_
  · intro x hx; simp at hx; omega
  · intro x hx
    obtain ⟨n, _, hn⟩ := List.mem_flatMap.1 hx
    exact be_lt _ _ x hn
theorem frame_split (m : List Nat) : ∃ q, frame m = m ++ q := ⟨List.replicate (252 - m.length) 0 ++ le4 (crc (pad m 252)), by unfold frame pad; rw [List.append_assoc]⟩
theorem getSuper_put {s : List Int} (h7 : s.length = 7) (ho : okSuper s = true) : getSuper (frame (superBytes s)) = some s := by
  rw [getSuper_ref (frame_ok (superBytes_ok s))]
  obtain ⟨q, hq⟩ := frame_split (superBytes s)
  have e : superOf (frame (superBytes s)) = s := by rw [hq]; exact superOf_bytes h7 ho q
  unfold refSuper
  rw [e, ho]; simp
theorem getSuper_nil : getSuper [] = none := by
  unfold getSuper soundL
  rw [if_neg]
  simp
theorem getSuper_of_put {s : List Int} (h7 : s.length = 7) : getSuper ((putSuper s).getD []) = if okSuper s then some s else none := by
  unfold putSuper
  cases h : okSuper s
  · exact getSuper_nil
  · exact getSuper_put h7 h
end Go.Proofs.YtpnpjffhkaejgaaGreatDoor
