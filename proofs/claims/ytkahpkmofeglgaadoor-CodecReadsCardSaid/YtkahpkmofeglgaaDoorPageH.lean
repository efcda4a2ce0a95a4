/-
  PROVED HERE: plain laws on pages as bytes. Conditions: those that each theorem names; no program's text is used.
  PROVED HERE: bytes.Equal; GetPage of package codec. Conditions: the bytes can be read; the table may be used, and does not hold them.
  PROVED HERE: GetPage of package codec, of any bytes. Conditions: the bytes can be read; the table may be used, and does not hold them.
-/
import Derived.Test.YtkahpkmofeglgaaDoorImageRec
import Derived.Test.YtkahpkmofeglgaaDoorImageG
namespace Go.Proofs.YtkahpkmofeglgaaDoor
open Go.RowKit

def zero256 : List Nat := List.replicate 256 0
def pageImg (l : List Nat) (n : Int) : Img := ⟨n, numi (seg l 4 1), seg l 12 240⟩
def pageTest (l : List Nat) (n : Int) : Bool := decide (1 ≤ numi (seg l 4 1) ∧ numi (seg l 4 1) ≤ 5) && (inB n 1023 && (decide (numi (seg l 5 4) = n) && decide (numi (seg l 9 3) = 0)))
/-- As the program reads: the kind and the body. -/
def getPage (l : List Nat) (n : Int) : Option (Int × List Nat) :=
  if decide (l = zero256) then some (0, []) else if soundL l [80, 80, 65, 71] && pageTest l n then some (numi (seg l 4 1), seg l 12 240) else none
/-- As the document reads. -/
def refPage (l : List Nat) (n : Int) : Option (Int × List Nat) :=
  if decide (l = zero256) then some (0, []) else if decide (l.length = 256) && (okImg (pageImg l n) && decide (frame (pageBytes (pageImg l n)) = l)) then some (numi (seg l 4 1), seg l 12 240) else none
theorem pageBytes_of {l : List Nat} {n : Int} (h : BytesOk l) (hl : l.length = 256) (hw : l.take 4 = [80, 80, 65, 71]) (hn : numi (seg l 5 4) = n) (h0 : numi (seg l 9 3) = 0) : pageBytes (pageImg l n) = l.take 252 := by
  unfold pageBytes pageImg
  have e3 : ([0, 0, 0] : List Nat) = seg l 9 3 := by
    have := seg_be h 9 3 (by decide)
    rw [h0] at this
    rw [← this]; rfl
  simp only
  rw [← hw, ← hn, seg_be h 4 1 (by decide), seg_be h 5 4 (by decide), e3]
  rw [seg_eq (by omega), seg_eq (by omega), seg_eq (by omega), seg_eq (by omega)]
  rw [show (252 : Nat) = 4 + (1 + (4 + (3 + 240))) from rfl]
  simp only [List.take_add, List.drop_drop, List.append_assoc]
theorem pageBytes_seg {x : Img} (ho : okImg x = true) (q : List Nat) :
    (pageBytes x ++ q).take 4 = [80, 80, 65, 71] ∧ numi (seg (pageBytes x ++ q) 4 1) = x.kind ∧ numi (seg (pageBytes x ++ q) 5 4) = x.num ∧ numi (seg (pageBytes x ++ q) 9 3) = 0 ∧ seg (pageBytes x ++ q) 12 240 = x.body := by
  obtain ⟨h1, h2, h3, h4, h5⟩ := okImg_parts ho
  have e0 : pageBytes x ++ q = [80, 80, 65, 71] ++ (be x.kind.toNat 1 ++ (be x.num.toNat 4 ++ ([0, 0, 0] ++ (x.body ++ q)))) := by
    unfold pageBytes; simp only [List.append_assoc]
  have e1 : pageBytes x ++ q = ([80, 80, 65, 71] ++ be x.kind.toNat 1) ++ (be x.num.toNat 4 ++ ([0, 0, 0] ++ (x.body ++ q))) := by rw [e0]; simp only [List.append_assoc]
  have e2 : pageBytes x ++ q = ([80, 80, 65, 71] ++ be x.kind.toNat 1 ++ be x.num.toNat 4) ++ ([0, 0, 0] ++ (x.body ++ q)) := by rw [e0]; simp only [List.append_assoc]
  have e3 : pageBytes x ++ q = ([80, 80, 65, 71] ++ be x.kind.toNat 1 ++ be x.num.toNat 4 ++ [0, 0, 0]) ++ (x.body ++ q) := by rw [e0]; simp only [List.append_assoc]
  have s0 := seg_app (q := be x.num.toNat 4 ++ ([0, 0, 0] ++ (x.body ++ q))) (p := [80, 80, 65, 71]) (i := 4) rfl (be_len x.kind.toNat 1)
  have s1 := seg_app (q := [0, 0, 0] ++ (x.body ++ q)) (p := [80, 80, 65, 71] ++ be x.kind.toNat 1) (i := 5) (by simp [be_len]) (be_len x.num.toNat 4)
  have s2 := seg_app (q := x.body ++ q) (p := [80, 80, 65, 71] ++ be x.kind.toNat 1 ++ be x.num.toNat 4) (a := [0, 0, 0]) (i := 9) (k := 3) (by simp [be_len]) rfl
  have s3 := seg_app (q := q) (p := [80, 80, 65, 71] ++ be x.kind.toNat 1 ++ be x.num.toNat 4 ++ [0, 0, 0]) (a := x.body) (i := 12) (k := 240) (by simp [be_len]) h5
  rw [← e0] at s0
  rw [← e1] at s1
  rw [← e2] at s2
  rw [← e3] at s3
  refine ⟨by rw [e0]; rfl, ?_, ?_, ?_, s3⟩
  · rw [s0, numi_be (m := 5) (by rw [inB_true]; omega) (by decide) (by decide)]
  · rw [s1, numi_be (m := 1023) (by rw [inB_true]; omega) (by decide) (by decide)]
  · rw [s2, numi_eq (fun x hx => by simp at hx; omega) (by decide)]; simp [num]
theorem getPage_ref {l : List Nat} {n : Int} (h : BytesOk l) : getPage l n = refPage l n := by
  unfold getPage refPage
  cases hz : decide (l = zero256)
  · simp only [Bool.false_eq_true, if_false]
    have key : (soundL l [80, 80, 65, 71] && pageTest l n) = (decide (l.length = 256) && (okImg (pageImg l n) && decide (frame (pageBytes (pageImg l n)) = l))) := by
      rw [Bool.eq_iff_iff]
      simp only [Bool.and_eq_true, decide_eq_true_eq, soundL, pageTest]
      constructor
      · rintro ⟨⟨h1, h2, h3⟩, h4, h5, h6, h7⟩
        have hm := pageBytes_of h h1 h3 h6 h7
        refine ⟨h1, ?_, (frame_iff (by rw [hm, List.length_take]; omega)).2 ⟨h1, h2, ?_, ?_⟩⟩
        · unfold okImg pageImg
          simp only [Bool.and_eq_true, decide_eq_true_eq, seg_len]
          exact ⟨h4, h5, trivial⟩
        · rw [hm, List.length_take, Nat.min_eq_left (by omega)]
        · have hd : (l.take 252).drop 252 = [] := List.drop_of_length_le (by rw [List.length_take]; omega)
          rw [hm, List.length_take, Nat.min_eq_left (by omega), hd]; rfl
      · rintro ⟨h1, h2, h3⟩
        have hml : (pageBytes (pageImg l n)).length ≤ 252 := by rw [pageBytes_len]; simp only [pageImg, seg_len]; omega
        obtain ⟨g1, g2, g3, g4⟩ := (frame_iff hml).1 h3
        obtain ⟨q, hq⟩ := frame_split (pageBytes (pageImg l n))
        obtain ⟨s1, s2, s3, s4, s5⟩ := pageBytes_seg h2 q
        rw [← hq, h3] at s1 s2 s3 s4 s5
        obtain ⟨p1, p2, p3, p4, p5⟩ := okImg_parts h2
        exact ⟨⟨g1, g2, s1⟩, ⟨p1, p2⟩, by rw [inB_true]; exact ⟨p3, p4⟩, s3, s4⟩
    rw [key]
  · simp only [if_true]
theorem frame_page_ne (x : Img) : ¬ frame (pageBytes x) = zero256 := by
  intro hc
  obtain ⟨q, hq⟩ := frame_split (pageBytes x)
  have e : (frame (pageBytes x))[0]? = some 80 := by rw [hq]; unfold pageBytes; simp
  rw [hc] at e
  unfold zero256 at e
  rw [List.getElem?_replicate, if_pos (by decide)] at e
  cases e
/-- What was written is read again by its number, and by no other. -/
theorem getPage_put {x : Img} (ho : okImg x = true) (n : Int) : getPage (frame (pageBytes x)) n = if decide (n = x.num) then some (x.kind, x.body) else none := by
  obtain ⟨h1, h2, h3, h4, h5⟩ := okImg_parts ho
  obtain ⟨q, hq⟩ := frame_split (pageBytes x)
  obtain ⟨s1, s2, s3, s4, s5⟩ := pageBytes_seg ho q
  rw [← hq] at s1 s2 s3 s4 s5
  have hml : (pageBytes x).length ≤ 252 := by rw [pageBytes_len]; omega
  obtain ⟨g1, g2, g3, g4⟩ := (frame_iff hml).1 (rfl : frame (pageBytes x) = frame (pageBytes x))
  have hs : soundL (frame (pageBytes x)) [80, 80, 65, 71] = true := by unfold soundL; exact decide_eq_true ⟨g1, g2, s1⟩
  unfold getPage
  rw [decide_eq_false (frame_page_ne x), hs, s2, s5]
  simp only [Bool.false_eq_true, if_false, Bool.true_and]
  unfold pageTest
  rw [s2, s3, s4, decide_eq_true (show 1 ≤ x.kind ∧ x.kind ≤ 5 from ⟨h1, h2⟩), decide_eq_true (rfl : (0 : Int) = 0)]
  by_cases hn : n = x.num
  · subst hn
    rw [show inB x.num 1023 = true by rw [inB_true]; exact ⟨h3, h4⟩, decide_eq_true rfl]
    rfl
  · rw [decide_eq_false hn, decide_eq_false (fun e => hn e.symm)]
    simp
theorem getPage_nil (n : Int) : getPage [] n = none := by
  unfold getPage soundL
  rw [decide_eq_false (by decide), decide_eq_false (by simp)]
  rfl
theorem getPage_zero (n : Int) : getPage zero256 n = some (0, []) := by
  unfold getPage
  rw [decide_eq_true rfl]; rfl
end Go.Proofs.YtkahpkmofeglgaaDoor
namespace Go.Proofs.YtkahpkmofeglgaaDoor
open Go.RowKit

theorem conv_any {w : World} {a : Option Addr} {l : List Nat} (h : IsBytes w a l) (cap : Nat) : (convert 27 9 (.slice a l.length cap)).run Tryd.prog w = .ok (.string (strOfNums (l.map fun n : Nat => (n : Int)))) w := by
  by_cases h0 : l.length = 0
  · obtain rfl : l = [] := List.length_eq_zero_iff.1 h0
    cases a with
    | none => exact run_convert_bytes_nil (P := Tryd.prog) w 27 5 Tryd.underlying27 Tryd.underlying5 0 cap 9 Tryd.underlying9
    | some x =>
      rw [run_convert_bytes_string (P := Tryd.prog) w 27 9 5 _ _ _ Tryd.underlying27 Tryd.underlying5 Tryd.underlying9]
      exact run_bytesToString (P := Tryd.prog) w x 0 cap [] (by simp [loadCells, loadCellsFrom])
  · obtain ⟨b, o, rfl, _⟩ := h.2 0 (by omega)
    have := h.text l.length cap (Nat.le_refl _)
    rw [List.take_length] at this
    exact this
theorem str_eq {l l' : List Nat} (h : BytesOk l) (h' : BytesOk l') : ((strOfNums (l.map fun n : Nat => (n : Int))).toList == (strOfNums (l'.map fun n : Nat => (n : Int))).toList) = decide (l = l') := by
  rw [Bool.eq_iff_iff, beq_iff_eq, decide_eq_true_iff, ByteArray.toList_eq, ByteArray.toList_eq]
  constructor
  · intro e
    have e2 : strBytes (strOfNums (l.map fun n : Nat => (n : Int))) = strBytes (strOfNums (l'.map fun n : Nat => (n : Int))) := by unfold strBytes; rw [e]
    rw [strBytes_nums h, strBytes_nums h'] at e2
    exact e2
  · rintro rfl; rfl
theorem equal_any {w : World} {a a' : Option Addr} {l l' : List Nat} {cap cap' : Nat} (hb : IsBytes w a l) (hb' : IsBytes w a' l') :
    Calls Tryd.prog 66 #[.slice a l.length cap, .slice a' l'.length cap'] w fun e w' => e = .returned (.bool (decide (l = l'))) ∧ w = w' := by
  have h1 := conv_any hb cap
  have h2 := conv_any hb' cap'
  have HS := Lib.hid (str_eq hb.1 hb'.1)
  clear hb hb'
  go_enter Tryd.func66, Tryd.ntmps66
  go_wp2
  go_ret
  rw [← HS.out]
  exact ⟨rfl, rfl⟩
/-- The value v is a slice of the call's own that holds the bytes l, and may be written. -/
def IsRow (w : World) (B : Nat) (v : Value) (l : List Nat) : Prop := w.ownsRow B 5 1 v l.length (u8s l) ∧ BytesOk l
theorem IsRow.out {w : World} {B : Nat} {v : Value} {l : List Nat} (h : IsRow w B v l) : IsOut w B v l := ⟨.inl h.1, h.2⟩
theorem IsRow.ret {w : World} {B : Nat} {v : Value} {l : List Nat} (h : IsRow w B v l) : IsRet w B v l := h.out.ret
theorem IsRow.nil (w : World) (B : Nat) : IsRow w B (.slice none 0 0) [] := ⟨⟨rfl, .inl ⟨rfl, rfl⟩⟩, BytesOk.nil⟩
theorem IsRow.low {w : World} {B : Nat} {v : Value} {l : List Nat} (h : IsRow w B v l) : ∀ x ∈ v.ownBlock.toList, B ≤ x := ownsRow_block h.1
theorem IsRow.upd {w w' : World} {B : Nat} {v : Value} {l : List Nat} {S : List Nat} (h : IsRow w B v l) (u : Upd S w w') (hs : ∀ b, b ∈ S → b < B) : IsRow w' B v l :=
  ⟨ownsRow_upd h.1 u (fun x hx hm => by have := h.low x hx; have := hs x hm; omega), h.2⟩
theorem IsRow.base {w : World} {B C : Nat} {v : Value} {l : List Nat} (h : IsRow w B v l) (hC : C ≤ B) : IsRow w C v l := by
  obtain ⟨⟨hl, ⟨rfl, h0⟩ | ⟨g, cap, cur, rfl, hg, r⟩⟩, ok⟩ := h
  · exact ⟨⟨hl, .inl ⟨rfl, h0⟩⟩, ok⟩
  · exact ⟨⟨hl, .inr ⟨g, cap, cur, rfl, Nat.le_trans hC hg, r⟩⟩, ok⟩
theorem IsRow.more {w : World} {B : Nat} {v : Value} {l p : List Nat} (h : w.ownsRow B 5 1 v (l.length + p.length) (u8s l ++ u8s p)) (hl : BytesOk l) (hp : BytesOk p) : IsRow w B v (l ++ p) :=
  ⟨by rw [List.length_append, show u8s (l ++ p) = u8s l ++ u8s p by simp [u8s]]; exact h, hl.append hp⟩
theorem run_append_lit_row {w : World} {B : Nat} {v : Value} {l p : List Nat} (h : IsLit w B v l) (hl : BytesOk l) (hp : BytesOk p) (hm : 0 < p.length) (hpm : p.length ≤ 100000000000000) (a : Addr) (c : Nat) (hc : ∀ j u, (u8s p)[j]? = some u → w.cell? (a.add j) = some u) (hB : B ≤ w.heap.size) :
    ∃ v' w', (Builtin.append_ #[27, 27] 27 #[v, .slice (some a) p.length c]).run Tryd.prog w = .ok v' w' ∧ IsRow w' B v' (l ++ p) ∧ Mine v w v' w' := by
  obtain ⟨i0, hi, hz0, hz1, hz2⟩ := info_parts infoByte
  obtain ⟨g, cs, ty, fr, rfl, hg, hb, hcs, hml⟩ := h
  have hr := run_append_grow (P := Tryd.prog) w 27 27 5 i0 _ Tryd.underlying27 hi hz0 ⟨g, 0, none⟩ l.length l.length (u8s l) (by rw [u8s_len, hz1, Nat.mul_one]) (fun j u hj => by
      rw [add_off, Nat.zero_add, cell_of_row w g j cs ty fr hb]
      rw [u8s_get] at hj
      by_cases hjl : j < l.length
      · rw [List.getElem?_eq_getElem hjl] at hj
        rw [hcs j hjl, ← hj]; rfl
      · rw [List.getElem?_eq_none (by omega)] at hj; cases hj)
    a p.length c (u8s p) (by rw [u8s_len, hz1, Nat.mul_one]) hc (by omega) (by omega) (growslice_fits (by omega) (by rw [hz2]; omega))
  have hge := grownCap_ge w (l.length + p.length) l.length 5
  have hcm : grownCap w (l.length + p.length) l.length 5 ≤ maxLen := grownCap_le_maxLen w _ _ _ (by unfold maxLen; omega)
  refine ⟨_, _, hr, IsRow.more (p := p) ⟨?_, .inr ⟨w.heap.size, _, _, rfl, hB, heap_alloc_new w.drew _, hge, hcm, ?_, ?_⟩⟩ hl hp, ⟨(Upd.refl _ _).drew.alloc _, fun x hx => .inr (by simp [Value.ownBlock] at hx; omega)⟩⟩
  · rw [List.length_append, u8s_len, u8s_len, Nat.mul_one]
  · simp only [Array.size_append, List.size_toArray, size_zeroCells, u8s_len, Nat.mul_one]
    rw [show (Value.int IntKind.u8 0).cells.size = 1 from rfl]
    omega
  · simp only [Array.toList_append, List.append_assoc, Nat.mul_one]
    rw [← List.append_assoc]
    exact List.take_left' (by rw [List.length_append, u8s_len, u8s_len])
theorem run_append_row {w : World} {B : Nat} {v : Value} {l p : List Nat} (hown : IsOut w B v l) (hp : BytesOk p) (hm : 0 < p.length) (hpm : l.length + p.length ≤ 100000000000000) (a : Addr) (c : Nat) (hc : ∀ j u, (u8s p)[j]? = some u → w.cell? (a.add j) = some u) (hB : B ≤ w.heap.size) :
    ∃ v' w', (Builtin.append_ #[27, 27] 27 #[v, .slice (some a) p.length c]).run Tryd.prog w = .ok v' w' ∧ IsRow w' B v' (l ++ p) ∧ Mine v w v' w' := by
  rcases hown.row with hr | hr
  · obtain ⟨i0, hi, hz0, hz1, hz2⟩ := info_parts infoByte
    obtain ⟨v', w', h1, h2, h3⟩ := run_append_blk (P := Tryd.prog) w B 27 27 5 i0 _ 1 1 Tryd.underlying27 hi hz0 hz1 hz2 rfl (by decide) v _ _ hr a p.length c (u8s p) (by rw [u8s_len, Nat.mul_one]) hc (u8s_one p) (by unfold maxLen; omega) (by omega) hB
    exact ⟨v', w', h1, IsRow.more h2 hown.ok hp, h3⟩
  · exact run_append_lit_row hr hown.ok hp hm (by omega) a c hc hB
theorem wpList_pushes_row {w : World} {ops : Array Oper} {rest : List Oper} {o : Oper} {a : Act} {Q : Exit → Act → World → Prop} (hgd : o.guard = none) (s x : Operand)
    (ho : o.op = .call { callee := .builtin .append, args := #[s, x], argTypes := #[27, 27] }) (hty : o.type = 27) {B : Nat} {v : Value} {l p : List Nat} (hs : a.eval s = v) (hown : IsOut w B v l)
    (ad : Addr) (n c : Nat) (hn : n = p.length) (hx : a.eval x = .slice (some ad) n c) (hc : ∀ j u, (u8s p)[j]? = some u → w.cell? (ad.add j) = some u) (hp : BytesOk p) (hm : 0 < p.length) (hr : l.length + p.length ≤ 100000000000000) (hB : B ≤ w.heap.size)
    (h : ∀ v' w', IsRow w' B v' (l ++ p) → Mine v w v' w' → wpList Tryd.prog ops Q rest (a.put o.dst v') w') : wpList Tryd.prog ops Q (o :: rest) a w := by
  subst hn
  obtain ⟨v', w', hr, h2, h3⟩ := run_append_row hown hp hm hr ad c hc hB
  refine wpList_val (w' := w') hgd v' ?_ (h v' w' h2 h3)
  unfold execOp
  simp only [ho, hty, resolve, invoke, builtin, Sem.run_bind, Sem.run_pure, Result.andThen_ok, List.map_toArray, List.map_cons, List.map_nil, hs, hx, hr]
def CloneRow (B : Nat) (l : List Nat) (e : Ending) (w' : World) : Prop := ∃ v, e = .returned v ∧ IsRow w' B v l
set_option maxRecDepth 100000 in
set_option maxHeartbeats 1600000 in
theorem clone_row {w : World} {a : Option Addr} {l : List Nat} {cap : Nat} (hb : IsBytes w a l) (h0 : 0 < l.length) (h1 : l.length ≤ 1000000) :
    Calls Tryd.prog 63 #[.slice a l.length cap] w fun e w' => CloneRow w.heap.size l e w' ∧ Upd [] w w' := by
  obtain ⟨b, o, rfl, hc0⟩ := hb.2 0 h0
  clear hc0
  have HB := Lib.hid (hb.upd ((Upd.refl [] w).alloc (.cells #[] 5)) (by simp))
  have HL : Hid (IsOut (w.alloc (.cells #[] 5)) w.heap.size (.slice (some ⟨w.heap.size, 0, none⟩) 0 0) []) := isOut_lit (l := []) (heap_alloc_new w _) BytesOk.nil (Nat.le_refl _) (by decide)
  have hn : ∀ w, (binOp .eql 27 (.slice (some ⟨b, o, none⟩) l.length cap) (.slice none 0 0)).run Tryd.prog w = .ok (.bool false) w := fun w => by
    simp only [binOp]
    simp [Op.equal, Op.maxDepth, Lib.run_equalIn_slice_nil w 9999 _ _ _ _ _ _ _ Tryd.underlying27]
  have H0 := Lib.hid h0
  have H1 := Lib.hid h1
  clear hb h0 h1
  go_enter Tryd.func63, Tryd.ntmps63
  go_wp2_with (at_builtin; refine wpList_pushes_row (p := l) rfl (.tmp 5) (.tmp 6) rfl rfl rfl HL.out ⟨b, o, none⟩ l.length cap rfl rfl HB.out.news HB.out.1 H0.out (by have := H1.out; simp; omega) (by simp) ?_; intro v6 w6 g6 m6; have G6 := Lib.hid g6; have M6 := Lib.hid m6; clear g6 m6)
  go_ret
  have hu6 := ((Upd.refl [] w).alloc (.cells #[] 5)).step (show Upd [w.heap.size] _ _ from M6.out.upd) (fun x hx => .inr (by simp at hx; omega))
  exact ⟨⟨_, rfl, G6.out⟩, hu6⟩

/-- What reading a page hands back, in bytes that may be written. -/
def PageOwn (B : Nat) (o : Option (Int × List Nat)) (e : Ending) (w' : World) : Prop :=
  ∃ v, e = .returned (.tuple #[.agg #[.int .i64 (o.getD (0, [])).1, v], .bool o.isSome]) ∧ IsRow w' B v (o.getD (0, [])).2
theorem PageOwn.no (B : Nat) (w : World) : PageOwn B none (.returned (.tuple #[.agg #[.int .i64 0, .slice none 0 0], .bool false])) w := ⟨.slice none 0 0, rfl, IsRow.nil w B⟩
theorem PageOwn.zero (B : Nat) (w : World) : PageOwn B (some (0, [])) (.returned (.tuple #[.agg #[.int .i64 0, .slice none 0 0], .bool true])) w := ⟨.slice none 0 0, rfl, IsRow.nil w B⟩
/-- What reading a page hands back. -/
def PageRes (B : Nat) (o : Option (Int × List Nat)) (e : Ending) (w' : World) : Prop :=
  ∃ v, e = .returned (.tuple #[.agg #[.int .i64 (o.getD (0, [])).1, v], .bool o.isSome]) ∧ IsRet w' B v (o.getD (0, [])).2
theorem PageOwn.res {B : Nat} {o : Option (Int × List Nat)} {e : Ending} {w' : World} (h : PageOwn B o e w') : PageRes B o e w' := by
  obtain ⟨v, he, hv⟩ := h
  exact ⟨v, he, hv.ret⟩
theorem PageRes.no (B : Nat) (w : World) : PageRes B none (.returned (.tuple #[.agg #[.int .i64 0, .slice none 0 0], .bool false])) w := ⟨.slice none 0 0, rfl, IsRet.nil w B⟩
theorem PageRes.zero (B : Nat) (w : World) : PageRes B (some (0, [])) (.returned (.tuple #[.agg #[.int .i64 0, .slice none 0 0], .bool true])) w := ⟨.slice none 0 0, rfl, IsRet.nil w B⟩
theorem infoPage : (Tryd.prog.info? 37).map (·.size) = some 2 := by kernel_rfl
theorem buildPg0 (w : World) : (Instr.build 37 #[]).run Tryd.prog w = .ok (.agg #[.int .i64 0, .slice none 0 0]) w := run_build w _ _ _ (by kernel_rfl)
theorem buildPg1 (k : Int) (w : World) : (Instr.build 37 #[(0, .int .i64 k)]).run Tryd.prog w = .ok (.agg #[.int .i64 k, .slice none 0 0]) w := run_build w _ _ _ (by kernel_rfl)
theorem make256 (w : World) : (Instr.makeSlice 27 (.int .i64 256) (.int .i64 256)).run Tryd.prog w = .ok (.slice (some ⟨w.heap.size, 0, none⟩) 256 256) (w.alloc (.cells (u8s zero256).toArray 5)) := by kernel_rfl
theorem isZero {w : World} (_S : List Nat) : IsBytes (w.alloc (.cells (u8s zero256).toArray 5)) (some ⟨w.heap.size, 0, none⟩) zero256 :=
  ⟨BytesOk.zeros 256, fun i hi => ⟨w.heap.size, 0, rfl, by rw [Nat.zero_add, (cells_of (heap_alloc_new w _)).1, List.getElem?_toArray, u8s_get, List.getElem?_eq_getElem hi]; rfl⟩⟩
set_option maxRecDepth 100000 in
set_option maxHeartbeats 1600000 in
theorem getPage_none {w : World} {a : Option Addr} {n cap : Nat} (m : Int) (hn : n ≤ 9223372036854775807) :
    Calls Tryd.prog 30 #[.pointer none, .slice a n cap, .int .i64 m] w fun e w' => PageRes w.heap.size none e w' ∧ Upd [] w w' := by
  have hbd := buildPg0
  have HX := Lib.hid (heap_alloc_new w (.cells #[.int .i64 0, .slice none 0 0] 37))
  go_enter Tryd.func30, Tryd.ntmps30
  go_wp2_with (first
    | (go_at_call 59; (with_reducible refine (sound_len (t := none) (.inl rfl) hn).mono ?_); rintro e w1 ⟨rfl, u1⟩; have U1 := Lib.hid u1; clear u1)
    | (refine wpList_store_all rfl 37 (.tmp 6) (.tmp 27) rfl w.heap.size _ rfl rfl _ _ (((Upd.refl [] _).alloc _).get (U1.out.get HX.out (by simp)) (by simp)) infoPage rfl (by kernel_rfl) ?_; intro w2 hg2 hu2 _; have G2 := Lib.hid hg2; have U2 := Lib.hid hu2; clear hg2 hu2))
  refine bodyPost_ret (results_block_tmp Tryd.results30 _ _ w.heap.size 2 _ _ _ _ rfl G2.out Tryd.underlying37 rfl infoPage rfl) rfl ⟨PageRes.no _ _, (((Upd.refl [] w).alloc _).trans U1.out |>.alloc _).step U2.out (fun x hx => .inr (by simp at hx; omega))⟩
end Go.Proofs.YtkahpkmofeglgaaDoor
namespace Go.Proofs.YtkahpkmofeglgaaDoor
open Go.RowKit

theorem zeroLen : zero256.length = 256 := List.length_replicate
set_option maxRecDepth 100000 in
set_option maxHeartbeats 1600000 in
theorem getPage_zeros_own {w : World} {t : Nat} {a : Option Addr} {l : List Nat} {cap : Nat} (m : Int) (hb : IsBytes w a l) (hz : decide (l = zero256) = true) :
    Calls Tryd.prog 30 #[pt t, .slice a l.length cap, .int .i64 m] w fun e w' => PageOwn w.heap.size (some (0, [])) e w' ∧ Upd [] w w' := by
  have hu := ((Upd.refl [] w).alloc (.cells #[.int .i64 0, .slice none 0 0] 37)).alloc (.cells (u8s zero256).toArray 5)
  have HX := Lib.hid (((Upd.refl [] _).alloc (.cells (u8s zero256).toArray 5)).get (heap_alloc_new w (.cells #[.int .i64 0, .slice none 0 0] 37)) (by simp))
  have heq := equal_any (cap := cap) (cap' := 256) (hb.upd hu (by simp)) (isZero (w := w.alloc (.cells #[.int .i64 0, .slice none 0 0] 37)) [])
  rw [hz, zeroLen, show (w.alloc (.cells #[.int .i64 0, .slice none 0 0] 37)).heap.size = w.heap.size + 1 by simp] at heq
  have HEQ := Lib.hid heq
  have HU := Lib.hid hu
  have hmk := make256
  have hbd := buildPg0
  clear hb hz hu heq
  go_enter Tryd.func30, Tryd.ntmps30
  go_wp2_with (first
    | (go_at_call 66; (with_reducible refine HEQ.out.mono ?_); rintro e w1 ⟨rfl, rfl⟩)
    | (refine wpList_store_all rfl 37 (.tmp 6) (.tmp 18) rfl w.heap.size _ rfl rfl _ _ HX.out infoPage rfl (by kernel_rfl) ?_; intro w2 hg2 hu2 _; have G2 := Lib.hid hg2; have U2 := Lib.hid hu2; clear hg2 hu2))
  refine bodyPost_ret (results_block_tmp Tryd.results30 _ _ w.heap.size 2 _ _ _ _ rfl G2.out Tryd.underlying37 rfl infoPage rfl) rfl ⟨PageOwn.zero _ _, HU.out.step U2.out (fun x hx => .inr (by simp at hx; omega))⟩
theorem getPage_zeros {w : World} {t : Nat} {a : Option Addr} {l : List Nat} {cap : Nat} (m : Int) (hb : IsBytes w a l) (hz : decide (l = zero256) = true) :
    Calls Tryd.prog 30 #[pt t, .slice a l.length cap, .int .i64 m] w fun e w' => PageRes w.heap.size (some (0, [])) e w' ∧ Upd [] w w' :=
  (getPage_zeros_own m hb hz).mono fun _ _ ⟨h1, h2⟩ => ⟨h1.res, h2⟩
set_option maxRecDepth 100000 in
set_option maxHeartbeats 1600000 in
theorem getPage_unsound_own {w : World} {t : Nat} {a : Option Addr} {l : List Nat} {cap : Nat} (m : Int) (ht : TabOk w t) (hb : IsBytes w a l) (hsep : ∀ b o, a = some ⟨b, o, none⟩ → b ≠ t) (hc : l.length ≤ cap) (hm : cap ≤ 9223372036854775807) (hz : decide (l = zero256) = false) (hs : soundL l [80, 80, 65, 71] = false) :
    Calls Tryd.prog 30 #[pt t, .slice a l.length cap, .int .i64 m] w fun e w' => PageOwn w.heap.size none e w' ∧ TabOk w' t ∧ Upd [t] w w' := by
  have hu := ((Upd.refl [] w).alloc (.cells #[.int .i64 0, .slice none 0 0] 37)).alloc (.cells (u8s zero256).toArray 5)
  have HX := Lib.hid (((Upd.refl [] _).alloc (.cells (u8s zero256).toArray 5)).get (heap_alloc_new w (.cells #[.int .i64 0, .slice none 0 0] 37)) (by simp))
  have heq := equal_any (cap := cap) (cap' := 256) (hb.upd hu (by simp)) (isZero (w := w.alloc (.cells #[.int .i64 0, .slice none 0 0] 37)) [])
  rw [hz, zeroLen, show (w.alloc (.cells #[.int .i64 0, .slice none 0 0] 37)).heap.size = w.heap.size + 1 by simp] at heq
  have HEQ := Lib.hid heq
  have HSD := Lib.hid (sound_false (s := ⟨#[80, 80, 65, 71]⟩) (ht.upd hu (by simp)) (hb.upd hu (by simp)) hsep hc hm hs)
  have HU := Lib.hid (hu.mono (T := [t]) (by simp))
  have hlt := Lib.hid ht.lt
  have hmk := make256
  have hbd := buildPg0
  clear hb hz hu heq ht hsep hs
  go_enter Tryd.func30, Tryd.ntmps30
  go_wp2_with (first
    | (go_at_call 66; (with_reducible refine HEQ.out.mono ?_); rintro e w1 ⟨rfl, rfl⟩)
    | (go_at_call 59; refine HSD.out.mono ?_; rintro e w1 ⟨rfl, t1, u1⟩; have T1 := Lib.hid t1; have U1 := Lib.hid u1; clear t1 u1)
    | (refine wpList_store_all rfl 37 (.tmp 6) (.tmp 27) rfl w.heap.size _ rfl rfl _ _ (((Upd.refl [] _).alloc _).get (U1.out.get HX.out (by have := hlt.out; simp; omega)) (by simp)) infoPage rfl (by kernel_rfl) ?_; intro w2 hg2 hu2 _; have G2 := Lib.hid hg2; have U2 := Lib.hid hu2; clear hg2 hu2))
  refine bodyPost_ret (results_block_tmp Tryd.results30 _ _ w.heap.size 2 _ _ _ _ rfl G2.out Tryd.underlying37 rfl infoPage rfl) rfl ⟨PageOwn.no _ _, (T1.out.upd ((Upd.refl [] _).alloc _) (by simp)).upd U2.out (by have := hlt.out; simp; omega), ((HU.out.trans U1.out).alloc _).step U2.out (fun x hx => .inr (by simp at hx; omega))⟩
/-- The tests of a page, one behind the other. -/
theorem getPage_unsound {w : World} {t : Nat} {a : Option Addr} {l : List Nat} {cap : Nat} (m : Int) (ht : TabOk w t) (hb : IsBytes w a l) (hsep : ∀ b o, a = some ⟨b, o, none⟩ → b ≠ t) (hc : l.length ≤ cap) (hm : cap ≤ 9223372036854775807) (hz : decide (l = zero256) = false) (hs : soundL l [80, 80, 65, 71] = false) :
    Calls Tryd.prog 30 #[pt t, .slice a l.length cap, .int .i64 m] w fun e w' => PageRes w.heap.size none e w' ∧ TabOk w' t ∧ Upd [t] w w' :=
  (getPage_unsound_own m ht hb hsep hc hm hz hs).mono fun _ _ ⟨h1, h2⟩ => ⟨h1.res, h2⟩
theorem pageTest_cases (l : List Nat) (n : Int) :
    (pageTest l n = true ∧ decide (numi (seg l 4 1) < 1) = false ∧ decide (5 < numi (seg l 4 1)) = false ∧ inB n 1023 = true ∧ (numi (seg l 5 4) != n) = false ∧ (numi (seg l 9 3) != 0) = false) ∨
    (pageTest l n = false ∧ ((decide (numi (seg l 4 1) < 1) = true) ∨ (decide (numi (seg l 4 1) < 1) = false ∧ decide (5 < numi (seg l 4 1)) = true) ∨ (decide (numi (seg l 4 1) < 1) = false ∧ decide (5 < numi (seg l 4 1)) = false ∧ inB n 1023 = false))) ∨
    (pageTest l n = false ∧ decide (numi (seg l 4 1) < 1) = false ∧ decide (5 < numi (seg l 4 1)) = false ∧ inB n 1023 = true ∧ (numi (seg l 5 4) != n) = true) ∨
    (pageTest l n = false ∧ decide (numi (seg l 4 1) < 1) = false ∧ decide (5 < numi (seg l 4 1)) = false ∧ inB n 1023 = true ∧ (numi (seg l 5 4) != n) = false ∧ (numi (seg l 9 3) != 0) = true) := by
  unfold pageTest
  by_cases h1 : numi (seg l 4 1) < 1
  · refine .inr (.inl ⟨by rw [decide_eq_false (by omega), Bool.false_and], .inl (decide_eq_true h1)⟩)
  by_cases h2 : 5 < numi (seg l 4 1)
  · refine .inr (.inl ⟨by rw [decide_eq_false (by omega), Bool.false_and], .inr (.inl ⟨decide_eq_false h1, decide_eq_true h2⟩)⟩)
  rw [decide_eq_true (show 1 ≤ numi (seg l 4 1) ∧ numi (seg l 4 1) ≤ 5 by omega), Bool.true_and]
  cases h3 : inB n 1023
  · exact .inr (.inl ⟨Bool.false_and _, .inr (.inr ⟨decide_eq_false h1, decide_eq_false h2, rfl⟩)⟩)
  rw [Bool.true_and]
  by_cases h4 : numi (seg l 5 4) = n
  · by_cases h5 : numi (seg l 9 3) = 0
    · exact .inl ⟨by rw [decide_eq_true h4, decide_eq_true h5, Bool.true_and], decide_eq_false h1, decide_eq_false h2, rfl, by simpa using h4, by simpa using h5⟩
    · exact .inr (.inr (.inr ⟨by rw [decide_eq_false h5, Bool.and_false], decide_eq_false h1, decide_eq_false h2, rfl, by simpa using h4, by simpa using h5⟩))
  · exact .inr (.inr (.inl ⟨by rw [decide_eq_false h4, Bool.false_and], decide_eq_false h1, decide_eq_false h2, rfl, by simpa using h4⟩))
set_option maxRecDepth 100000 in
set_option maxHeartbeats 6400000 in
theorem getPage_sound_own {w : World} {t : Nat} {a : Option Addr} {l : List Nat} {cap : Nat} (m : Int) (ht : TabOk w t) (hb : IsBytes w a l) (hsep : ∀ b o, a = some ⟨b, o, none⟩ → b ≠ t) (hc : l.length ≤ cap) (hm : cap ≤ 9223372036854775807) (hz : decide (l = zero256) = false) (hs : soundL l [80, 80, 65, 71] = true) :
    Calls Tryd.prog 30 #[pt t, .slice a l.length cap, .int .i64 m] w fun e w' => PageOwn w.heap.size (getPage l m) e w' ∧ TabOk w' t ∧ Upd [t] w w' := by
  have hgp : getPage l m = if pageTest l m then some (numi (seg l 4 1), seg l 12 240) else none := by
    unfold getPage
    rw [hz, hs, Bool.true_and]
    simp only [Bool.false_eq_true, if_false]
  have HGP := Lib.hid hgp
  have hu := ((Upd.refl [] w).alloc (.cells #[.int .i64 0, .slice none 0 0] 37)).alloc (.cells (u8s zero256).toArray 5)
  have HX := Lib.hid (((Upd.refl [] _).alloc (.cells (u8s zero256).toArray 5)).get (heap_alloc_new w (.cells #[.int .i64 0, .slice none 0 0] 37)) (by simp))
  have heq := equal_any (cap := cap) (cap' := 256) (hb.upd hu (by simp)) (isZero (w := w.alloc (.cells #[.int .i64 0, .slice none 0 0] 37)) [])
  rw [hz, zeroLen, show (w.alloc (.cells #[.int .i64 0, .slice none 0 0] 37)).heap.size = w.heap.size + 1 by simp] at heq
  have HEQ := Lib.hid heq
  have hl : l.length = 256 := by unfold soundL at hs; simp only [decide_eq_true_eq] at hs; exact hs.1
  obtain ⟨b, o, rfl, hsd⟩ := sound_true (s := ⟨#[80, 80, 65, 71]⟩) (ht.upd hu (by simp)) (hb.upd hu (by simp)) hsep hc hm hs
  have hne := hsep b o rfl
  have hbl : b < w.heap.size := World.block_lt_of_cell? _ _ (hb.at 0 (by omega))
  have HL := Lib.hid hl
  have HSD := Lib.hid hsd
  have HB := Lib.hid hb
  have HNE := Lib.hid hne
  have HBL := Lib.hid hbl
  have HU := Lib.hid (hu.mono (T := [t]) (by simp))
  have hlt := Lib.hid ht.lt
  have hmk := make256
  have hbd := fun a w => buildRd a 248 (cap - 4) w
  clear hb hz hu heq ht hsep hs hsd hl hne hbl hgp
  go_enter Tryd.func30, Tryd.ntmps30
  go_wp2_with (go_at_call 66; (with_reducible refine HEQ.out.mono ?_); rintro e w1 ⟨rfl, rfl⟩)
  refine HSD.out.mono ?_
  rintro e w1 ⟨rfl, t1, u1⟩
  have hu1 := HU.out.trans u1
  have hx1 := u1.get HX.out (by have := hlt.out; simp; omega)
  have hlw := lt_of_block hx1
  have hb1 := ((HB.out.upd hu1 (by rintro b' o' ⟨⟩; simpa using HNE.out)).drop 4).sub 248
  have hlen : ((l.drop 4).take 248).length = 248 := by rw [List.length_take, List.length_drop, HL.out]; rfl
  have hR : IsRd (w1.alloc (.cells #[.slice (some ⟨b, o + 4, none⟩) 248 (cap - 4)] 117)) w1.heap.size (some b) ((l.drop 4).take 248) :=
    ⟨⟨some ⟨b, o + 4, none⟩, cap - 4, by rw [hlen]; exact heap_alloc_new w1 _, hb1.upd ((Upd.refl [] w1).alloc _) (by simp), by rw [hlen]; have := HL.out; omega, by unfold maxLen; omega, by rintro b' o' ⟨⟩; rfl⟩, by intro e; simp only [Option.some.injEq] at e; have := HBL.out; omega⟩
  have HR := Lib.hid hR
  have HLEN := Lib.hid hlen
  have HX1 := Lib.hid hx1
  have T1 := Lib.hid t1
  have U1 := Lib.hid hu1
  have HRA := Lib.hid ((Upd.refl [] w1).alloc (.cells #[.slice (some ⟨b, o + 4, none⟩) 248 (cap - 4)] 117))
  clear t1 u1 hu1 hx1 hb1 hlen hR
  have hsg : ∀ i k, 4 + i + k ≤ 252 → (((l.drop 4).take 248).drop i).take k = seg l (4 + i) k := fun i k h => by
    rw [seg_take (4 + i) k 252 h (by rw [HL.out]; decide), show (l.drop 4).take 248 = (l.take 252).drop 4 by rw [List.drop_take], List.drop_drop]
  have HSG := Lib.hid hsg
  clear hsg
  go_wp2_with fail
  refine (get_k 1 1 rfl HR.out (by decide) (by rw [HLEN.out]; decide)).mono ?_
  rintro e w2 ⟨rfl, r2, u2⟩
  rw [show ((l.drop 4).take 248).take 1 = seg l 4 1 from HSG.out 0 1 (by decide)]
  have hu2 := HRA.out.step u2 (fun x hx => .inr (by simp at hx; omega))
  have R2 := Lib.hid (r2.upd ((Upd.refl [] w2).alloc (.cells #[.int .i64 (numi (seg l 4 1)), .slice none 0 0] 37)) (by simp) (by simp))
  have U2 := Lib.hid (hu2.alloc (.cells #[.int .i64 (numi (seg l 4 1)), .slice none 0 0] 37))
  have HP2 := Lib.hid (heap_alloc_new w2 (.cells #[.int .i64 (numi (seg l 4 1)), .slice none 0 0] 37))
  have HR2 := Lib.hid (show w1.heap.size < w2.heap.size from Nat.lt_of_lt_of_le (Nat.lt_succ_self _) (by have := u2.size; simpa using this))
  have hu2w := hu2
  clear r2 u2 hu2
  have hb1 := buildPg1 (numi (seg l 4 1))
  have hu12 := hu2w
  have HX2 := Lib.hid (((Upd.refl [] w2).alloc (.cells #[.int .i64 (numi (seg l 4 1)), .slice none 0 0] 37)).get (hu12.get HX1.out (by simp)) (by simp))
  have T2 := Lib.hid ((T1.out.upd hu12 (by simp)).upd ((Upd.refl [] w2).alloc (.cells #[.int .i64 (numi (seg l 4 1)), .slice none 0 0] 37)) (by simp))
  clear hu12 hu2w
  have hbd0 := buildPg0
  rcases pageTest_cases l m with ⟨hp, d1, d2, d3, d4, d5⟩ | ⟨hp, hd⟩ | ⟨hp, d1, d2, d3, d4⟩ | ⟨hp, d1, d2, d3, d4, d5⟩
  · have HP := Lib.hid (HGP.out.trans (by rw [hp, if_pos rfl]))
    clear hp
    go_wp2_with (go_at_call 52; refine (in_b _ _ _).mono ?_; rintro e w' ⟨rfl, rfl⟩)
    refine (get_k 4 4 rfl R2.out (by decide) (by rw [List.length_drop, HLEN.out]; decide)).mono ?_
    rintro e w3 ⟨rfl, r3, u3⟩
    rw [show (((l.drop 4).take 248).drop 1).take 4 = seg l 5 4 from HSG.out 1 4 (by decide)]
    rw [List.drop_drop] at r3
    have R3 := Lib.hid r3
    have u3b := U2.out.step u3 (fun x hx => .inr (by simp at hx; omega))
    have U3 := Lib.hid u3b
    have HX3 := Lib.hid (u3.get HX2.out (by simp; omega))
    have HP3 := Lib.hid (u3.get HP2.out (by have := HR2.out; simp; omega))
    have T3 := Lib.hid (T2.out.upd u3 (by have := hlt.out; simp; omega))
    clear r3 u3 u3b
    go_wp2_with fail
    refine (get_k 3 3 rfl R3.out (by decide) (by rw [List.length_drop, HLEN.out]; decide)).mono ?_
    rintro e w4 ⟨rfl, r4, u4⟩
    rw [show (((l.drop 4).take 248).drop (1 + 4)).take 3 = seg l 9 3 from HSG.out 5 3 (by decide)]
    rw [List.drop_drop] at r4
    have u4b := U3.out.step u4 (fun x hx => .inr (by simp at hx; omega))
    have U4 := Lib.hid u4b
    have HX4 := Lib.hid (u4.get HX3.out (by simp; omega))
    have HP4 := Lib.hid (u4.get HP3.out (by have := HR2.out; simp; omega))
    have T4 := Lib.hid (T3.out.upd u4 (by have := hlt.out; simp; omega))
    obtain ⟨⟨ar, cr, hrb, hry, hrc, hrm, hrq⟩, hrn⟩ := r4
    have hlen5 : (((l.drop 4).take 248).drop (1 + 4 + 3)).length = 240 := by rw [List.length_drop, HLEN.out]
    have hrcell := (cells_of hrb).1 0
    rw [hlen5] at hrcell
    simp only [List.getElem?_toArray, List.getElem?_cons_zero] at hrcell
    have hsg : ((l.drop 4).take 248).drop (1 + 4 + 3) = seg l 12 240 := by
      rw [← HSG.out 8 240 (by decide)]
      exact (List.take_of_length_le (by rw [hlen5]; exact Nat.le_refl _)).symm
    have hcl := clone_row (cap := cr) hry (by rw [hlen5]; decide) (by rw [hlen5]; decide)
    rw [hlen5, hsg] at hcl
    have HCL := Lib.hid hcl
    clear hrb hry hrc hrm hrq hrn hcl hsg hlen5 u4 u4b
    go_wp2_with fail
    refine HCL.out.mono ?_
    rintro e w5 ⟨⟨v5, rfl, g5⟩, u5⟩
    obtain ⟨a5, c5, rfl, hby5, hbk5, hm5⟩ := g5.out.slice
    have hsl : (seg l 12 240).length = 240 := seg_len l 12 240
    rw [hsl] at g5 hbk5 ⊢
    have G5 := Lib.hid g5
    have U5 := Lib.hid (U4.out.trans u5)
    have HX5 := Lib.hid (u5.get HX4.out (by simp))
    have hp5 := u5.get HP4.out (by simp)
    have T5 := Lib.hid (T4.out.upd u5 (by simp))
    have HW4 := Lib.hid (lt_of_block HX4.out)
    have HP4L := Lib.hid (lt_of_block HP4.out)
    have hst := heap_setCell_same w5 w2.heap.size 1 _ _ (.slice a5 240 c5) hp5
    have hk := (cells_of hp5).1 1
    have hz := (cells_of hp5).2 1
    simp only [List.getElem?_toArray, List.getElem?_cons_zero, List.getElem?_cons_succ] at hk
    have hu6 : Upd [w2.heap.size] w5 (w5.setCell ⟨w2.heap.size, 1, none⟩ (.slice a5 240 c5)) := (Upd.refl _ _).setCell (.inl (by simp)) _
    have HST := Lib.hid (show (w5.setCell ⟨w2.heap.size, 1, none⟩ (.slice a5 240 c5)).heap[w2.heap.size]? = some (.cells #[.int .i64 (numi (seg l 4 1)), .slice a5 240 c5] 37 (0, 0)) from hst)
    have HX6 := Lib.hid (hu6.get HX5.out (by have := HR2.out; simp; omega))
    have U6 := Lib.hid (U5.out.step hu6 (fun x hx => .inr (by have := HR2.out; simp at hx; omega)))
    have T6 := Lib.hid (T5.out.upd hu6 (by have := hlt.out; have := HR2.out; simp; omega))
    have G6 := Lib.hid (g5.upd hu6 (fun b hb => by have := HP4L.out; simp at hb; omega))
    clear g5 hby5 hbk5 u5 hm5 hst hp5 hu6
    go_wp2_with (first
      | (refine wpList_load_all rfl 37 (.tmp 10) rfl w2.heap.size 2 rfl _ _ _ _ HST.out Tryd.underlying37 rfl infoPage rfl ?_)
      | (refine wpList_store_all rfl 37 (.tmp 6) (.tmp 57) rfl w.heap.size _ rfl rfl _ _ HX6.out infoPage (by simp only [List.size_toArray, List.length_cons, List.length_nil]) rfl ?_; intro w7 hg7 hu7 _; have G7 := Lib.hid hg7; have U7 := Lib.hid hu7; clear hg7 hu7))
    refine bodyPost_ret (results_block_tmp Tryd.results30 _ _ w.heap.size 2 _ _ _ _ rfl G7.out Tryd.underlying37 rfl infoPage rfl) rfl ⟨?_, T6.out.upd U7.out (by have := hlt.out; simp; omega) |> .inr, (U1.out.trans (U6.out.mono (by simp))).step U7.out (fun x hx => .inr (by simp at hx; omega))⟩
    rw [HP.out]
    exact ⟨_, rfl, (G6.out.upd U7.out (fun b hb => by have := HW4.out; simp at hb; omega)).base (by have := HW4.out; omega)⟩
  · have HP := Lib.hid (HGP.out.trans (by rw [hp, if_neg Bool.false_ne_true]))
    clear hp
    rcases hd with d1 | ⟨d1, d2⟩ | ⟨d1, d2, d3⟩
    all_goals
      go_wp2_with (first
        | (go_at_call 52; refine (in_b _ _ _).mono ?_; rintro e w' ⟨rfl, rfl⟩)
        | (refine wpList_store_all rfl 37 (.tmp 6) (.tmp 52) rfl w.heap.size _ rfl rfl _ _ HX2.out infoPage rfl (by kernel_rfl) ?_; intro w6 hg6 hu6 _; have G6 := Lib.hid hg6; have U6 := Lib.hid hu6; clear hg6 hu6))
      refine bodyPost_ret (results_block_tmp Tryd.results30 _ _ w.heap.size 2 _ _ _ _ rfl G6.out Tryd.underlying37 rfl infoPage rfl) rfl ⟨by rw [HP.out]; exact PageOwn.no _ _, .inr (T2.out.upd U6.out (by have := hlt.out; simp; omega)), (U1.out.trans (U2.out.mono (by simp))).step U6.out (fun x hx => .inr (by simp at hx; omega))⟩
  · have HP := Lib.hid (HGP.out.trans (by rw [hp, if_neg Bool.false_ne_true]))
    clear hp
    go_wp2_with (go_at_call 52; refine (in_b _ _ _).mono ?_; rintro e w' ⟨rfl, rfl⟩)
    refine (get_k 4 4 rfl R2.out (by decide) (by rw [List.length_drop, HLEN.out]; decide)).mono ?_
    rintro e w3 ⟨rfl, r3, u3⟩
    rw [show (((l.drop 4).take 248).drop 1).take 4 = seg l 5 4 from HSG.out 1 4 (by decide)]
    have U3 := Lib.hid (U2.out.step u3 (fun x hx => .inr (by simp at hx; omega)))
    have HX3 := Lib.hid (u3.get HX2.out (by simp; omega))
    have T3 := Lib.hid (T2.out.upd u3 (by have := hlt.out; simp; omega))
    clear r3 u3
    go_wp2_with (refine wpList_store_all rfl 37 (.tmp 6) (.tmp 52) rfl w.heap.size _ rfl rfl _ _ HX3.out infoPage rfl (by kernel_rfl) ?_; intro w6 hg6 hu6 _; have G6 := Lib.hid hg6; have U6 := Lib.hid hu6; clear hg6 hu6)
    refine bodyPost_ret (results_block_tmp Tryd.results30 _ _ w.heap.size 2 _ _ _ _ rfl G6.out Tryd.underlying37 rfl infoPage rfl) rfl ⟨by rw [HP.out]; exact PageOwn.no _ _, .inr (T3.out.upd U6.out (by have := hlt.out; simp; omega)), (U1.out.trans (U3.out.mono (by simp))).step U6.out (fun x hx => .inr (by simp at hx; omega))⟩
  · have HP := Lib.hid (HGP.out.trans (by rw [hp, if_neg Bool.false_ne_true]))
    clear hp
    go_wp2_with (go_at_call 52; refine (in_b _ _ _).mono ?_; rintro e w' ⟨rfl, rfl⟩)
    refine (get_k 4 4 rfl R2.out (by decide) (by rw [List.length_drop, HLEN.out]; decide)).mono ?_
    rintro e w3 ⟨rfl, r3, u3⟩
    rw [show (((l.drop 4).take 248).drop 1).take 4 = seg l 5 4 from HSG.out 1 4 (by decide)]
    rw [List.drop_drop] at r3
    have R3 := Lib.hid r3
    have U3 := Lib.hid (U2.out.step u3 (fun x hx => .inr (by simp at hx; omega)))
    have HX3 := Lib.hid (u3.get HX2.out (by simp; omega))
    have T3 := Lib.hid (T2.out.upd u3 (by have := hlt.out; simp; omega))
    clear r3 u3
    go_wp2_with fail
    refine (get_k 3 3 rfl R3.out (by decide) (by rw [List.length_drop, HLEN.out]; decide)).mono ?_
    rintro e w4 ⟨rfl, r4, u4⟩
    rw [show (((l.drop 4).take 248).drop (1 + 4)).take 3 = seg l 9 3 from HSG.out 5 3 (by decide)]
    have U4 := Lib.hid (U3.out.step u4 (fun x hx => .inr (by simp at hx; omega)))
    have HX4 := Lib.hid (u4.get HX3.out (by simp; omega))
    have T4 := Lib.hid (T3.out.upd u4 (by have := hlt.out; simp; omega))
    clear r4 u4
    go_wp2_with (refine wpList_store_all rfl 37 (.tmp 6) (.tmp 52) rfl w.heap.size _ rfl rfl _ _ HX4.out infoPage rfl (by kernel_rfl) ?_; intro w6 hg6 hu6 _; have G6 := Lib.hid hg6; have U6 := Lib.hid hu6; clear hg6 hu6)
    refine bodyPost_ret (results_block_tmp Tryd.results30 _ _ w.heap.size 2 _ _ _ _ rfl G6.out Tryd.underlying37 rfl infoPage rfl) rfl ⟨by rw [HP.out]; exact PageOwn.no _ _, .inr (T4.out.upd U6.out (by have := hlt.out; simp; omega)), (U1.out.trans (U4.out.mono (by simp))).step U6.out (fun x hx => .inr (by simp at hx; omega))⟩
theorem getPage_sound {w : World} {t : Nat} {a : Option Addr} {l : List Nat} {cap : Nat} (m : Int) (ht : TabOk w t) (hb : IsBytes w a l) (hsep : ∀ b o, a = some ⟨b, o, none⟩ → b ≠ t) (hc : l.length ≤ cap) (hm : cap ≤ 9223372036854775807) (hz : decide (l = zero256) = false) (hs : soundL l [80, 80, 65, 71] = true) :
    Calls Tryd.prog 30 #[pt t, .slice a l.length cap, .int .i64 m] w fun e w' => PageRes w.heap.size (getPage l m) e w' ∧ TabOk w' t ∧ Upd [t] w w' :=
  (getPage_sound_own m ht hb hsep hc hm hz hs).mono fun _ _ ⟨h1, h2, h3⟩ => ⟨h1.res, h2, h3⟩
end Go.Proofs.YtkahpkmofeglgaaDoor
