/-
  PROVED HERE: GetNode of package codec, of any bytes. Conditions: the bytes can be read.
-/
import Derived.Test.YtkahpkmofeglgaaDoorNodeW
import Derived.Test.YtkahpkmofeglgaaDoorHeadG
import Derived.Deep.RegionLaw
import Derived.Deep.DeepCutAuto
namespace Go.Proofs.YtkahpkmofeglgaaDoor
open Go.RowKit

/-- One number more, as a step of a region that draws its order. -/
theorem step_pushi {w : World} {ops : Array Oper} {o : Oper} {a : Act} {K : Act → World → Prop} {Q : Exit → Act → World → Prop} {E : Prop} (hgd : o.guard = none) (s x : Operand)
    (ho : o.op = .call { callee := .builtin .append, args := #[s, x], argTypes := #[46, 46] }) {B : Nat} {v : Value} {l : List Int} (hs : a.eval s = v) (hown : IntsOut w B v l)
    (g : Nat) (c : Nat) (n : Int) (hx : a.eval x = .slice (some ⟨g, 0, none⟩) 1 c) (hc : w.cell? ⟨g, 0, none⟩ = some (.int .i64 n)) (hr : l.length ≤ 10000000000000) (hB : B ≤ w.heap.size)
    (h : ∀ a' n' c' w', IntsOut w' B (.slice a' n' c') (l ++ [n]) → Mine v w (.slice a' n' c') w' → K (a.put o.dst (.slice a' n' c')) w') :
    if Region.wanted o (yielded ops a.tmps) = true then Oper.wp Tryd.prog o a w K Q else E := by
  have hw : Region.wanted o (yielded ops a.tmps) = true := by simp [Region.wanted, hgd]
  rw [if_pos hw]
  obtain ⟨i0, hi, hz0, hz1, hz2⟩ := info_parts infoInt
  obtain ⟨v', w', hrun, h2, h3⟩ := run_append_blk (P := Tryd.prog) w B 46 o.type 3 i0 (.int .i64 0) 1 8 Tryd.underlying46 hi hz0 hz1 hz2 rfl (by decide) v _ _ hown ⟨g, 0, none⟩ 1 c [.int .i64 n] rfl (fun j u hj => by
    cases j with
    | zero => rw [add_off, hc]; simpa using hj
    | succ j => simp at hj) (by simp [Value.oneCell']) (by unfold maxLen; omega) (by omega) hB
  have ho' : IntsOut w' B v' (l ++ [n]) := by
    unfold IntsOut
    rw [List.length_append, show i64s (l ++ [n]) = i64s l ++ [.int .i64 n] by simp [i64s]]
    exact h2
  obtain ⟨a', c', e, _⟩ := ho'.slice
  subst e
  generalize (l ++ [n]).length = n' at ho' h3 hrun
  unfold Oper.wp
  simp [execOp, ho, resolve, invoke, builtin, hs, hx, hrun, Result.andThen]
  exact h _ _ _ _ ho' h3
/-- The same, the slice known in an earlier world. -/
theorem step_pushi2 {w w0 : World} {S0 : List Nat} {ops : Array Oper} {o : Oper} {a : Act} {K : Act → World → Prop} {Q : Exit → Act → World → Prop} {E : Prop} (hgd : o.guard = none) (s x : Operand)
    (ho : o.op = .call { callee := .builtin .append, args := #[s, x], argTypes := #[46, 46] }) {B : Nat} {v : Value} {l : List Int} (hs : a.eval s = v) (u : Upd S0 w0 w) (hown : IntsOut w0 B v l) (hd : ∀ y ∈ v.ownBlock.toList, y ∉ S0)
    (g : Nat) (c : Nat) (n : Int) (hx : a.eval x = .slice (some ⟨g, 0, none⟩) 1 c) (hc : w.cell? ⟨g, 0, none⟩ = some (.int .i64 n)) (hr : l.length ≤ 10000000000000) (hB : B ≤ w0.heap.size)
    (h : ∀ a' n' c' w', IntsOut w' B (.slice a' n' c') (l ++ [n]) → Mine v w (.slice a' n' c') w' → Upd (v.ownBlock.toList ++ S0) w0 w' → (∀ y ∈ (Value.slice a' n' c').ownBlock.toList, y ∈ v.ownBlock.toList ∨ w0.heap.size ≤ y) → K (a.put o.dst (.slice a' n' c')) w') :
    if Region.wanted o (yielded ops a.tmps) = true then Oper.wp Tryd.prog o a w K Q else E :=
  step_pushi hgd s x ho hs (hown.upd u hd) g c n hx hc hr (Nat.le_trans hB u.size) fun a' n' c' w' h1 h2 => h a' n' c' w' h1 h2 ((u.mono (fun y hy => by simp [hy])).trans (h2.upd.mono (fun y hy => by simp [hy]))) (fun y hy => (h2.blk y hy).imp id (fun h => Nat.le_trans u.size h))
theorem new1 (w : World) (x : Int) : (w.alloc (.cells #[.int .i64 x] 3)).drew.cell? ⟨w.heap.size, 0, none⟩ = some (.int .i64 x) := (cells_of (heap_alloc_new w _)).1 0
theorem new2 (w : World) (x y : Int) : ((w.alloc (.cells #[.int .i64 x] 3)).alloc (.cells #[.int .i64 y] 3)).drew.cell? ⟨w.heap.size + 1, 0, none⟩ = some (.int .i64 y) := by
  have h := (cells_of (heap_alloc_new (w.alloc (.cells #[.int .i64 x] 3)) (.cells #[.int .i64 y] 3))).1 0
  rw [show (w.alloc (.cells #[.int .i64 x] 3)).heap.size = w.heap.size + 1 by simp] at h
  exact h
theorem new3 (w : World) (x y : Int) : ((w.alloc (.cells #[.int .i64 x] 3)).alloc (.cells #[.int .i64 y] 3)).drew.cell? ⟨w.heap.size, 0, none⟩ = some (.int .i64 x) :=
  (cells_of (((Upd.refl [] _).alloc (.cells #[.int .i64 y] 3)).get (heap_alloc_new w (.cells #[.int .i64 x] 3)) (by simp))).1 0
theorem new4 (w : World) (x : Int) : (w.alloc (.cells #[.int .i64 x] 3)).cell? ⟨w.heap.size, 0, none⟩ = some (.int .i64 x) := (cells_of (heap_alloc_new w _)).1 0
def nd0 : Nd := ⟨false, [], []⟩
/-- What reading a node hands back. -/
def NodeRes (B : Nat) (o : Option Nd) (e : Ending) (w' : World) : Prop := ∃ v u, e = .returned (.tuple #[nodeV (o.getD nd0) v u, .bool o.isSome]) ∧ IntsOut w' B v (o.getD nd0).keys ∧ IntsOut w' B u (o.getD nd0).vals ∧ ∀ x ∈ v.ownBlock.toList, x ∉ u.ownBlock.toList
theorem NodeRes.no (B : Nat) (w : World) : NodeRes B none (.returned (.tuple #[.agg #[.bool false, .slice none 0 0, .slice none 0 0], .bool false])) w := ⟨.slice none 0 0, .slice none 0 0, rfl, IntsOut.nil w B, IntsOut.nil w B, by simp [Value.ownBlock]⟩
theorem infoNode : (Tryd.prog.info? 67).map (·.size) = some 3 := by kernel_rfl
theorem buildNd0 (w : World) : (Instr.build 67 #[]).run Tryd.prog w = .ok (.agg #[.bool false, .slice none 0 0, .slice none 0 0]) w := run_build w _ _ _ (by kernel_rfl)
theorem buildNd (b : Bool) (w : World) : (Instr.build 67 #[(0, .bool b)]).run Tryd.prog w = .ok (.agg #[.bool b, .slice none 0 0, .slice none 0 0]) w := run_build w _ _ _ (by kernel_rfl)
theorem getNode_not {l : List Nat} (h : okNode (nodeOf l (nodeCount l)) = false) : getNode l = none := by
  unfold getNode; rw [h]; simp
theorem getNode_tests (l : List Nat) (hb : BytesOk l) : (getNode l = none ∧ (decide (1 < numi (seg l 0 1)) = true ∨ (decide (1 < numi (seg l 0 1)) = false ∧ decide (8 < numi (seg l 1 1)) = true))) ∨ (num (seg l 0 1) ≤ 1 ∧ nodeCount l ≤ 8 ∧ decide (1 < numi (seg l 0 1)) = false ∧ decide (8 < numi (seg l 1 1)) = false) := by
  have e0 := seg_nat hb 0 1 (by decide)
  have e1 := seg_nat hb 1 1 (by decide)
  unfold nodeCount
  rw [e0, e1]
  by_cases h1 : num (seg l 0 1) ≤ 1
  · by_cases h2 : num (seg l 1 1) ≤ 8
    · exact .inr ⟨h1, h2, decide_eq_false (by omega), decide_eq_false (by omega)⟩
    · refine .inl ⟨getNode_not ?_, .inr ⟨decide_eq_false (by omega), decide_eq_true (by omega)⟩⟩
      unfold okNode
      rw [nodeOf_ok0, decide_eq_false (show ¬ nodeCount l ≤ 8 from h2)]; rfl
  · refine .inl ⟨?_, .inl (decide_eq_true (by omega))⟩
    unfold getNode
    rw [decide_eq_false h1]; simp
/-- A node that is being read: its block, the keys and the values so far. -/
def HalfN (w : World) (nb : Nat) (L : Bool) (ks vs : List Int) : Prop := ∃ v u, w.heap[nb]? = some (.cells #[.bool L, v, u] 67 (0, 0)) ∧ IntsOut w (nb + 1) v ks ∧ IntsOut w (nb + 1) u vs ∧ ∀ x ∈ v.ownBlock.toList, x ∉ u.ownBlock.toList
theorem leafN {w6 w7 wc w8 : World} {nb : Nat} {L : Bool} {ks vs : List Int} {v u s7 s8 : Value} {S8 : List Nat} (hcb : w6.heap[nb]? = some (.cells #[.bool L, v, u] 67 (0, 0))) (hlow : ∀ y ∈ S8, nb + 1 ≤ y) (U8 : Upd S8 w6 w8)
    (N7 : IntsOut w7 (nb + 1) s7 ks) (N8 : IntsOut w8 (nb + 1) s8 vs) (hw : Upd [] w7 wc) (M8 : Mine u wc s8 w8) (hd : ∀ y ∈ s7.ownBlock.toList, y ∉ u.ownBlock.toList) :
    ∃ S, Upd S w6 ((w8.setCell ⟨nb, 1, none⟩ s7).setCell ⟨nb, 2, none⟩ s8) ∧ (∀ y ∈ S, nb ≤ y) ∧ HalfN ((w8.setCell ⟨nb, 1, none⟩ s7).setCell ⟨nb, 2, none⟩ s8) nb L ks vs := by
  have hb8 := U8.get hcb (fun h => by have := hlow _ h; omega)
  have h1 := heap_setCell_same w8 nb 1 _ _ s7 hb8
  have h2 := heap_setCell_same _ nb 2 _ _ s8 h1
  have us : Upd [nb] w8 ((w8.setCell ⟨nb, 1, none⟩ s7).setCell ⟨nb, 2, none⟩ s8) := ((Upd.refl _ _).setCell (.inl (by simp)) _).setCell (.inl (by simp)) _
  have n7 : IntsOut w8 (nb + 1) s7 ks := (N7.upd hw (by simp)).upd M8.upd hd
  refine ⟨nb :: S8, (U8.mono (fun y hy => by simp [hy])).trans (us.mono (fun y hy => by simp at hy; simp [hy])), fun y hy => (List.mem_cons.1 hy).elim (fun h => Nat.le_of_eq h.symm) (fun h => Nat.le_of_succ_le (hlow y h)), ⟨s7, s8, h2, n7.upd us (fun y hy hy2 => by have := (n7.low y hy).1; simp at hy2; omega), N8.upd us (fun y hy hy2 => by have := (N8.low y hy).1; simp at hy2; omega), fun y hy hy2 => ?_⟩⟩
  rcases M8.blk y hy2 with h | h
  · exact hd y hy h
  · have := (N7.low y hy).2
    have := hw.size
    omega
theorem leafN' {w6 w7 wc w8 : World} {nb : Nat} {L : Bool} {ks vs : List Int} {v u s7 s8 : Value} {S7 : List Nat} (hcb : w6.heap[nb]? = some (.cells #[.bool L, v, u] 67 (0, 0))) (hlow : ∀ y ∈ S7, nb + 1 ≤ y) (U7 : Upd S7 w6 w7)
    (N7 : IntsOut w7 (nb + 1) s7 ks) (N8 : IntsOut w8 (nb + 1) s8 vs) (hw : Upd [] w8 wc) (M7 : Mine v wc s7 w7) (hd : ∀ y ∈ s8.ownBlock.toList, y ∉ v.ownBlock.toList) :
    ∃ S, Upd S w6 ((w7.setCell ⟨nb, 1, none⟩ s7).setCell ⟨nb, 2, none⟩ s8) ∧ (∀ y ∈ S, nb ≤ y) ∧ HalfN ((w7.setCell ⟨nb, 1, none⟩ s7).setCell ⟨nb, 2, none⟩ s8) nb L ks vs := by
  have hb8 := U7.get hcb (fun h => by have := hlow _ h; omega)
  have h1 := heap_setCell_same w7 nb 1 _ _ s7 hb8
  have h2 := heap_setCell_same _ nb 2 _ _ s8 h1
  have us : Upd [nb] w7 ((w7.setCell ⟨nb, 1, none⟩ s7).setCell ⟨nb, 2, none⟩ s8) := ((Upd.refl _ _).setCell (.inl (by simp)) _).setCell (.inl (by simp)) _
  have n8 : IntsOut w7 (nb + 1) s8 vs := (N8.upd hw (by simp)).upd M7.upd hd
  refine ⟨nb :: S7, (U7.mono (fun y hy => by simp [hy])).trans (us.mono (fun y hy => by simp at hy; simp [hy])), fun y hy => (List.mem_cons.1 hy).elim (fun h => Nat.le_of_eq h.symm) (fun h => Nat.le_of_succ_le (hlow y h)), ⟨s7, s8, h2, N7.upd us (fun y hy hy2 => by have := (N7.low y hy).1; simp at hy2; omega), n8.upd us (fun y hy hy2 => by have := (n8.low y hy).1; simp at hy2; omega), fun y hy hy2 => ?_⟩⟩
  rcases M7.blk y hy with h | h
  · exact hd y hy2 h
  · have := (N8.low y hy2).2
    have := hw.size
    omega
set_option maxRecDepth 100000 in
set_option maxHeartbeats 1600000 in
theorem getNode_len {w : World} {a : Option Addr} {n cap : Nat} (h : ¬ (n : Int) = 240) :
    Calls Tryd.prog 37 #[.slice a n cap] w fun e w' => NodeRes w.heap.size none e w' ∧ Upd [] w w' := by
  have hbd := buildNd0
  have hd : ((n : Int) != 240) = true := by simpa using h
  have HX := Lib.hid (heap_alloc_new w (.cells #[.bool false, .slice none 0 0, .slice none 0 0] 67))
  have HU := Lib.hid ((Upd.refl [] w).alloc (.cells #[.bool false, .slice none 0 0, .slice none 0 0] 67))
  go_enter Tryd.func37, Tryd.ntmps37
  go_wp2_with (refine wpList_store_all rfl 67 (.tmp 2) (.tmp 13) rfl w.heap.size _ rfl rfl _ _ HX.out infoNode rfl (by kernel_rfl) ?_; intro w2 hg2 hu2 _; have G2 := Lib.hid hg2; have U2 := Lib.hid hu2; clear hg2 hu2)
  refine bodyPost_ret (results_block_tmp Tryd.results37 _ _ w.heap.size 3 _ _ _ _ rfl G2.out Tryd.underlying67 rfl infoNode rfl) rfl ⟨NodeRes.no _ _, HU.out.step U2.out (fun x hx => .inr (by simp at hx; omega))⟩
set_option maxRecDepth 100000 in
set_option maxHeartbeats 6400000 in
theorem getNode_240 {w : World} {b o : Nat} {l : List Nat} {cap : Nat} (hb : IsBytes w (some ⟨b, o, none⟩) l) (hc : l.length ≤ cap) (hm : cap ≤ 9223372036854775807) (h240 : l.length = 240) :
    Calls Tryd.prog 37 #[.slice (some ⟨b, o, none⟩) 240 cap] w fun e w' => NodeRes w.heap.size (getNode l) e w' ∧ Upd [] w w' := by
  have hbl : b < w.heap.size := World.block_lt_of_cell? _ _ (hb.at 0 (by omega))
  have hX0 := heap_alloc_new w (.cells #[.bool false, .slice none 0 0, .slice none 0 0] 67)
  have hU0 := (Upd.refl [] w).alloc (.cells #[.bool false, .slice none 0 0, .slice none 0 0] 67)
  have hR : IsRd ((w.alloc (.cells #[.bool false, .slice none 0 0, .slice none 0 0] 67)).alloc (.cells #[.slice (some ⟨b, o, none⟩) 240 cap] 117)) (w.heap.size + 1) (some b) l := by
    have hn := heap_alloc_new (w.alloc (.cells #[.bool false, .slice none 0 0, .slice none 0 0] 67)) (.cells #[.slice (some ⟨b, o, none⟩) 240 cap] 117)
    rw [show (w.alloc (.cells #[.bool false, .slice none 0 0, .slice none 0 0] 67)).heap.size = w.heap.size + 1 by simp] at hn
    exact ⟨⟨some ⟨b, o, none⟩, cap, by rw [h240]; exact hn, hb.upd (hU0.alloc _) (by simp), hc, by unfold maxLen; omega, by rintro b' o' ⟨⟩; rfl⟩, by intro e; simp only [Option.some.injEq] at e; omega⟩
  have HTS := Lib.hid (getNode_tests l hb.1)
  have HGN := Lib.hid (getNode_not (l := l))
  have hyes : num (seg l 0 1) ≤ 1 → okNode (nodeOf l (nodeCount l)) = true → getNode l = if bare (l.drop (2 + 6 * nodeCount l)) then some (nodeOf l (nodeCount l)) else none := by
    intro h1 ho; unfold getNode; rw [decide_eq_true h240, decide_eq_true h1, ho, Bool.true_and, Bool.true_and, Bool.true_and]
  have HGY := Lib.hid hyes
  have HR := Lib.hid hR
  have HL := Lib.hid h240
  have HBL := Lib.hid hbl
  have HCN := Lib.hid (show numi (seg l 1 1) = (nodeCount l : Int) from seg_nat hb.1 1 1 (by decide))
  have hbd := fun w => buildRd (some ⟨b, o, none⟩) 240 cap w
  have hbd0 := buildNd0
  have hX1 := (Upd.refl [] _ |>.alloc (.cells #[.slice (some ⟨b, o, none⟩) 240 cap] 117)).get hX0 (by simp)
  have HX1 := Lib.hid hX1
  have HU1 := Lib.hid (hU0.alloc (.cells #[.slice (some ⟨b, o, none⟩) 240 cap] 117))
  have hsg : ∀ i k, i + k ≤ 240 → (l.drop i).take k = seg l i k := fun i k h => (seg_eq (by rw [h240]; exact h)).symm
  have HSG := Lib.hid hsg
  clear hb hc h240 hbl hX0 hU0 hR hyes hX1 hsg
  go_enter Tryd.func37, Tryd.ntmps37
  go_wp2_with fail
  refine (get_k 1 1 rfl HR.out (by decide) (by rw [HL.out]; decide)).mono ?_
  rintro e w2 ⟨rfl, r2, u2⟩
  rw [show l.take 1 = seg l 0 1 from HSG.out 0 1 (by decide)]
  have R2 := Lib.hid r2
  have U2 := Lib.hid (HU1.out.step u2 (fun x hx => .inr (by simp at hx; omega)))
  have HX2 := Lib.hid (u2.get HX1.out (by simp))
  clear r2 u2
  go_wp2_with fail
  refine (get_k 1 1 rfl R2.out (by decide) (by rw [List.length_drop, HL.out]; decide)).mono ?_
  rintro e w3 ⟨rfl, r3, u3⟩
  rw [HSG.out 1 1 (by decide)]
  rw [List.drop_drop] at r3
  have R3 := Lib.hid r3
  have U3 := Lib.hid (U2.out.step u3 (fun x hx => .inr (by simp at hx; omega)))
  have HX3 := Lib.hid (u3.get HX2.out (by simp))
  have hw3 : w.heap.size + 1 < w3.heap.size := by
    obtain ⟨⟨_, _, hrb, _⟩, _⟩ := r3
    exact lt_of_block hrb
  have HW3 := Lib.hid hw3
  clear r3 u3 R2 U2 HX1 HX2 hw3
  rcases HTS.out with ⟨hg, hd⟩ | ⟨h1, h8, d1, d2⟩
  · have HG := Lib.hid hg
    clear hg
    rcases hd with d1 | ⟨d1, d2⟩
    all_goals
      go_wp2_with (refine wpList_store_all rfl 67 (.tmp 2) (.tmp 24) rfl w.heap.size _ rfl rfl _ _ HX3.out infoNode rfl (by kernel_rfl) ?_; intro w6 hg6 hu6 _; have G6 := Lib.hid hg6; have U6 := Lib.hid hu6; clear hg6 hu6)
      refine bodyPost_ret (results_block_tmp Tryd.results37 _ _ w.heap.size 3 _ _ _ _ rfl G6.out Tryd.underlying67 rfl infoNode rfl) rfl ⟨by rw [HG.out]; exact NodeRes.no _ _, U3.out.step U6.out (fun x hx => .inr (by simp at hx; omega))⟩
  have HOY := Lib.hid (show okPairs (nodeOf l (nodeCount l)).pairs = true → okNode (nodeOf l (nodeCount l)) = true from fun h => by unfold okNode; rw [nodeOf_ok0, decide_eq_true h8]; exact h)
  have HNP : Hid (∀ k, k < nodeCount l → okPair (numi (seg l (2 + 6 * k) 4), numi (seg l (6 + 6 * k) 2)) = false → getNode l = none) := fun k hk h => HGN.out (by
    unfold okNode
    rw [okPairs_not (l := (nodeOf l (nodeCount l)).pairs) (k := k) (by rw [nodeOf_pairs_len]; exact hk) (by rw [nodeOf_pairs_get]; exact h), Bool.and_false])
  have HGY1 := Lib.hid (HGY.out h1)
  obtain ⟨L, hL⟩ : ∃ L, decide (numi (seg l 0 1) = 1) = L := ⟨_, rfl⟩
  have hL2 : (numi (seg l 0 1) == 1) = L := by rw [← hL]; by_cases h : numi (seg l 0 1) = 1 <;> simp [h]
  have HLD : Hid (∀ m, nodeOf l m = ⟨L, keysOf l m, valsOf l m⟩) := fun m => by unfold nodeOf; rw [hL]
  obtain ⟨n, hn⟩ : ∃ n, nodeCount l = n := ⟨_, rfl⟩
  have HCN' := HCN.out
  rw [hn] at h8 HOY HNP HGY1 HCN'
  rw [HCN'] at d2 ⊢
  generalize numi (seg l 0 1) = A at d1 hL hL2 ⊢
  have HNN := Lib.hid hn
  clear hn HCN' HTS HGN HGY h1
  have HP3 := Lib.hid (heap_alloc_new w3 (.cells #[.bool L, .slice none 0 0, .slice none 0 0] 67))
  have HX4 := Lib.hid (((Upd.refl [] w3).alloc (.cells #[.bool L, .slice none 0 0, .slice none 0 0] 67)).get HX3.out (by simp))
  have R4 := Lib.hid (R3.out.upd ((Upd.refl [] w3).alloc (.cells #[.bool L, .slice none 0 0, .slice none 0 0] 67)) (by simp) (by simp))
  have U4 := Lib.hid (U3.out.alloc (.cells #[.bool L, .slice none 0 0, .slice none 0 0] 67))
  have hbl1 := fun w => buildNd L w
  go_wp2_with fail
  go_loopw [29] (fun i wr => ∃ k : Nat, k ≤ n ∧ i = .int .i64 k ∧ (∀ j, j < k → okPair (numi (seg l (2 + 6 * j) 4), numi (seg l (6 + 6 * j) 2)) = true) ∧ IsRd wr (w.heap.size + 1) (some b) (l.drop (2 + 6 * k)) ∧ HalfN wr w3.heap.size L (keysOf l k) (valsOf l k) ∧ wr.heap[w.heap.size]? = some (.cells #[.bool false, .slice none 0 0, .slice none 0 0] 67 (0, 0)) ∧ Upd [] w wr) (fun i _ => n - (intOf i).toNat)
  case atStart => exact ⟨0, by omega, rfl, fun j hj => absurd hj (by omega), R4.out, ⟨_, _, HP3.out, by simpa [keysOf] using IntsOut.nil _ _, by simpa [valsOf] using IntsOut.nil _ _, by simp [Value.ownBlock]⟩, HX4.out, U4.out⟩
  case round =>
    obtain ⟨k, hk, rfl, hin, hR, hF, hX, hU⟩ := hrel
    have HIN := Lib.hid hin
    have HU := Lib.hid hU
    have HRD := Lib.hid hR
    have HXr := Lib.hid hX
    obtain ⟨v, u, hcb, hio, hiu, hdis⟩ := hF
    have HCB := Lib.hid hcb
    have HIO := Lib.hid hio
    have HIU := Lib.hid hiu
    have HDIS := Lib.hid hdis
    clear hin hR hU hcb hio hiu hX hdis
    by_cases hlt7 : k < n
    · have hget := get_k 4 4 rfl HRD.out (by decide) (by rw [List.length_drop, HL.out]; omega)
      rw [HSG.out (2 + 6 * k) 4 (by omega)] at hget
      have HGET := Lib.hid hget
      have HNO := Lib.hid (HNP.out k hlt7)
      have HSK := Lib.hid (keysOf_succ l k)
      have HSV := Lib.hid (valsOf_succ l k)
      have HLK := Lib.hid (show (keysOf l k).length ≤ 10000000000000 by rw [keysOf_len]; omega)
      have HLV := Lib.hid (show (valsOf l k).length ≤ 10000000000000 by rw [valsOf_len]; omega)
      clear hget
      go_wp2_with fail
      refine HGET.out.mono ?_
      rintro e w5 ⟨rfl, r5, u5⟩
      rw [List.drop_drop] at r5
      have hget := get_k 2 2 rfl r5 (by decide) (by rw [List.length_drop, HL.out]; omega)
      rw [HSG.out (2 + 6 * k + 4) 2 (by omega), show 2 + 6 * k + 4 = 6 + 6 * k by omega] at hget
      have HGET2 := Lib.hid hget
      clear hget r5
      go_wp2_with fail
      refine HGET2.out.mono ?_
      rintro e w6 ⟨rfl, r6, u6⟩
      rw [List.drop_drop, show 6 + 6 * k + 2 = 2 + 6 * (k + 1) by omega] at r6
      have u56 := u5.trans u6
      have hw3 := HW3.out
      have hcb6 := u56.get HCB.out (by simp; omega)
      have hio6 := HIO.out.upd u56 (fun y hy hy2 => by have := HIO.out.low y hy; simp at hy2; omega)
      have hiu6 := HIU.out.upd u56 (fun y hy hy2 => by have := HIU.out.low y hy; simp at hy2; omega)
      have HIO6 := Lib.hid hio6
      have HIU6 := Lib.hid hiu6
      have HCB6 := Lib.hid hcb6
      have R6 := Lib.hid r6
      have U6 := Lib.hid (HU.out.step u56 (fun x hx => .inr (by simp at hx; omega)))
      have HX6 := Lib.hid (u56.get HXr.out (by simp))
      have hsz6 := lt_of_block hcb6
      clear r6 u5 u6 u56 hcb6 hio6 hiu6 HGET HGET2
      obtain ⟨x, hx⟩ : ∃ x, numi (seg l (2 + 6 * k) 4) = x := ⟨_, rfl⟩
      obtain ⟨y, hy⟩ : ∃ y, numi (seg l (6 + 6 * k) 2) = y := ⟨_, rfl⟩
      rw [hx] at HSK
      rw [hy] at HSV
      rw [hx, hy] at HNO
      rw [hx, hy]
      have HXE := Lib.hid hx
      have HYE := Lib.hid hy
      clear hx hy
      unfold okPair at HNO
      simp only at HNO
      cases hI : inB x 1048575
      · go_wp2_with (first
          | (go_at_call 52; refine (in_b _ _ _).mono ?_; rintro e w' ⟨rfl, rfl⟩)
          | (refine wpList_store_all rfl 67 (.tmp 2) (.tmp 41) rfl w.heap.size _ rfl rfl _ _ HX6.out infoNode rfl (by kernel_rfl) ?_; intro w7 hg7 hu7 _; have G7 := Lib.hid hg7; have U7 := Lib.hid hu7; clear hg7 hu7))
        refine bodyPost_ret (results_block_tmp Tryd.results37 _ _ w.heap.size 3 _ _ _ _ rfl G7.out Tryd.underlying67 rfl infoNode rfl) rfl ⟨by rw [HNO.out (by rw [hI]; rfl)]; exact NodeRes.no _ _, U6.out.step U7.out (fun x hx => .inr (by simp at hx; omega))⟩
      cases hJ : inB y 1023
      · go_wp2_with (first
          | (go_at_call 52; refine (in_b _ _ _).mono ?_; rintro e w' ⟨rfl, rfl⟩)
          | (refine wpList_store_all rfl 67 (.tmp 2) (.tmp 41) rfl w.heap.size _ rfl rfl _ _ HX6.out infoNode rfl (by kernel_rfl) ?_; intro w7 hg7 hu7 _; have G7 := Lib.hid hg7; have U7 := Lib.hid hu7; clear hg7 hu7))
        refine bodyPost_ret (results_block_tmp Tryd.results37 _ _ w.heap.size 3 _ _ _ _ rfl G7.out Tryd.underlying67 rfl infoNode rfl) rfl ⟨by rw [HNO.out (by rw [hI, hJ]; rfl)]; exact NodeRes.no _ _, U6.out.step U7.out (fun x hx => .inr (by simp at hx; omega))⟩
      obtain ⟨av, cv, rfl, _, _, _, _⟩ := HIO6.out.slice
      obtain ⟨au, cu, rfl, _, _, _, _⟩ := HIU6.out.slice
      generalize (keysOf l k).length = nv at HIO6 HCB6 HDIS
      generalize (valsOf l k).length = nu at HIU6 HCB6 HDIS
      have hblk : ∀ S wx, Upd S w6 wx → (∀ y ∈ S, w3.heap.size + 1 ≤ y) → wx.heap[w3.heap.size]? = some (.cells #[.bool L, .slice av nv cv, .slice au nu cu] 67 (0, 0)) := fun S wx u h => u.get HCB6.out (fun hm => by have := h _ hm; omega)
      have HBLK := Lib.hid hblk
      have hcel : ∀ S wx, Upd S w6 wx → (∀ y ∈ S, w3.heap.size + 1 ≤ y) → wx.cell? ⟨w3.heap.size, 1, none⟩ = some (.slice av nv cv) ∧ wx.cell? ⟨w3.heap.size, 2, none⟩ = some (.slice au nu cu) ∧ wx.frozen? ⟨w3.heap.size, 1, none⟩ = false ∧ wx.frozen? ⟨w3.heap.size, 2, none⟩ = false := fun S wx u h => by
        obtain ⟨k1, k2⟩ := cells_of (hblk S wx u h)
        exact ⟨k1 1, k1 2, k2 1, k2 2⟩
      have HCEL := Lib.hid hcel
      obtain ⟨q1, q2, z1, z2⟩ := hcel [] w6 (Upd.refl _ _) (by simp)
      have HOV := Lib.hid HIO6.out.low
      have HOU := Lib.hid HIU6.out.low
      have HDV := Lib.hid (show ∀ y ∈ (Value.slice av nv cv).ownBlock.toList, y ∉ ([] : List Nat) from fun y _ h => by cases h)
      have HDU := Lib.hid (show ∀ y ∈ (Value.slice au nu cu).ownBlock.toList, y ∉ ([] : List Nat) from fun y _ h => by cases h)
      have HDV2 := Lib.hid (show ∀ y ∈ (Value.slice av nv cv).ownBlock.toList, y ∉ (Value.slice au nu cu).ownBlock.toList ++ [] from fun y h => by rw [List.append_nil]; exact HDIS.out y h)
      have HDU2 := Lib.hid (show ∀ y ∈ (Value.slice au nu cu).ownBlock.toList, y ∉ (Value.slice av nv cv).ownBlock.toList ++ [] from fun y h h2 => by rw [List.append_nil] at h2; exact HDIS.out y h2 h)
      clear hblk hcel
      go_upto_region 13 with (go_at_call 52; refine (in_b _ _ _).mono ?_; rintro e w' ⟨rfl, rfl⟩)
      have HLOWV := Lib.hid (show ∀ y ∈ (Value.slice av nv cv).ownBlock.toList ++ ([] : List Nat), w3.heap.size + 1 ≤ y from fun y h => by rw [List.append_nil] at h; exact (HOV.out y h).1)
      have HLOWU := Lib.hid (show ∀ y ∈ (Value.slice au nu cu).ownBlock.toList ++ ([] : List Nat), w3.heap.size + 1 ≤ y from fun y h => by rw [List.append_nil] at h; exact (HOU.out y h).1)
      have HLOWVU := Lib.hid (show ∀ y ∈ (Value.slice av nv cv).ownBlock.toList ++ ((Value.slice au nu cu).ownBlock.toList ++ []), w3.heap.size + 1 ≤ y from fun y h => by
        rcases List.mem_append.1 h with h | h
        · exact (HOV.out y h).1
        · exact HLOWU.out y h)
      have HLOWUV := Lib.hid (show ∀ y ∈ (Value.slice au nu cu).ownBlock.toList ++ ((Value.slice av nv cv).ownBlock.toList ++ []), w3.heap.size + 1 ≤ y from fun y h => by
        rcases List.mem_append.1 h with h | h
        · exact (HOU.out y h).1
        · exact HLOWV.out y h)
      clear HR HCN hbd hbd0 HU1 R3 U3 HX3 HP3 HX4 R4 U4 hbl1 HGY1 HOY HNP HLD HRD HCB HIO HIU HXr HU hL hL2 HNN d1 d2 HBLK HNO HSG
      go_region_law (first
          | (refine step_pushi2 (w0 := w6) (S0 := []) rfl (.tmp 43) (.tmp 45) rfl (v := .slice av nv cv) (l := keysOf l k) rfl ?uk HIO6.out HDV.out _ _ x rfl ?ck HLK.out hsz6 ?_; (case uk => first | exact ((Upd.refl _ _).alloc _).drew | exact (((Upd.refl _ _).alloc _).alloc _).drew); (case ck => first | exact new1 _ _ | exact new2 _ _ _ | exact new3 _ _ _); intro a7 n7 c7 w7 hn7 hm7 hu7 hb7; have N7 := Lib.hid hn7; have M7 := Lib.hid hm7; have U7 := Lib.hid hu7; have B7 := Lib.hid hb7; have hsz7 := Nat.lt_of_lt_of_le hsz6 hu7.size; have D7 := Lib.hid (show ∀ y ∈ (Value.slice a7 n7 c7).ownBlock.toList, y ∉ (Value.slice au nu cu).ownBlock.toList from fun y h h2 => (hb7 y h).elim (fun h => HDIS.out y h h2) (fun h => by have := (HOU.out y h2).2; omega)); obtain ⟨p1, p2, f1, f2⟩ := HCEL.out _ _ hu7 HLOWV.out; clear hn7 hm7 hu7 hb7)
          | (refine step_pushi2 (w0 := w6) (S0 := (Value.slice au nu cu).ownBlock.toList ++ []) rfl (.tmp 43) (.tmp 45) rfl (v := .slice av nv cv) (l := keysOf l k) rfl ?uk HIO6.out HDV2.out _ _ x rfl ?ck HLK.out hsz6 ?_; (case uk => first | exact U8.out | exact U8.out.alloc _); (case ck => first | exact new4 _ _ | exact M8.out.upd.cell (new1 _ _) (fun h => absurd (HOU.out _ h).2 (by simp)) | exact M8.out.upd.cell (new2 _ _ _) (fun h => absurd (HOU.out _ h).2 (by simp)) | exact M8.out.upd.cell (new3 _ _ _) (fun h => absurd (HOU.out _ h).2 (by simp))); intro a7 n7 c7 w7 hn7 hm7 hu7 hb7; have N7 := Lib.hid hn7; have M7 := Lib.hid hm7; have U7 := Lib.hid hu7; have B7 := Lib.hid hb7; have hsz7 := Nat.lt_of_lt_of_le hsz6 hu7.size; obtain ⟨p1, p2, f1, f2⟩ := HCEL.out _ _ hu7 HLOWVU.out; clear hn7 hm7 hu7 hb7)
          | (refine step_pushi2 (w0 := w6) (S0 := []) rfl (.tmp 48) (.tmp 50) rfl (v := .slice au nu cu) (l := valsOf l k) rfl ?uk HIU6.out HDU.out _ _ y rfl ?ck HLV.out hsz6 ?_; (case uk => first | exact ((Upd.refl _ _).alloc _).drew | exact (((Upd.refl _ _).alloc _).alloc _).drew); (case ck => first | exact new1 _ _ | exact new2 _ _ _ | exact new3 _ _ _); intro a8 n8 c8 w8 hn8 hm8 hu8 hb8; have N8 := Lib.hid hn8; have M8 := Lib.hid hm8; have U8 := Lib.hid hu8; have B8 := Lib.hid hb8; have hsz8 := Nat.lt_of_lt_of_le hsz6 hu8.size; have D8 := Lib.hid (show ∀ y ∈ (Value.slice a8 n8 c8).ownBlock.toList, y ∉ (Value.slice av nv cv).ownBlock.toList from fun y h h2 => (hb8 y h).elim (fun h => HDIS.out y h2 h) (fun h => by have := (HOV.out y h2).2; omega)); obtain ⟨p1, p2, f1, f2⟩ := HCEL.out _ _ hu8 HLOWU.out; clear hn8 hm8 hu8 hb8)
          | (refine step_pushi2 (w0 := w6) (S0 := (Value.slice av nv cv).ownBlock.toList ++ []) rfl (.tmp 48) (.tmp 50) rfl (v := .slice au nu cu) (l := valsOf l k) rfl ?uk HIU6.out HDU2.out _ _ y rfl ?ck HLV.out hsz6 ?_; (case uk => first | exact U7.out | exact U7.out.alloc _); (case ck => first | exact new4 _ _ | exact M7.out.upd.cell (new1 _ _) (fun h => absurd (HOV.out _ h).2 (by simp)) | exact M7.out.upd.cell (new2 _ _ _) (fun h => absurd (HOV.out _ h).2 (by simp)) | exact M7.out.upd.cell (new3 _ _ _) (fun h => absurd (HOV.out _ h).2 (by simp))); intro a8 n8 c8 w8 hn8 hm8 hu8 hb8; have N8 := Lib.hid hn8; have M8 := Lib.hid hm8; have U8 := Lib.hid hu8; have B8 := Lib.hid hb8; have hsz8 := Nat.lt_of_lt_of_le hsz6 hu8.size; obtain ⟨p1, p2, f1, f2⟩ := HCEL.out _ _ hu8 HLOWUV.out; clear hn8 hm8 hu8 hb8))
      all_goals
        go_wp2
        go_roundw
        case rel =>
          have hl := (by
            first
              | exact leafN HCB6.out HLOWUV.out U8.out N7.out N8.out (Upd.refl _ _) M8.out D7.out
              | exact leafN HCB6.out HLOWUV.out U8.out N7.out N8.out ((Upd.refl _ _).alloc _) M8.out D7.out
              | exact leafN' HCB6.out HLOWVU.out U7.out N7.out N8.out (Upd.refl _ _) M7.out D8.out
              | exact leafN' HCB6.out HLOWVU.out U7.out N7.out N8.out ((Upd.refl _ _).alloc _) M7.out D8.out : ∃ S, Upd S w6 _ ∧ (∀ y ∈ S, w3.heap.size ≤ y) ∧ HalfN _ w3.heap.size L (keysOf l k ++ [x]) (valsOf l k ++ [y]))
          obtain ⟨S9, huu, hlow9, hh⟩ := hl
          have hw3 := HW3.out
          have hbl := HBL.out
          refine ⟨k + 1, by omega, by go_num, fun j hj => ?_, R6.out.upd huu (fun h => by have := hlow9 _ h; omega) (by rintro b' ⟨⟩ h; have := hlow9 _ h; omega), by rw [HSK.out, HSV.out]; exact hh, huu.get HX6.out (fun h => by have := hlow9 _ h; omega), U6.out.step huu (fun x hx => .inr (by have := hlow9 x hx; omega))⟩
          by_cases e : j = k
          · subst e
            unfold okPair
            rw [HXE.out, HYE.out]
            simp only [hI, hJ]
            rfl
          · exact HIN.out j (by omega)
        case measure => simp [intOf]; omega
    · obtain rfl : k = n := by omega
      have hok := okPairs_of (l := (nodeOf l k).pairs) fun j hj => by rw [nodeOf_pairs_get]; exact HIN.out j (by rw [nodeOf_pairs_len] at hj; exact hj)
      have hgs := HGY1.out (HOY.out hok)
      have hv : ∀ v u, nodeV (nodeOf l k) v u = .agg #[.bool L, v, u] := fun v u => by unfold nodeV; rw [HLD.out]
      have HV := Lib.hid hv
      have HGS := Lib.hid hgs
      have hba := bare_any HRD.out
      clear hok hgs hv
      have hw3 := HW3.out
      cases hB : bare (l.drop (2 + 6 * k))
      · rw [hB] at HGS hba
        simp only [Bool.false_eq_true, if_false] at HGS
        have HBAR := Lib.hid hba
        clear hB hba
        go_wp2_with (first
          | (go_at_call 61; refine HBAR.out.mono ?_; rintro e w2 ⟨rfl, u2⟩; have U2 := Lib.hid u2; clear u2)
          | (refine wpList_store_all rfl 67 (.tmp 2) (.tmp 57) rfl w.heap.size _ rfl rfl _ _ (U2.out.get HXr.out (by simp)) infoNode rfl (by kernel_rfl) ?_; intro w3 hg3 hu3 _; have G3 := Lib.hid hg3; have U3 := Lib.hid hu3; clear hg3 hu3))
        refine bodyPost_ret (results_block_tmp Tryd.results37 _ _ w.heap.size 3 _ _ _ _ rfl G3.out Tryd.underlying67 rfl infoNode rfl) rfl ⟨by rw [HGS.out]; exact NodeRes.no _ _, (HU.out.trans U2.out).step U3.out (fun x hx => .inr (by simp at hx; omega))⟩
      · rw [hB] at HGS hba
        simp only [if_true] at HGS
        have HBAR := Lib.hid hba
        clear hB hba
        obtain ⟨av, cv, rfl, _, _, _, _⟩ := HIO.out.slice
        obtain ⟨au, cu, rfl, _, _, _, _⟩ := HIU.out.slice
        go_wp2_with (first
          | (go_at_call 61; refine HBAR.out.mono ?_; rintro e w2 ⟨rfl, u2⟩; have U2 := Lib.hid u2; clear u2)
          | (refine wpList_load_all rfl 67 (.tmp 7) rfl w3.heap.size 3 rfl _ _ _ _ (U2.out.get HCB.out (by simp)) Tryd.underlying67 rfl infoNode rfl ?_)
          | (refine wpList_store_all rfl 67 (.tmp 2) (.tmp 58) rfl w.heap.size _ rfl rfl _ _ (U2.out.get HXr.out (by simp)) infoNode (by simp only [List.size_toArray, List.length_cons, List.length_nil]) rfl ?_; intro w9 hg3 hu3 _; have G3 := Lib.hid hg3; have U3 := Lib.hid hu3; clear hg3 hu3))
        refine bodyPost_ret (results_block_tmp Tryd.results37 _ _ w.heap.size 3 _ _ _ _ rfl G3.out Tryd.underlying67 rfl infoNode rfl) rfl ⟨?_, (HU.out.trans U2.out).step U3.out (fun x hx => .inr (by simp at hx; omega))⟩
        rw [HGS.out]
        refine ⟨_, _, by rw [Option.getD_some, HV.out]; rfl, ?_, ?_, HDIS.out⟩
        · exact ((HIO.out.upd U2.out (by simp)).upd U3.out (fun y hy hy2 => by have := HIO.out.low y hy; simp at hy2; omega)).base (by omega)
        · exact ((HIU.out.upd U2.out (by simp)).upd U3.out (fun y hy hy2 => by have := HIU.out.low y hy; simp at hy2; omega)).base (by omega)
theorem getNode_any {w : World} {a : Option Addr} {l : List Nat} {cap : Nat} (hb : IsBytes w a l) (hc : l.length ≤ cap) (hm : cap ≤ 9223372036854775807) :
    Calls Tryd.prog 37 #[.slice a l.length cap] w fun e w' => NodeRes w.heap.size (getNode l) e w' ∧ Upd [] w w' := by
  by_cases h : l.length = 240
  · obtain ⟨b, o, rfl, _⟩ := hb.2 0 (by omega)
    have := getNode_240 hb hc hm h
    rw [h]
    exact this
  · have hg : getNode l = none := by unfold getNode; rw [decide_eq_false h]; rfl
    rw [hg]
    exact getNode_len (by omega)
end Go.Proofs.YtkahpkmofeglgaaDoor
