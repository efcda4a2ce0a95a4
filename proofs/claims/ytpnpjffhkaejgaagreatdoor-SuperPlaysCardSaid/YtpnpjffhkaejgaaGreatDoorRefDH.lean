/-
  PROVED HERE: the document's disk: New. Conditions: those that each theorem names.
-/
import Derived.Test.YtpnpjffhkaejgaaGreatDoorRefDG
import Derived.Laws.MakeOwn
namespace Go.Proofs.YtpnpjffhkaejgaaGreatDoor
open Go.RowKit

theorem rnew_no {w : World} (s : Int) (hs : s < 1 ∨ 4096 < s) : Calls Tryz.prog 6 #[.int .i64 s] w fun e w' => e = .returned (.tuple #[.pointer none, .int .i64 1]) ∧ w = w' := by
  have h2 : s < 1 ∨ (1 ≤ s ∧ 4096 < s) := by omega
  clear hs
  rcases h2 with h | ⟨h, h1⟩
  all_goals
    go_enter Tryz.func6, Tryz.ntmps6
    go_wp2
    go_ret2
    exact ⟨rfl, rfl⟩
section
variable {P : Program}
theorem exec_build2 {o : Oper} {a : Act} {w : World} {t e : TypeId} {x : Operand} {v z y1 y2 : Value} {i0 : TypeInfo} (ho : o.op = .buildSlice t 1 #[(0, x)]) (hu : P.underlying t = some (.slice e)) (hi : P.info? e = some i0) (hz : i0.zero = some z) (hs : i0.size = 2) (hx : a.eval x = v) (hv : v.cells = #[y1, y2]) :
    (execOp a.eval o).run P w = .ok (.value (.slice (some ⟨w.heap.size, 0, none⟩) 1 1)) (w.alloc (.cells #[y1, y2] e)) := by
  have hm : ∀ f : Nat → Value, Array.map f (Array.range 2) = #[f 0, f 1] := fun f => by rw [show Array.range 2 = #[0, 1] from by decide]; simp
  have hf : Instr.fill (fun i => some (i * 2, 2)) (Array.map (fun x => z.cells[x % z.cells.size]!) (Array.range 2)) [(0, v)] = some #[y1, y2] := by
    rw [hm]
    simp [Instr.fill, hv]
  unfold execOp
  simp [ho, hx, Instr.buildSlice, run_underlying hu, sizeOf, typeInfo, zeroValue, hi, hz, hs, newRow, hf, Result.andThen]
theorem exec_make {o : Oper} {a : Act} {w w' : World} {t : TypeId} {l c : Operand} {vl vc v : Value} (ho : o.op = .makeSlice t l c) (hl : a.eval l = vl) (hc : a.eval c = vc) (hrun : (Instr.makeSlice t vl vc).run P w = .ok v w') : (execOp a.eval o).run P w = .ok (.value v) w' := by
  unfold execOp; simp [ho, hl, hc, hrun, Result.andThen]
end
/-- The orders that what turns the world may come in: a tree. -/
inductive OT where
  | fin : OT
  | one : Nat → OT → OT
  | two : Nat → OT → Nat → OT → OT
section tree
variable {P : Program} {lo : List Oper} {md : Region.Mode} {Q : Exit → Act → World → Prop} {S : World → Prop}
def treeB (md : Region.Mode) (lo : List Oper) : Nat → OT → Array Bool → Bool
  | 0, .fin, done => (Region.ready md lo.toArray done).isEmpty
  | m + 1, .one i t, done => decide (Region.ready md lo.toArray done = [i]) && (decide (i < lo.length) && treeB md lo m t (done.setIfInBounds i true))
  | m + 1, .two i t j u, done => decide (Region.ready md lo.toArray done = [i, j]) && (decide (i < lo.length) && (decide (j < lo.length) && (treeB md lo m t (done.setIfInBounds i true) && treeB md lo m u (done.setIfInBounds j true))))
  | _, _, _ => false
def wpOne (P : Program) (lo : List Oper) (Q : Exit → Act → World → Prop) (i : Nat) (K : Act → World → Prop) (a : Act) (w : World) : Prop := Region.wanted (opAt lo i) (yielded lo.toArray a.tmps) = true ∧ (opAt lo i).wp P a w K Q
def wpTree (P : Program) (lo : List Oper) (S : World → Prop) (Q : Exit → Act → World → Prop) : OT → Act → World → Prop
  | .fin, a, w => Q .normal a w
  | .one i t, a, w => wpOne P lo Q i (fun a' w' => S w' ∧ wpTree P lo S Q t a' w') a w
  | .two i t j u, a, w => wpOne P lo Q i (fun a' w' => S w' ∧ wpTree P lo S Q t a' w') a w ∧ wpOne P lo Q j (fun a' w' => S w' ∧ wpTree P lo S Q u a' w') a w
theorem wpOp_one {i : Nat} (hi : i < lo.length) {K K' : Act → World → Prop} {a : Act} {w : World} (hk : ∀ a w, K a w → K' a w) (h : wpOne P lo Q i K a w) : wpOp P lo.toArray Q i K' a w := by
  unfold wpOp
  rw [show lo.toArray[i]? = some (opAt lo i) by simpa using opAt_get hi]
  dsimp only
  rw [if_pos h.1]
  exact .inl (Oper.wp_mono hk h.2)
theorem wpAnyH_tree : ∀ (m : Nat) (t : OT) (done : Array Bool) (a : Act) (w : World), treeB md lo m t done = true → wpTree P lo S Q t a w → wpAnyH P md lo.toArray Q S m done a w
  | 0, .fin, done, a, w, hB, h => ⟨by simpa [treeB] using hB, h⟩
  | m + 1, .one i t, done, a, w, hB, h => by
    simp only [treeB, Bool.and_eq_true, decide_eq_true_eq] at hB
    refine wpAnyH_all hB.1 (by simp) fun q hq => ?_
    rw [List.mem_singleton] at hq
    subst hq
    exact wpOp_one hB.2.1 (fun a' w' hh => ⟨hh.1, wpAnyH_tree m t _ a' w' hB.2.2 hh.2⟩) h
  | m + 1, .two i t j u, done, a, w, hB, h => by
    simp only [treeB, Bool.and_eq_true, decide_eq_true_eq] at hB
    refine wpAnyH_all hB.1 (by simp) fun q hq => ?_
    simp only [List.mem_cons, List.not_mem_nil, or_false] at hq
    rcases hq with rfl | rfl
    · exact wpOp_one hB.2.1 (fun a' w' hh => ⟨hh.1, wpAnyH_tree m t _ a' w' hB.2.2.2.1 hh.2⟩) h.1
    · exact wpOp_one hB.2.2.1 (fun a' w' hh => ⟨hh.1, wpAnyH_tree m u _ a' w' hB.2.2.2.2 hh.2⟩) h.2
  | 0, .one .., _, _, _, hB, _ => by simp [treeB] at hB
  | 0, .two .., _, _, _, hB, _ => by simp [treeB] at hB
  | _ + 1, .fin, _, _, _, hB, _ => by simp [treeB] at hB
def treeReadsB (md : Region.Mode) (lo : List Oper) (m : Nat) (t : OT) : List Nat → Array Bool → Bool
  | [], done => treeB md lo m t done
  | k :: ks, done => decide (k < lo.length) && ((Region.ready md lo.toArray done).contains k && (Region.free md lo.toArray done k && treeReadsB md lo m t ks (done.setIfInBounds k true)))
theorem treeReads_walk {m : Nat} {t : OT} {w : World} (hsel : Region.noSelect lo.toArray = true) (hS : S w) :
    ∀ (ks : List Nat) (done : Array Bool) (a : Act), treeReadsB md lo m t ks done = true → wpReads P lo.toArray S (fun a' => wpTree P lo S (OnlyN Q) t a' w) (ks.map (opAt lo)) a → wpAnyH P md lo.toArray (OnlyN Q) S (ks.length + m) done a w
  | [], done, a, hB, h => by rw [List.length_nil, Nat.zero_add]; exact wpAnyH_tree m t done a w hB h
  | k :: ks, done, a, hB, ⟨v, hy, h⟩ => by
    simp only [treeReadsB, Bool.and_eq_true, decide_eq_true_eq] at hB
    rw [List.length_cons, show ks.length + 1 + m = (ks.length + m) + 1 by omega]
    exact wpAnyH_take (by simpa using opAt_get hB.1) hsel hB.2.2.1 hB.2.1 (fun c a w h => h) hy hS (treeReads_walk hsel hS ks _ _ hB.2.2.2 h)
/-- As wp_region_order, what turns the world in a tree of orders. -/
theorem wp_region_tree {id : Nat} {a : Act} {w : World} (S : World → Prop) (ks : List Nat) (t : OT) (m : Nat) (hm : P.follows .mixedOrders = true)
    (hB : (Region.noSelect lo.toArray && (decide (ks.length + m = lo.toArray.size) && treeReadsB .any lo m t ks (Array.replicate lo.toArray.size false))) = true) (hS : S w.drew)
    (h : wpReads P lo.toArray S (fun a' => wpTree P lo S (OnlyN Q) t a' w.drew) (ks.map (opAt lo)) a) : (Code.region id lo.toArray true).wp P Q a w := by
  simp only [Bool.and_eq_true, decide_eq_true_eq] at hB
  obtain ⟨h1, h3, h5⟩ := hB
  refine Code.wp_mono (show ∀ e a w, OnlyN Q e a w → Q e a w from fun e a w h => by cases e <;> first | exact h | exact (h : False).elim) (wp_region_any hm (wpAny_of_held (S := S) _ _ _ _ ?_))
  rw [show wpAnyH P .any lo.toArray (OnlyN Q) S lo.toArray.size = wpAnyH P .any lo.toArray (OnlyN Q) S (ks.length + m) by rw [h3]]
  exact treeReads_walk h1 hS ks _ a h5 h
theorem one_val {i : Nat} {a : Act} {w w' : World} {K : Act → World → Prop} (v : Value) (hg : (opAt lo i).guard = none) (hrun : (execOp a.eval (opAt lo i)).run P w = .ok (.value v) w') (h : K (a.put (opAt lo i).dst v) w') : wpOne P lo Q i K a w := ⟨by simp [Region.wanted, hg], wp_of_val v hrun h⟩
end tree
theorem run_make256 (w : World) : (Instr.makeSlice 62 (.int .i64 256) (.int .i64 256)).run Tryz.prog w = .ok (.slice (some ⟨w.heap.size, 0, none⟩) 256 256) (w.alloc (.cells (madeCells #[.int .u8 0] 256) 5)) := by
  obtain ⟨i, hi, hz, hs, hb⟩ := info_parts infoByte
  have := run_make (P := Tryz.prog) w 62 5 i (.int .u8 0) Tryz.underlying62 hi hz .i64 .i64 256 256 (by omega) (Int.le_refl _) (by rw [hb]; omega) (by omega)
  rw [this, hs]
  simp [Value.cells]
def cellsN (db : Nat → Nat) (k : Nat) : List Value := (List.range k).flatMap fun i => [.slice (some ⟨db i, 0, none⟩) 256 256, .slice none 0 0]
theorem cellsN_succ (db : Nat → Nat) (k b : Nat) : cellsN (setf db k b) (k + 1) = cellsN db k ++ [.slice (some ⟨b, 0, none⟩) 256 256, .slice none 0 0] := by
  unfold cellsN
  rw [List.range_succ, List.flatMap_append]
  congr 1
  · rw [List.flatMap_def, List.flatMap_def]
    congr 1
    refine List.map_congr_left fun i hi => ?_
    have := List.mem_range.1 hi
    rw [setf_other _ _ (by omega)]
  · simp [setf_same]
theorem cellsN_get (db : Nat → Nat) (k : Nat) (i : Nat) (hi : i < k) : (cellsN db k)[i * 2]? = some (.slice (some ⟨db i, 0, none⟩) 256 256) ∧ (cellsN db k)[i * 2 + 1]? = some (.slice none 0 0) := by
  induction k with
  | zero => omega
  | succ k ih =>
    have hl : (cellsN db k).length = k * 2 := by
      clear ih hi
      induction k with
      | zero => rfl
      | succ k ih => unfold cellsN at *; rw [List.range_succ, List.flatMap_append, List.length_append, ih]; simp; omega
    have he : cellsN db (k + 1) = cellsN db k ++ [.slice (some ⟨db k, 0, none⟩) 256 256, .slice none 0 0] := by
      unfold cellsN; rw [List.range_succ, List.flatMap_append]; simp
    rw [he, List.getElem?_append, List.getElem?_append, hl]
    by_cases e : i = k
    · subst e
      rw [if_neg (by omega), if_neg (by omega), Nat.sub_self, Nat.add_sub_cancel_left]
      exact ⟨rfl, rfl⟩
    · rw [if_pos (by omega), if_pos (by omega)]
      exact ih (by omega)
def RNew (w : World) (n : Nat) (e : Ending) (w' : World) : Prop := ∃ r F, e = .returned (.tuple #[.pointer (some ⟨r, 0, none⟩), .int .i64 0]) ∧ RefX w' r F (Dk.new n) ∧ (∀ x, F x → w.heap.size ≤ x) ∧ Upd [] w w'
def newR (v : Value) : Array Value := #[v, .int .i64 0, .int .i64 0, .int .i64 0, .int .i64 0, .int .i64 (-1)]
theorem zeroBlk {w : World} {b : Nat} (h : w.heap[b]? = some (.cells (madeCells #[.int .u8 0] 256) 5 (0, 0))) : BlkF w b 1 fun _ => zeros256 := by
  refine ⟨_, h, by rw [← Array.length_toList, toList_madeCells_one, List.length_replicate]; decide, fun i hi j hj => ?_⟩
  obtain rfl : i = 0 := by omega
  rw [newCells_get 256 _ (by omega)]
  rw [show zeros256.getD j 0 = 0 by unfold zeros256; rw [List.getD_eq_getElem?_getD, List.getElem?_replicate, if_pos hj]; rfl]
  rfl
/-- What the loop has made. -/
theorem isRefNew {w wr : World} {n g cap : Nat} {db : Nat → Nat} (hn1 : 1 ≤ n) (hn2 : n ≤ 4096) (hr : wr.heap[w.heap.size]? = some (.cells (newR (.slice (some ⟨g, 0, none⟩) n cap)) 69 (0, 0)))
    (hrow : wr.ownsRow (w.heap.size + 1) 72 2 (.slice (some ⟨g, 0, none⟩) n cap) n (cellsN db n)) (hdb : ∀ i, i < n → BlkF wr (db i) 1 (fun _ => zeros256) ∧ w.heap.size ≤ db i) :
    RefX wr w.heap.size (fun x => w.heap.size ≤ x ∧ x < wr.heap.size) (Dk.new n) := by
  obtain ⟨_, ⟨e, _⟩ | ⟨g2, c2, cur, e, hg, hcur, hc, hm, hs, ht⟩⟩ := hrow
  · cases e
  cases e
  have hok : (Dk.new n).Ok := ⟨hn1, hn2, fun i _ => ⟨⟨zeros256_len, BytesOk.zeros 256⟩, fun v hv => by cases hv⟩, fun _ => Nat.zero_le _, fun k hk => by cases hk⟩
  have hnb : ∀ x, x ∉ (Value.slice none 0 0).ownBlock.toList := fun x hx => by simp [Value.ownBlock] at hx
  refine ⟨⟨g, cap, db, fun _ => 256, fun _ => .slice none 0 0, fun _ _ => 0, fun _ _ => 0⟩, hok, hr, ⟨cur, hcur, hs, hc, hm, fun i hi => ?_⟩, fun i hi => ⟨(hdb i hi).1, ⟨Nat.le_refl _, (by show 256 ≤ _; decide)⟩⟩, fun i hi => ⟨rfl, .inl ⟨rfl, rfl⟩⟩, fun i hi j hj => (by exact absurd hj (Nat.not_lt_zero j)), fun i j _ _ _ x hx => absurd hx (hnb x), ⟨Nat.le_refl _, lt_of_block hr⟩, ⟨(by show w.heap.size ≤ g; omega), lt_of_block hcur⟩, fun i hi => ⟨(hdb i hi).2, ?_⟩, fun i hi x hx => absurd hx (hnb x), fun i hi j hj => (by exact absurd hj (Nat.not_lt_zero j)), fun x hx => hx.2⟩
  · have hi : i < n := hi
    obtain ⟨k1, k2⟩ := cellsN_get db n i hi
    rw [← ht, List.getElem?_take_of_lt (by omega), Array.getElem?_toList] at k1
    rw [← ht, List.getElem?_take_of_lt (by omega), Array.getElem?_toList] at k2
    exact ⟨k1, k2⟩
  · obtain ⟨cs, hb, _⟩ := (hdb i hi).1
    exact lt_of_block hb
set_option maxRecDepth 100000 in
set_option maxHeartbeats 3200000 in
theorem rnew_yes {w : World} (n : Nat) (h1 : 1 ≤ n) (h2 : n ≤ 4096) : Calls Tryz.prog 6 #[.int .i64 (n : Nat)] w (RNew w n) := by
  obtain ⟨i0, hi0, iz0, iz1, iz2⟩ := info_parts infoCell
  have HI0 := Lib.hid hi0
  have HI1 := Lib.hid iz0
  have HI2 := Lib.hid iz1
  have HI3 := Lib.hid iz2
  clear hi0 iz0 iz1 iz2
  go_enter Tryz.func6, Tryz.ntmps6
  go_wp2
  go_loopw [5] (fun i wr => ∃ k : Nat, k ≤ n ∧ i = .int .i64 k ∧ (∃ v db, wr.heap[w.heap.size]? = some (.cells (newR v) 69 (0, 0)) ∧ wr.ownsRow (w.heap.size + 1) 72 2 v k (cellsN db k) ∧ ∀ i, i < k → BlkF wr (db i) 1 (fun _ => zeros256) ∧ w.heap.size < db i) ∧ Upd [] w wr) (fun i _ => n - (RowKit.intOf i).toNat)
  case atStart => exact ⟨0, Nat.zero_le _, rfl, ⟨.slice none 0 0, fun _ => 0, heap_alloc_new w _, ⟨rfl, .inl ⟨rfl, rfl⟩⟩, fun i hi => absurd hi (Nat.not_lt_zero i)⟩, (Upd.refl [] w).alloc _⟩
  case round =>
    obtain ⟨k, hk, rfl, ⟨v, db, hr, hrow, hdb⟩, hU⟩ := hrel
    by_cases hlt : k < n
    · have c0 := (cells_of hr).1 0
      have z0 := (cells_of hr).2 0
      simp only [newR, List.getElem?_toArray, List.getElem?_cons_zero] at c0
      have hrw := lt_of_block hr
      have um := (Upd.refl [] wr).drew.alloc (.cells (madeCells #[.int .u8 0] 256) 5)
      obtain ⟨wm, hwm⟩ : ∃ W, wr.drew.alloc (.cells (madeCells #[.int .u8 0] 256) 5) = W := ⟨_, rfl⟩
      have hmk : (Instr.makeSlice 62 (.int .i64 256) (.int .i64 256)).run Tryz.prog wr.drew = .ok (.slice (some ⟨wr.heap.size, 0, none⟩) 256 256) wm := by rw [← hwm]; exact run_make256 wr.drew
      have hbm : wm.heap[wr.heap.size]? = some (.cells (madeCells #[.int .u8 0] 256) 5 (0, 0)) := by rw [← hwm]; exact heap_alloc_new wr.drew _
      rw [hwm] at um
      have ua := um.alloc (.cells #[.slice (some ⟨wr.heap.size, 0, none⟩) 256 256, .slice none 0 0] 72)
      obtain ⟨wa, hwa⟩ : ∃ W, wm.alloc (.cells #[.slice (some ⟨wr.heap.size, 0, none⟩) 256 256, .slice none 0 0] 72) = W := ⟨_, rfl⟩
      have hna : wa.heap[wm.heap.size]? = some (.cells #[.slice (some ⟨wr.heap.size, 0, none⟩) 256 256, .slice none 0 0] 72 (0, 0)) := by rw [← hwa]; exact heap_alloc_new wm _
      rw [hwa] at ua
      obtain ⟨v', w4, hap, hrow4, hmine4⟩ := run_append_blk (P := Tryz.prog) wa (w.heap.size + 1) 67 67 72 i0 _ 2 48 Tryz.underlying67 HI0.out HI1.out HI2.out HI3.out rfl (by decide) v k _ (ownsRow_upd hrow ua (by simp)) ⟨wm.heap.size, 0, none⟩ 1 1 [.slice (some ⟨wr.heap.size, 0, none⟩) 256 256, .slice none 0 0] rfl
        (fun j u hj => by rw [add_off, (cells_of hna).1, Nat.zero_add]; simpa using hj) (by simp [Value.oneCell']) (by unfold maxLen; omega) (by omega) (by have := ua.size; omega)
      obtain ⟨g', cap', rfl⟩ := ownsRow_succ hrow4
      have hvb : ∀ x ∈ v.ownBlock.toList, w.heap.size + 1 ≤ x := ownsRow_block hrow
      have hgt : w.heap.size + 1 ≤ g' := ownsRow_block hrow4 g' (by simp [Value.ownBlock])
      have u4 : Upd v.ownBlock.toList wr w4 := (ua.mono (by simp)).trans hmine4.upd
      have hr4 := u4.get hr (fun e => by have := hvb _ e; omega)
      have hrm := um.get hr (by simp)
      have hra := ua.get hr (by simp)
      have cm0 : wm.cell? ⟨w.heap.size, 0, none⟩ = some v := by rw [(cells_of hrm).1]; rfl
      have ca0 : wa.cell? ⟨w.heap.size, 0, none⟩ = some v := by rw [(cells_of hra).1]; rfl
      have c40 : w4.cell? ⟨w.heap.size, 0, none⟩ = some v := by rw [(cells_of hr4).1]; rfl
      have z40 := (cells_of hr4).2 0
      have hvlt : ∀ x ∈ v.ownBlock.toList, x < wr.heap.size ∧ ∀ cs, wr.heap[x]? ≠ some (.cells cs 5 (0, 0)) := fun x hx => by
        rcases hrow.2 with ⟨e, _⟩ | ⟨g2, c2, cur, e, _, hcur, _⟩
        · rw [e] at hx; simp [Value.ownBlock] at hx
        · rw [e] at hx
          obtain rfl : x = g2 := by simpa [Value.ownBlock] using hx
          exact ⟨lt_of_block hcur, fun cs hcs => by rw [hcur] at hcs; cases hcs⟩
      have hu5 : Upd [w.heap.size] w4 (w4.setCell ⟨w.heap.size, 0, none⟩ (.slice (some ⟨g', 0, none⟩) (k + 1) cap')) := (Upd.refl [w.heap.size] w4).setCell (.inl (by simp)) _
      have hr5 : (w4.setCell ⟨w.heap.size, 0, none⟩ (.slice (some ⟨g', 0, none⟩) (k + 1) cap')).heap[w.heap.size]? = some (.cells (newR (.slice (some ⟨g', 0, none⟩) (k + 1) cap')) 69 (0, 0)) := by
        rw [heap_setCell_same w4 _ 0 _ _ _ hr4]; rfl
      have hrow5 : (w4.setCell ⟨w.heap.size, 0, none⟩ (.slice (some ⟨g', 0, none⟩) (k + 1) cap')).ownsRow (w.heap.size + 1) 72 2 (.slice (some ⟨g', 0, none⟩) (k + 1) cap') (k + 1) (cellsN (setf db k wr.heap.size) (k + 1)) := by
        rw [cellsN_succ]
        exact ownsRow_upd hrow4 hu5 (fun x hx => by
          have hxg : x = g' := (by simpa [Value.ownBlock] using hx)
          rw [hxg]; simp; omega)
      have hdb5 : ∀ i, i < k + 1 → BlkF (w4.setCell ⟨w.heap.size, 0, none⟩ (.slice (some ⟨g', 0, none⟩) (k + 1) cap')) (setf db k wr.heap.size i) 1 (fun _ => zeros256) ∧ w.heap.size < setf db k wr.heap.size i := fun i hi => by
        by_cases e : i = k
        · subst e
          rw [setf_same]
          have h4 : w4.heap[wr.heap.size]? = some (.cells (madeCells #[.int .u8 0] 256) 5 (0, 0)) := hmine4.upd.get ((show Upd [] wm wa by rw [← hwa]; exact (Upd.refl [] wm).alloc _).get hbm (by simp)) (fun e => by have := (hvlt _ e).1; omega)
          exact ⟨(zeroBlk h4).upd hu5 (by simp; omega), hrw⟩
        · rw [setf_other _ _ e]
          obtain ⟨q1, q2⟩ := hdb i (by omega)
          refine ⟨(q1.upd u4 (fun e => ?_)).upd hu5 (by simp; omega), q2⟩
          obtain ⟨cs, hcs, _⟩ := q1
          exact (hvlt _ e).2 cs hcs
      have hU5 : Upd [] w (w4.setCell ⟨w.heap.size, 0, none⟩ (.slice (some ⟨g', 0, none⟩) (k + 1) cap')) := (hU.step u4 (fun x hx => .inr (by have := hvb x hx; omega))).step hu5 (fun x hx => .inr (by simp at hx; omega))
      have HR5 := Lib.hid hr5
      have HROW5 := Lib.hid hrow5
      have HDB5 := Lib.hid hdb5
      have HU5 := Lib.hid hU5
      have HAP := Lib.hid hap
      have HMK := Lib.hid hmk
      have HWA := Lib.hid hwa
      have HR4 := Lib.hid hr4
      have HROW := Lib.hid hrow4
      have HBM := Lib.hid hbm
      have U4 := Lib.hid u4
      have HUW := Lib.hid hU
      have HDB := Lib.hid hdb
      have HMINE := Lib.hid hmine4
      have UA := Lib.hid ua
      have UM := Lib.hid um
      have cw0 : wr.drew.cell? ⟨w.heap.size, 0, none⟩ = some v := c0
      clear hap hmk hwa hr4 hrow4 hbm u4 hU hdb hmine4 ua um hr hrow hwm hna hvb hrm hra hvlt hu5 hr5 hrow5 hdb5 hU5
      go_wp2
      refine wp_region_tree (fun _ => True) [0, 1, 2, 3] (.two 4 (.one 5 (.one 6 (.one 7 (.one 8 (.one 9 (.one 10 (.one 11 .fin))))))) 5 (.two 4 (.one 6 (.one 7 (.one 8 (.one 9 (.one 10 (.one 11 .fin)))))) 6 (.two 4 (.one 7 (.one 8 (.one 9 (.one 10 (.one 11 .fin))))) 7 (.one 4 (.one 8 (.one 9 (.one 10 (.one 11 .fin)))))))) 8 rfl (by kernel_rfl) trivial ?_
      simp only [List.map_cons, List.map_nil, opAt]
      iterate 4
        apply reads_step rfl
        · intro wq hq
          go_simp
          all_goals with_reducible rfl
        simp only [Act.put, List.setIfInBounds_toArray, List.set_cons_zero, List.set_cons_succ]
      refine ⟨?_, ?_⟩
      · refine one_val (w' := wr.drew) v rfl ?_ ⟨trivial, ?_⟩
        · simp only [opAt]; go_simp
        simp only [opAt, Act.put, List.setIfInBounds_toArray, List.set_cons_zero, List.set_cons_succ]
        refine one_val (w' := wm) (.slice (some ⟨wr.heap.size, 0, none⟩) 256 256) rfl (exec_make rfl rfl rfl HMK.out) ⟨trivial, ?_⟩
        simp only [opAt, Act.put, List.setIfInBounds_toArray, List.set_cons_zero, List.set_cons_succ]
        refine one_val (w' := wm) (.agg #[.slice (some ⟨wr.heap.size, 0, none⟩) 256 256, .slice none 0 0]) rfl ?_ ⟨trivial, ?_⟩
        · simp only [opAt]; go_simp
        simp only [opAt, Act.put, List.setIfInBounds_toArray, List.set_cons_zero, List.set_cons_succ]
        refine one_val (w' := wa) (.slice (some ⟨wm.heap.size, 0, none⟩) 1 1) rfl (by rw [← HWA.out]; exact exec_build2 rfl Tryz.underlying67 HI0.out HI1.out HI2.out (v := .agg #[.slice (some ⟨wr.heap.size, 0, none⟩) 256 256, .slice none 0 0]) rfl rfl) ⟨trivial, ?_⟩
        simp only [opAt, Act.put, List.setIfInBounds_toArray, List.set_cons_zero, List.set_cons_succ]
        refine one_val (w' := w4) (.slice (some ⟨g', 0, none⟩) (k + 1) cap') rfl (exec_append rfl (vm := v) (vx := .slice (some ⟨wm.heap.size, 0, none⟩) 1 1) rfl rfl HAP.out) ⟨trivial, ?_⟩
        simp only [opAt, Act.put, List.setIfInBounds_toArray, List.set_cons_zero, List.set_cons_succ]
        refine one_val (w' := w4) (.pointer (some ⟨w.heap.size, 0, none⟩)) rfl ?_ ⟨trivial, ?_⟩
        · simp only [opAt]; go_simp
        simp only [opAt, Act.put, List.setIfInBounds_toArray, List.set_cons_zero, List.set_cons_succ]
        refine one_val (w' := w4) (.pointer (some ⟨w.heap.size, 0, none⟩)) rfl ?_ ⟨trivial, ?_⟩
        · simp only [opAt]; go_simp
        simp only [opAt, Act.put, List.setIfInBounds_toArray, List.set_cons_zero, List.set_cons_succ]
        refine ⟨rfl, ?_⟩
        simp only [opAt]
        go_simp
        dsimp only [wpTree, OnlyN, Exit.then, Exit.inBlock]
        go_wp2
        go_roundw
        case rel => exact ⟨k + 1, by omega, by go_num, ⟨_, _, HR5.out, HROW5.out, HDB5.out⟩, HU5.out⟩
        case measure => simp [RowKit.intOf]; omega
      · refine one_val (w' := wm) (.slice (some ⟨wr.heap.size, 0, none⟩) 256 256) rfl (exec_make rfl rfl rfl HMK.out) ⟨trivial, ?_⟩
        simp only [opAt, Act.put, List.setIfInBounds_toArray, List.set_cons_zero, List.set_cons_succ]
        refine ⟨?_, ?_⟩
        · refine one_val (w' := wm) v rfl ?_ ⟨trivial, ?_⟩
          · simp only [opAt]; go_simp
          simp only [opAt, Act.put, List.setIfInBounds_toArray, List.set_cons_zero, List.set_cons_succ]
          refine one_val (w' := wm) (.agg #[.slice (some ⟨wr.heap.size, 0, none⟩) 256 256, .slice none 0 0]) rfl ?_ ⟨trivial, ?_⟩
          · simp only [opAt]; go_simp
          simp only [opAt, Act.put, List.setIfInBounds_toArray, List.set_cons_zero, List.set_cons_succ]
          refine one_val (w' := wa) (.slice (some ⟨wm.heap.size, 0, none⟩) 1 1) rfl (by rw [← HWA.out]; exact exec_build2 rfl Tryz.underlying67 HI0.out HI1.out HI2.out (v := .agg #[.slice (some ⟨wr.heap.size, 0, none⟩) 256 256, .slice none 0 0]) rfl rfl) ⟨trivial, ?_⟩
          simp only [opAt, Act.put, List.setIfInBounds_toArray, List.set_cons_zero, List.set_cons_succ]
          refine one_val (w' := w4) (.slice (some ⟨g', 0, none⟩) (k + 1) cap') rfl (exec_append rfl (vm := v) (vx := .slice (some ⟨wm.heap.size, 0, none⟩) 1 1) rfl rfl HAP.out) ⟨trivial, ?_⟩
          simp only [opAt, Act.put, List.setIfInBounds_toArray, List.set_cons_zero, List.set_cons_succ]
          refine one_val (w' := w4) (.pointer (some ⟨w.heap.size, 0, none⟩)) rfl ?_ ⟨trivial, ?_⟩
          · simp only [opAt]; go_simp
          simp only [opAt, Act.put, List.setIfInBounds_toArray, List.set_cons_zero, List.set_cons_succ]
          refine one_val (w' := w4) (.pointer (some ⟨w.heap.size, 0, none⟩)) rfl ?_ ⟨trivial, ?_⟩
          · simp only [opAt]; go_simp
          simp only [opAt, Act.put, List.setIfInBounds_toArray, List.set_cons_zero, List.set_cons_succ]
          refine ⟨rfl, ?_⟩
          simp only [opAt]
          go_simp
          dsimp only [wpTree, OnlyN, Exit.then, Exit.inBlock]
          go_wp2
          go_roundw
          case rel => exact ⟨k + 1, by omega, by go_num, ⟨_, _, HR5.out, HROW5.out, HDB5.out⟩, HU5.out⟩
          case measure => simp [RowKit.intOf]; omega
        · refine one_val (w' := wm) (.agg #[.slice (some ⟨wr.heap.size, 0, none⟩) 256 256, .slice none 0 0]) rfl ?_ ⟨trivial, ?_⟩
          · simp only [opAt]; go_simp
          simp only [opAt, Act.put, List.setIfInBounds_toArray, List.set_cons_zero, List.set_cons_succ]
          refine ⟨?_, ?_⟩
          · refine one_val (w' := wm) v rfl ?_ ⟨trivial, ?_⟩
            · simp only [opAt]; go_simp
            simp only [opAt, Act.put, List.setIfInBounds_toArray, List.set_cons_zero, List.set_cons_succ]
            refine one_val (w' := wa) (.slice (some ⟨wm.heap.size, 0, none⟩) 1 1) rfl (by rw [← HWA.out]; exact exec_build2 rfl Tryz.underlying67 HI0.out HI1.out HI2.out (v := .agg #[.slice (some ⟨wr.heap.size, 0, none⟩) 256 256, .slice none 0 0]) rfl rfl) ⟨trivial, ?_⟩
            simp only [opAt, Act.put, List.setIfInBounds_toArray, List.set_cons_zero, List.set_cons_succ]
            refine one_val (w' := w4) (.slice (some ⟨g', 0, none⟩) (k + 1) cap') rfl (exec_append rfl (vm := v) (vx := .slice (some ⟨wm.heap.size, 0, none⟩) 1 1) rfl rfl HAP.out) ⟨trivial, ?_⟩
            simp only [opAt, Act.put, List.setIfInBounds_toArray, List.set_cons_zero, List.set_cons_succ]
            refine one_val (w' := w4) (.pointer (some ⟨w.heap.size, 0, none⟩)) rfl ?_ ⟨trivial, ?_⟩
            · simp only [opAt]; go_simp
            simp only [opAt, Act.put, List.setIfInBounds_toArray, List.set_cons_zero, List.set_cons_succ]
            refine one_val (w' := w4) (.pointer (some ⟨w.heap.size, 0, none⟩)) rfl ?_ ⟨trivial, ?_⟩
            · simp only [opAt]; go_simp
            simp only [opAt, Act.put, List.setIfInBounds_toArray, List.set_cons_zero, List.set_cons_succ]
            refine ⟨rfl, ?_⟩
            simp only [opAt]
            go_simp
            dsimp only [wpTree, OnlyN, Exit.then, Exit.inBlock]
            go_wp2
            go_roundw
            case rel => exact ⟨k + 1, by omega, by go_num, ⟨_, _, HR5.out, HROW5.out, HDB5.out⟩, HU5.out⟩
            case measure => simp [RowKit.intOf]; omega
          · refine one_val (w' := wa) (.slice (some ⟨wm.heap.size, 0, none⟩) 1 1) rfl (by rw [← HWA.out]; exact exec_build2 rfl Tryz.underlying67 HI0.out HI1.out HI2.out (v := .agg #[.slice (some ⟨wr.heap.size, 0, none⟩) 256 256, .slice none 0 0]) rfl rfl) ⟨trivial, ?_⟩
            simp only [opAt, Act.put, List.setIfInBounds_toArray, List.set_cons_zero, List.set_cons_succ]
            refine one_val (w' := wa) v rfl ?_ ⟨trivial, ?_⟩
            · simp only [opAt]; go_simp
            simp only [opAt, Act.put, List.setIfInBounds_toArray, List.set_cons_zero, List.set_cons_succ]
            refine one_val (w' := w4) (.slice (some ⟨g', 0, none⟩) (k + 1) cap') rfl (exec_append rfl (vm := v) (vx := .slice (some ⟨wm.heap.size, 0, none⟩) 1 1) rfl rfl HAP.out) ⟨trivial, ?_⟩
            simp only [opAt, Act.put, List.setIfInBounds_toArray, List.set_cons_zero, List.set_cons_succ]
            refine one_val (w' := w4) (.pointer (some ⟨w.heap.size, 0, none⟩)) rfl ?_ ⟨trivial, ?_⟩
            · simp only [opAt]; go_simp
            simp only [opAt, Act.put, List.setIfInBounds_toArray, List.set_cons_zero, List.set_cons_succ]
            refine one_val (w' := w4) (.pointer (some ⟨w.heap.size, 0, none⟩)) rfl ?_ ⟨trivial, ?_⟩
            · simp only [opAt]; go_simp
            simp only [opAt, Act.put, List.setIfInBounds_toArray, List.set_cons_zero, List.set_cons_succ]
            refine ⟨rfl, ?_⟩
            simp only [opAt]
            go_simp
            dsimp only [wpTree, OnlyN, Exit.then, Exit.inBlock]
            go_wp2
            go_roundw
            case rel => exact ⟨k + 1, by omega, by go_num, ⟨_, _, HR5.out, HROW5.out, HDB5.out⟩, HU5.out⟩
            case measure => simp [RowKit.intOf]; omega
    · obtain rfl : k = n := by omega
      obtain ⟨m, rfl⟩ : ∃ m, k = m + 1 := ⟨k - 1, by omega⟩
      obtain ⟨g, cap, rfl⟩ := ownsRow_succ hrow
      have HF := Lib.hid (isRefNew h1 h2 hr hrow fun i hi => ⟨(hdb i hi).1, Nat.le_of_lt (hdb i hi).2⟩)
      have HU := Lib.hid hU
      clear hr hrow hdb hU
      go_wp2
      go_ret2
      exact ⟨w.heap.size, _, rfl, HF.out, fun x hx => hx.1, HU.out⟩
end Go.Proofs.YtpnpjffhkaejgaaGreatDoor
