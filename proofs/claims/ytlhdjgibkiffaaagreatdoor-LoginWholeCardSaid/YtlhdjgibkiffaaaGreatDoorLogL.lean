/-
  PROVED HERE: how a login lies; New and Terms. Conditions: those that each theorem names.
-/
import Derived.Test.YtlhdjgibkiffaaaGreatDoorLogM
import Derived.Test.YtlhdjgibkiffaaaGreatDoorLogP
import Derived.BigRegion
namespace Go.Proofs.YtlhdjgibkiffaaaGreatDoor
open Go.RowKit Go.Shelf
theorem alloc_last (w : World) (o : Obj) : (w.alloc o).heap[w.heap.size]? = some o := by
  show (w.heap.push o)[w.heap.size]? = some o
  simp
theorem size_alloc1 (w : World) (o : Obj) : (w.alloc o).heap.size = w.heap.size + 1 := by simp
/-- A login's cells. -/
abbrev tmV (t : Tm) : List Value := [.string (txt t.name), .int .i64 t.isid, .int .i64 t.tsih, .bool t.head, .bool t.data, .int .i64 t.send]
abbrev lgV (s : Lg) (m : Nat) : List Value := [.string (txt s.tm.name), .int .i64 s.tm.isid, .int .i64 s.tm.tsih, .bool s.tm.head, .bool s.tm.data, .int .i64 s.tm.send, .int .i64 (s.stage : Nat), .int .i64 (s.taken : Nat), .int .i64 s.tag, .bool s.over, .bool s.operated, .map (some m)]
/-- Block b is a login, m its map. -/
structure LgAt (W : World) (b m : Nat) (s : Lg) : Prop where
  obj : W.heap[b]? = some (.cells (lgV s m).toArray 52 (0, 0))
  ne : m ≠ b
  set : SSet Tryz.prog 9 W m s.ans.length s.ans
theorem LgAt.upd {W W' : World} {b m : Nat} {s : Lg} {T : List Nat} (h : LgAt W b m s) (u : Upd T W W') (hb : b ∉ T) (hm : m ∉ T) : LgAt W' b m s := ⟨u.get h.obj hb, h.ne, h.set.upd u hm⟩
theorem LgAt.below {W W' : World} {b m : Nat} {s : Lg} (h : LgAt W b m s) (u : Below W.heap.size W W') : LgAt W' b m s := h.upd (Upd.of_below u) (by simp) (by simp)
theorem LgAt.lt {W : World} {b m : Nat} {s : Lg} (h : LgAt W b m s) : b < W.heap.size := lt_of_get h.obj
theorem LgAt.ltm {W : World} {b m : Nat} {s : Lg} (h : LgAt W b m s) : m < W.heap.size := h.set.lt
section
variable {P : Program}
theorem splice_whole (cs vs : Array Value) (h : vs.size = cs.size) : splice cs 0 vs.toList = vs := by
  unfold splice
  rw [List.take_zero, List.nil_append, Nat.zero_add, List.drop_of_length_le (by simp [h]), List.append_nil]
/-- A whole block is stored into. -/
theorem wpList_store_whole {ops : Array Oper} {rest : List Oper} {o : Oper} {a : Act} {w : World} {Q : Exit → Act → World → Prop} (hgd : o.guard = none) (ty : TypeId) (x y : Operand) (ho : o.op = .store ty x y)
    (g : Nat) (vs : Array Value) (hx : a.eval x = .pointer (some ⟨g, 0, none⟩)) (hy : a.eval y = .agg vs) (t : TypeId) (cs : Array Value) (hg : w.heap[g]? = some (.cells cs t (0, 0)))
    (hi : (P.info? ty).map (·.size) = some vs.size) (hn : vs.size = cs.size) (hv : vs.toList.all Value.oneCell' = true)
    (h : ∀ w', w'.heap[g]? = some (.cells vs t (0, 0)) → Upd [g] w w' → w'.heap.size = w.heap.size → wpList P ops Q rest (a.put o.dst undef) w') : wpList P ops Q (o :: rest) a w :=
  wpList_store_part hgd ty x y ho g 0 vs hx hy t cs vs hg hi (by omega) (fun x hx => List.all_eq_true.1 hv x hx) (splice_whole _ _ hn) h
theorem results_cell1 {fn : Func} {p : Tmp} {t1 : TypeId} (h : fn.results = #[.cell p t1]) (tmps : Array Value) {w : World} {a1 : Addr} {v1 : Value} (hp : tmps.getD p undef = .pointer (some a1))
    (hl : (loadVar t1 a1).run P w = .ok v1 w) : (results fn tmps).run P w = .ok v1 w := by
  rw [Array.getD_eq_getD_getElem?] at hp
  simp only [results, h]
  simp [hp, asAddr, hl]
/-- A whole block's cells, one by one. -/
theorem cells_list {w : World} {g : Nat} {t : TypeId} {vs : List Value} (h : w.heap[g]? = some (.cells vs.toArray t (0, 0))) : ∀ j u, vs[j]? = some u → w.cell? ⟨g, 0 + j, none⟩ = some u := fun j u hu => by
  rw [Nat.zero_add, (cells_of h).1 j]
  simpa using hu
/-- .. from a place on. -/
theorem cells_from {w : World} {g : Nat} {t : TypeId} {vs : List Value} (h : w.heap[g]? = some (.cells vs.toArray t (0, 0))) (off n : Nat) : ∀ j u, ((vs.drop off).take n)[j]? = some u → w.cell? ⟨g, off + j, none⟩ = some u := fun j u hu => by
  rw [(cells_of h).1 (off + j)]
  rw [List.getElem?_take] at hu
  split at hu
  · rw [List.getElem?_drop] at hu; simpa using hu
  · cases hu
end
theorem infoTm : (Tryz.prog.info? 32).map (·.size) = some 6 := by kernel_rfl
theorem infoLg : (Tryz.prog.info? 52).map (·.size) = some 12 := by kernel_rfl
set_option maxRecDepth 100000 in
set_option maxHeartbeats 2000000 in
theorem new_any (w : World) : Calls Tryz.prog 6 #[] w fun e w' => ∃ b m, e = .returned (.pointer (some ⟨b, 0, none⟩)) ∧ w.heap.size ≤ b ∧ w.heap.size ≤ m ∧ LgAt w' b m Lg.new ∧ Below w.heap.size w w' := by
  have hmm := @run_makeMap Tryz.prog
  go_enter Tryz.func6, Tryz.ntmps6
  go_wp2
  go_ret
  have hal := alloc_last (w.alloc (.map #[] 0)) (.cells (lgV Lg.new w.heap.size).toArray 52)
  rw [size_alloc1] at hal
  refine ⟨_, _, rfl, by simp, Nat.le_refl _, ⟨hal, by simp, ?_⟩, ((Below.refl _ _).alloc (Nat.le_refl _) _).alloc (by simp) _⟩
  exact (SSet.made w _ _).upd ((Upd.refl [] _).alloc _) (by simp)
set_option maxRecDepth 100000 in
set_option maxHeartbeats 2000000 in
theorem terms_any {w : World} {b m : Nat} {s : Lg} (h : LgAt w b m s) : Calls Tryz.prog 9 #[.pointer (some ⟨b, 0, none⟩)] w fun e w' => e = .returned (.agg (tmV s.tm).toArray) ∧ Below w.heap.size w w' := by
  have hb1 : Below w.heap.size w (w.alloc (.cells #[.string (txt []), .int .i64 0, .int .i64 0, .bool false, .bool false, .int .i64 0] 32)) := (Below.refl _ _).alloc (Nat.le_refl _) _
  have HX := Lib.hid (alloc_last w (.cells #[.string (txt []), .int .i64 0, .int .i64 0, .bool false, .bool false, .int .i64 0] 32))
  have HC := Lib.hid (cells_from (h.below hb1).obj 0 6)
  have HB1 := Lib.hid hb1
  clear h hb1
  go_enter Tryz.func9, Tryz.ntmps9
  go_wp2_with (first
    | (refine wpList_load_cells rfl 32 (.tmp 5) rfl b 0 6 rfl (tmV s.tm) _ HC.out Tryz.underlying32 rfl infoTm rfl ?_)
    | (refine wpList_store_whole rfl 32 (.tmp 2) (.tmp 6) rfl w.heap.size _ rfl rfl _ _ HX.out infoTm rfl rfl ?_; intro w2 hg2 hu2 _; have G2 := Lib.hid hg2; have U2 := Lib.hid hu2; clear hg2 hu2))
  refine bodyPost_ret (results_cell1 rfl _ rfl (run_loadVar_cells _ _ 0 6 _ (tmV s.tm) _ (cells_list G2.out) Tryz.underlying32 rfl infoTm rfl)) rfl ?_
  exact ⟨rfl, HB1.out.trans (U2.out.below HB1.out.size (by simp))⟩
end Go.Proofs.YtlhdjgibkiffaaaGreatDoor
