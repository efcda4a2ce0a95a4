/-
  PROVED HERE: Save and Load without a disk or a table; what Load is made of: which of two superblocks is taken. Conditions: those that each theorem names.
-/
import Derived.Test.YtpnpjffhkaejgaaGreatDoorSuperD
namespace Go.Proofs.YtpnpjffhkaejgaaGreatDoor
open Go.RowKit

section
variable {P : Program} {ops : Array Oper} {C : World → Prop} {Q : Act → Prop} {a : Act} {o : Oper} {rest : List Oper}
theorem qs_val {v : Value} (hw : Region.wanted o (yielded ops a.tmps) = true) (hr : ∀ W, C W → (execOp a.eval o).run P W = .ok (.value v) W) (hn : wpQuiet P ops C Q rest (a.put o.dst v)) : wpQuiet P ops C Q (o :: rest) a :=
  wpQuiet_step fun K hK => by
    rw [if_pos hw]
    exact ⟨v, fun W hW => by unfold Oper.quietAt; rw [hr W hW]; exact ⟨rfl, rfl⟩, hK _ hn⟩
theorem qs_call {v : Value} {f : FuncId} {args : Array Value} (hw : Region.wanted o (yielded ops a.tmps) = true) (hr : ∀ W, C W → (execOp a.eval o).run P W = .ok (.enter f args) W) (hc : ∀ W, C W → Calls P f args W fun e W' => e = .returned v ∧ C W') (hn : wpQuiet P ops C Q rest (a.put o.dst v)) : wpQuiet P ops C Q (o :: rest) a :=
  wpQuiet_step fun K hK => by
    rw [if_pos hw]
    exact ⟨v, fun W hW => by unfold Oper.quietAt; rw [hr W hW]; exact ⟨rfl, hc W hW⟩, hK _ hn⟩
theorem qs_skip (hw : Region.wanted o (yielded ops a.tmps) = false) (hn : wpQuiet P ops C Q rest (a.put o.dst undef)) : wpQuiet P ops C Q (o :: rest) a :=
  wpQuiet_step fun K hK => by
    rw [if_neg (by rw [hw]; decide)]
    exact hK _ hn
end
theorem wp_region_quiet_at {P : Program} {id : Nat} {Q : Exit → Act → World → Prop} {a : Act} {w : World} {l : List Oper} (C : World → Prop) (hm : P.follows .mixedOrders = true) (hB : Region.lexB .any l.toArray = true) (hC : C w.drew)
    (h : wpQuiet P l.toArray C (fun a' => ∀ w', C w' → Q .normal a' w') l a) : (Code.region id l.toArray true).wp P Q a w := wp_region_quiet (C := C) hm hB hC (by simpa using h)
theorem LawT.put {w wr w' : World} {d t g : Nat} {F : Nat → Prop} {T : List (Nat × Obj)} {S : Dk} {o o' : Obj} (h : LawT w wr d t F ((g, o) :: T) S) (hg : w.heap.size ≤ g) (hT : ∀ p ∈ T, p.1 ≠ g) (u : Upd [g] wr w') (ho : w'.heap[g]? = some o') : LawT w w' d t F ((g, o') :: T) S := by
  obtain ⟨o1, h1, h2, h3, h4⟩ := h
  have hgt : g ≠ t := h4 _ (List.mem_cons_self ..)
  have hF := h1.2.2.1 _ (List.mem_cons_of_mem _ (List.mem_cons_self ..))
  refine ⟨o1, ⟨h1.1.up u (by simpa using hF.1), h1.2.1, fun p hp => ?_, h1.2.2.2.step u fun x hx => .inr (by rw [List.mem_singleton.1 hx]; exact hg)⟩, h2.upd u (by simpa using Ne.symm hgt), h3, fun p hp => ?_⟩
  · rcases List.mem_cons.1 hp with rfl | hp
    · have := h1.2.2.1 _ (List.mem_cons_self ..)
      exact ⟨this.1, u.get this.2 (by simpa using Ne.symm hgt)⟩
    · rcases List.mem_cons.1 hp with rfl | hp
      · exact ⟨hF.1, ho⟩
      · have := h1.2.2.1 p (List.mem_cons_of_mem _ (List.mem_cons_of_mem _ hp))
        exact ⟨this.1, u.get this.2 (by simpa using hT p hp)⟩
  · rcases List.mem_cons.1 hp with rfl | hp
    · exact hgt
    · exact h4 p (List.mem_cons_of_mem _ hp)
/-- Which superblock is the best one, when one more sector is looked at. -/
def pickS (n : Int) (b : List Int) (i : Int) (l : List Nat) : List Int :=
  match getSuper l with
  | none => b
  | some s => if fitsOn (s.getD 2 0) (s.getD 3 0) (s.getD 4 0) (s.getD 5 0) n && (decide (s.getD 0 0 % 2 = i) && decide (b.getD 0 0 < s.getD 0 0)) then s else b
def bad7 : List Int := [-1, 0, 0, 0, 0, 0, 0]
/-- Load, on the plain disk. -/
def Dk.load (S : Dk) : (List Int × Int) × Dk :=
  if S.n < 2 then ((superNone, 1), S)
  else if (S.read 0 1).1.2 = 0 ∧ ((S.read 0 1).2.read 1 1).1.2 = 0 then
    (if (pickS S.n (pickS S.n bad7 0 (S.read 0 1).1.1) 1 ((S.read 0 1).2.read 1 1).1.1).getD 0 0 < 0 then (superNone, 14) else (pickS S.n (pickS S.n bad7 0 (S.read 0 1).1.1) 1 ((S.read 0 1).2.read 1 1).1.1, 0), ((S.read 0 1).2.read 1 1).2)
  else ((superNone, 10), ((S.read 0 1).2.read 1 1).2)
theorem getSuper_7 {l : List Nat} {s : List Int} (h : getSuper l = some s) : s.length = 7 ∧ okSuper s = true := by
  unfold getSuper at h
  split at h
  · rename_i hc
    cases h
    exact ⟨superOf_len l, (Bool.and_eq_true_iff.1 (Bool.and_eq_true_iff.1 hc).1).2⟩
  · cases h
theorem pickS_len {n : Int} {b : List Int} {i : Int} {l : List Nat} (hb : b.length = 7) : (pickS n b i l).length = 7 := by
  unfold pickS
  split
  · exact hb
  · rename_i s h
    split
    · exact (getSuper_7 h).1
    · exact hb
theorem list7 {s : List Int} (h : s.length = 7) : ∃ y0 y1 y2 y3 y4 y5 y6, s = [y0, y1, y2, y3, y4, y5, y6] := by
  match s, h with
  | [a, b, c, d, e, f, g], _ => exact ⟨a, b, c, d, e, f, g, rfl⟩
theorem idx2 (v0 v1 : Value) (k : Nat) (hk : k < 2) (w : World) : (Instr.index 79 (.agg #[v0, v1]) (.int .i64 (k : Int))).run Tryz.prog w = .ok (if k = 0 then v0 else v1) w := by
  refine run_index_agg w Tryz.underlying79 Tryz.underlying62 rfl (by kernel_rfl) (by omega) ?_ .i64
  match k, hk with
  | 0, _ => rfl
  | 1, _ => rfl
set_option maxRecDepth 100000 in
set_option maxHeartbeats 1600000 in
theorem save_nod {w : World} (q : Option Addr) (x0 x1 x2 x3 x4 x5 x6 : Int) :
    Calls Tryz.prog 8 #[.pointer none, .pointer q, .agg #[.int .i64 x0, .int .i64 x1, .int .i64 x2, .int .i64 x3, .int .i64 x4, .int .i64 x5, .int .i64 x6]] w fun e w' => e = .returned (.int .i64 1) ∧ Upd [] w w' := by
  have HU := Lib.hid ((Upd.refl [] w).alloc (.cells (supC x0 x1 x2 x3 x4 x5 x6) 34))
  go_enter Tryz.func8, Tryz.ntmps8
  go_wp2_with fail
  go_quiet (fail)
  go_wp2
  go_ret
  exact ⟨rfl, ⟨HU.out.os, HU.out.tape, HU.out.output, HU.out.size, HU.out.block⟩⟩
set_option maxRecDepth 100000 in
set_option maxHeartbeats 1600000 in
theorem save_not {w : World} (a : Addr) (x0 x1 x2 x3 x4 x5 x6 : Int) :
    Calls Tryz.prog 8 #[.pointer (some a), .pointer none, .agg #[.int .i64 x0, .int .i64 x1, .int .i64 x2, .int .i64 x3, .int .i64 x4, .int .i64 x5, .int .i64 x6]] w fun e w' => e = .returned (.int .i64 1) ∧ Upd [] w w' := by
  have HU := Lib.hid ((Upd.refl [] w).alloc (.cells (supC x0 x1 x2 x3 x4 x5 x6) 34))
  go_enter Tryz.func8, Tryz.ntmps8
  go_wp2_with fail
  go_quiet (fail)
  go_wp2
  go_ret
  exact ⟨rfl, ⟨HU.out.os, HU.out.tape, HU.out.output, HU.out.size, HU.out.block⟩⟩
theorem sup0 : superV superNone = .agg (supC 0 0 0 0 0 0 0) := rfl
set_option maxRecDepth 100000 in
set_option maxHeartbeats 1600000 in
theorem load_nod {w : World} (q : Option Addr) : Calls Tryz.prog 10 #[.pointer none, .pointer q] w fun e w' => e = .returned (.tuple #[superV superNone, .int .i64 1]) ∧ Upd [] w w' := by
  have HX := Lib.hid (heap_alloc_new w (.cells #[.int .i64 0, .int .i64 0, .int .i64 0, .int .i64 0, .int .i64 0, .int .i64 0, .int .i64 0] 34))
  have hbd := fun w => (show (Instr.build 34 #[]).run Tryz.prog w = .ok (superV superNone) w from run_build w _ _ _ (by kernel_rfl))
  unfold superV superNone i64s at hbd
  simp only [List.map_cons, List.map_nil] at hbd
  go_enter Tryz.func10, Tryz.ntmps10
  go_wp2
  refine bodyPost_ret (results_block_tmp Tryz.results10 _ _ w.heap.size 7 _ _ _ _ rfl HX.out Tryz.underlying34 rfl (by kernel_rfl) rfl) rfl ⟨rfl, (Upd.refl [] w).alloc _⟩
set_option maxRecDepth 100000 in
set_option maxHeartbeats 1600000 in
theorem load_not {w : World} (a : Addr) : Calls Tryz.prog 10 #[.pointer (some a), .pointer none] w fun e w' => e = .returned (.tuple #[superV superNone, .int .i64 1]) ∧ Upd [] w w' := by
  have HX := Lib.hid (heap_alloc_new w (.cells #[.int .i64 0, .int .i64 0, .int .i64 0, .int .i64 0, .int .i64 0, .int .i64 0, .int .i64 0] 34))
  have hbd := fun w => (show (Instr.build 34 #[]).run Tryz.prog w = .ok (superV superNone) w from run_build w _ _ _ (by kernel_rfl))
  unfold superV superNone i64s at hbd
  simp only [List.map_cons, List.map_nil] at hbd
  go_enter Tryz.func10, Tryz.ntmps10
  go_wp2
  refine bodyPost_ret (results_block_tmp Tryz.results10 _ _ w.heap.size 7 _ _ _ _ rfl HX.out Tryz.underlying34 rfl (by kernel_rfl) rfl) rfl ⟨rfl, (Upd.refl [] w).alloc _⟩
end Go.Proofs.YtpnpjffhkaejgaaGreatDoor
