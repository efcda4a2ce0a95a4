/-
  PROVED HERE: a new table; reading and writing superblocks without a table; GetSuper of any bytes. Conditions: the table may be used.
-/
import Derived.Test.YtpnpjffhkaejgaaGreatDoorRefSuper
import Derived.Laws.StructEq
import Derived.Laws.Tables
import Derived.Laws.Cover2
namespace Go.Proofs.YtpnpjffhkaejgaaGreatDoor
open Go.RowKit

def tab0 : List Value := [.int .u32 0, .int .i32 0, .int .u32 0] ++ List.replicate 256 (.int .u32 0)
theorem tabZero : Tryz.zeroCells61 = tab0.toArray := by kernel_rfl
theorem isTab_new {w : World} {t : Nat} (h : w.heap[t]? = some (.cells tab0.toArray 61 (0, 0))) : IsTab w t 0 0 fun _ => 0 := by
  have h1 : (List.replicate 256 (Value.int .u32 0)).length = 256 := List.length_replicate
  refine ⟨_, h, ?_, ?_, ?_, ?_, fun i hi => ?_⟩
  · rw [List.size_toArray]; unfold tab0; rw [List.length_append, h1]; rfl
  · rw [List.getElem?_toArray]; unfold tab0; rw [List.getElem?_append_left (by decide)]; rfl
  · rw [List.getElem?_toArray]; unfold tab0; rw [List.getElem?_append_left (by decide)]; rfl
  · rw [List.getElem?_toArray]; unfold tab0; rw [List.getElem?_append_left (by decide)]; rfl
  · rw [List.getElem?_toArray]
    unfold tab0
    rw [List.getElem?_append_right (by simp only [List.length_cons, List.length_nil]; omega), List.getElem?_replicate]
    simp only [List.length_cons, List.length_nil]
    rw [if_pos (by omega)]
    rfl
def NewTab (w : World) (e : Ending) (w' : World) : Prop := ∃ t, e = .returned (pt t) ∧ w.heap.size ≤ t ∧ TabOk w' t ∧ Upd [] w w'
theorem new_any (w : World) : Calls Tryz.prog 4 #[] w (NewTab w) := by
  have hx : ∀ w : World, TabOk (w.alloc (.cells Tryz.zeroCells61 61)) w.heap.size := fun w => .inl ⟨_, isTab_new (by rw [tabZero]; exact heap_alloc_new w _)⟩
  have HX := Lib.hid hx
  clear hx
  go_enter Tryz.func4, Tryz.ntmps4
  go_wp2
  go_ret
  exact ⟨w.heap.size, rfl, Nat.le_refl _, HX.out w, (Upd.refl [] w).alloc _⟩
theorem getSuper_any {w : World} {t : Nat} {a : Option Addr} {l : List Nat} {cap : Nat} (ht : TabOk w t) (hb : IsBytes w a l) (hsep : ∀ b o, a = some ⟨b, o, none⟩ → b ≠ t) (hc : l.length ≤ cap) (hm : cap ≤ 9223372036854775807) :
    Calls Tryz.prog 25 #[pt t, .slice a l.length cap] w fun e w' => e = .returned (.tuple #[superV ((getSuper l).getD superNone), .bool (getSuper l).isSome]) ∧ TabOk w' t ∧ Upd [t] w w' := by
  cases hs : soundL l [80, 83, 85, 80]
  · have h : getSuper l = none := by unfold getSuper; rw [hs]; rfl
    rw [h]
    exact getSuper_no ht hb hsep hc hm hs
  · exact getSuper_sound ht hb hsep hc hm hs
set_option maxRecDepth 100000 in
set_option maxHeartbeats 1600000 in
theorem getSuper_none {w : World} {a : Option Addr} {n cap : Nat} (hn : n ≤ 9223372036854775807) :
    Calls Tryz.prog 25 #[.pointer none, .slice a n cap] w fun e w' => e = .returned (.tuple #[superV superNone, .bool false]) ∧ Upd [] w w' := by
  have hbd := fun w => (show (Instr.build 34 #[]).run Tryz.prog w = .ok (superV superNone) w from run_build w _ _ _ (by kernel_rfl))
  unfold superV superNone i64s at hbd
  simp only [List.map_cons, List.map_nil] at hbd
  have HX := Lib.hid (heap_alloc_new w (.cells #[.int .i64 0, .int .i64 0, .int .i64 0, .int .i64 0, .int .i64 0, .int .i64 0, .int .i64 0] 34))
  go_enter Tryz.func25, Tryz.ntmps25
  go_wp2_with (first
    | (go_at_call 47; (with_reducible refine (sound_len (t := none) (.inl rfl) hn).mono ?_); rintro e w1 ⟨rfl, u1⟩; have U1 := Lib.hid u1; clear u1)
    | (refine wpList_store_all rfl 34 (.tmp 4) (.tmp 19) rfl w.heap.size _ rfl rfl _ _ (((Upd.refl [] _).alloc _).get (U1.out.get HX.out (by simp)) (by simp)) infoSuper rfl (by kernel_rfl) ?_; intro w2 hg2 hu2 _; have G2 := Lib.hid hg2; have U2 := Lib.hid hu2; clear hg2 hu2))
  refine bodyPost_ret (results_block_tmp Tryz.results25 _ _ w.heap.size 7 _ _ _ _ rfl G2.out Tryz.underlying34 rfl (by kernel_rfl) rfl) rfl ⟨rfl, (((Upd.refl [] w).alloc _).trans U1.out |>.alloc _).step U2.out (fun x hx => .inr (by simp at hx; omega))⟩
set_option maxRecDepth 100000 in
set_option maxHeartbeats 1600000 in
theorem putSuper_none {w : World} (x0 x1 x2 x3 x4 x5 x6 : Int) :
    Calls Tryz.prog 19 #[.pointer none, .agg #[.int .i64 x0, .int .i64 x1, .int .i64 x2, .int .i64 x3, .int .i64 x4, .int .i64 x5, .int .i64 x6]] w fun e w' => e = .returned (.tuple #[.slice none 0 0, .int .i64 1]) ∧ Upd [] w w' := by
  have hW0 := isW_made (w.alloc (.cells #[.int .i64 x0, .int .i64 x1, .int .i64 x2, .int .i64 x3, .int .i64 x4, .int .i64 x5, .int .i64 x6] 34))
  have hC0 := ((Upd.refl [] _).alloc (.cells Tryz.zeroCells89 89)).get (heap_alloc_new w (.cells #[.int .i64 x0, .int .i64 x1, .int .i64 x2, .int .i64 x3, .int .i64 x4, .int .i64 x5, .int .i64 x6] 34)) (by simp)
  rw [show (w.alloc (.cells #[.int .i64 x0, .int .i64 x1, .int .i64 x2, .int .i64 x3, .int .i64 x4, .int .i64 x5, .int .i64 x6] 34)).heap.size = w.heap.size + 1 by simp] at hW0
  have HW0 := Lib.hid hW0
  have HC0 := Lib.hid hC0
  clear hW0 hC0
  have hidx : ∀ w, (Instr.index 86 (.agg #[.int .i64 x0, .int .i64 x1, .int .i64 x2, .int .i64 x3, .int .i64 x4, .int .i64 x5, .int .i64 x6]) (.int .i64 0)).run Tryz.prog w = .ok (.int .i64 x0) w := idx7 _ rfl [x0, x1, x2, x3, x4, x5, x6] rfl 0 (by simp)
  cases hI : inB x0 1099511627776
  all_goals
    go_enter Tryz.func19, Tryz.ntmps19
    go_wp2_with fail
    refine (text_any (s := ⟨#[80, 83, 85, 80]⟩) HW0.out (by decide) (by decide)).mono ?_
    rintro e w1 ⟨rfl, h1, u1⟩
    have hC1 := u1.get HC0.out (by simp)
    obtain ⟨k1, _⟩ := cells_of hC1
    have k0 := k1 0; have k2 := k1 1; have k3 := k1 2; have k4 := k1 3; have k5 := k1 4; have k6 := k1 5; have k7 := k1 6
    simp only [List.getElem?_toArray, List.getElem?_cons_zero, List.getElem?_cons_succ] at k0 k2 k3 k4 k5 k6 k7
    have U1 := Lib.hid (((Upd.refl [] w).alloc _ |>.alloc _).step u1 (T := [w.heap.size + 1]) (fun x hx => .inr (by simp at hx; omega)))
    clear hC1 h1 u1 k1
    go_wp2
    refine wp_loop_rounds 1 ?_
    rw [rounds_succ]
    go_wp2_with (go_at_call 32; refine (in_b _ _ _).mono ?_; rintro e w' ⟨rfl, rfl⟩)
    go_ret2
    exact ⟨rfl, U1.out⟩
theorem ite_and {p : Prop} [Decidable p] {A : Result Bool} {b : Bool} {w : World} (h : A = .ok b w) : (if p then A else .ok false w) = .ok (decide p && b) w := by
  by_cases hp : p
  · rw [if_pos hp, h, decide_eq_true hp]; rfl
  · rw [if_neg hp, decide_eq_false hp]; rfl
theorem ite_last {p : Prop} [Decidable p] {w : World} : (if p then Result.ok true w else .ok false w) = .ok (decide p) w := by
  by_cases hp : p
  · rw [if_pos hp, decide_eq_true hp]
  · rw [if_neg hp, decide_eq_false hp]
theorem eqSuper (x0 x1 x2 x3 x4 x5 x6 y0 y1 y2 y3 y4 y5 y6 : Int) (w : World) : (Op.equalIn 10000 34 (.agg #[.int .i64 x0, .int .i64 x1, .int .i64 x2, .int .i64 x3, .int .i64 x4, .int .i64 x5, .int .i64 x6]) (.agg #[.int .i64 y0, .int .i64 y1, .int .i64 y2, .int .i64 y3, .int .i64 y4, .int .i64 y5, .int .i64 y6])).run Tryz.prog w =
    .ok (decide ([x0, x1, x2, x3, x4, x5, x6] = [y0, y1, y2, y3, y4, y5, y6])) w := by
  have u3 := Tryz.underlying3
  have a3 := Tryz.isAgg3
  have z3 := Tryz.sizeOf3
  have hS : Tryz.prog.underlying 34 = some (.struct (Tryz.prog.fieldsOf 34)) := by kernel_rfl
  have hp : Tryz.prog.stoodInHeld 34 = false := by kernel_rfl
  rw [show (10000 : Nat) = 9999 + 1 from rfl, run_equalIn_agg w 9999 34 _ _ hS hp]
  simp only [Program.fieldsOf, Tryz.underlying34]
  go_simp
  have e : decide ([x0, x1, x2, x3, x4, x5, x6] = [y0, y1, y2, y3, y4, y5, y6]) = (decide (x0 = y0) && (decide (x1 = y1) && (decide (x2 = y2) && (decide (x3 = y3) && (decide (x4 = y4) && (decide (x5 = y5) && decide (x6 = y6))))))) := by
    simp only [List.cons.injEq, and_true, Bool.decide_and]
  try rw [e]
  exact ite_and (ite_and (ite_and (ite_and (ite_and (ite_and ite_last)))))
end Go.Proofs.YtpnpjffhkaejgaaGreatDoor
