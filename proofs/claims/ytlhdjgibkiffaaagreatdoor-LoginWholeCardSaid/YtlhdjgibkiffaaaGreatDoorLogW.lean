/-
  PROVED HERE: a PDU of the document's as the program's; whether its numbers fit. Conditions: those that each theorem names.
-/
import Derived.Test.YtlhdjgibkiffaaaGreatDoorLogV
import Derived.Lib.SlBytesConst
namespace Go.Proofs.YtlhdjgibkiffaaaGreatDoor
open Go.RowKit Go.Shelf
/-- A PDU, whole. -/
structure Rw where
  op : Int
  imm : Bool
  flags : Int
  info : Int
  wide : Int
  short : Int
  tag : Int
  x7 : Int
  x8 : Int
  x9 : Int
  t0 : Int
  t1 : Int
  t2 : Int
  t3 : Int
  t4 : Int
  t5 : Int
  t6 : Int
  t7 : Int
  t8 : Int
  t9 : Int
  t10 : Int
  t11 : Int
  t12 : Int
  t13 : Int
  t14 : Int
  t15 : Int
  dp : Option Addr
  dc : Nat
  data : Txt
abbrev tlV (r : Rw) : List Value := [.int .u8 r.t0, .int .u8 r.t1, .int .u8 r.t2, .int .u8 r.t3, .int .u8 r.t4, .int .u8 r.t5, .int .u8 r.t6, .int .u8 r.t7, .int .u8 r.t8, .int .u8 r.t9, .int .u8 r.t10, .int .u8 r.t11, .int .u8 r.t12, .int .u8 r.t13, .int .u8 r.t14, .int .u8 r.t15]
abbrev rwV (r : Rw) : List Value := [.int .i64 r.op, .bool r.imm, .int .i64 r.flags, .int .i64 r.info, .int .i64 r.wide, .int .i64 r.short, .int .i64 r.tag, .int .i64 r.x7, .int .i64 r.x8, .int .i64 r.x9, .int .u8 r.t0, .int .u8 r.t1, .int .u8 r.t2, .int .u8 r.t3, .int .u8 r.t4, .int .u8 r.t5, .int .u8 r.t6, .int .u8 r.t7, .int .u8 r.t8, .int .u8 r.t9, .int .u8 r.t10, .int .u8 r.t11, .int .u8 r.t12, .int .u8 r.t13, .int .u8 r.t14, .int .u8 r.t15, .slice r.dp r.data.length r.dc]
def fitsP (r : Rw) : Bool := decide (r.flags ≥ 0) && decide (r.flags < 256) && decide (r.info ≥ 0) && decide (r.info < 65536) && decide (r.wide ≥ 0) && decide (r.short ≥ 0) && decide (r.tag ≥ 0) && decide (r.op ≥ 0)
def pdOf (r : Rw) : Pd := ⟨r.op, r.imm, r.flags.toNat, r.info.toNat, r.wide, r.short, r.tag, r.data⟩
theorem rw_is {r : Rw} (h : fitsP r = true) : PdIs (rwV r).toArray (pdOf r) (.slice r.dp r.data.length r.dc) := by
  simp only [fitsP, Bool.and_eq_true, decide_eq_true_eq] at h
  refine ⟨rfl, rfl, ?_, ?_, rfl, rfl, rfl, rfl, rfl, rfl, ?_, ?_⟩
  · simp [pdOf]; omega
  · simp [pdOf]; omega
  · simp only [pdOf]; omega
  · simp only [pdOf]; omega
theorem infoPdr : (Tryz.prog.info? 30).map (·.size) = some 27 := by kernel_rfl
theorem info16 : (Tryz.prog.info? 27).map (·.size) = some 16 := by kernel_rfl
set_option maxRecDepth 100000 in
set_option maxHeartbeats 4000000 in
theorem given_any (w : World) (r : Rw) : Calls Tryz.prog 11 #[.agg (rwV r).toArray] w fun e w' => e = .returned (.agg (rwV r).toArray) ∧ Below w.heap.size w w' := by
  have hb1 : Below w.heap.size w ((w.alloc (.cells (rwV r).toArray 30)).alloc (.cells #[.int .i64 0, .bool false, .int .i64 0, .int .i64 0, .int .i64 0, .int .i64 0, .int .i64 0, .int .i64 0, .int .i64 0, .int .i64 0, .int .u8 0, .int .u8 0, .int .u8 0, .int .u8 0, .int .u8 0, .int .u8 0, .int .u8 0, .int .u8 0, .int .u8 0, .int .u8 0, .int .u8 0, .int .u8 0, .int .u8 0, .int .u8 0, .int .u8 0, .int .u8 0, .slice none 0 0] 37)) := ((Below.refl _ _).alloc (Nat.le_refl _) _).alloc (by simp) _
  have hx := alloc_last (w.alloc (.cells (rwV r).toArray 30)) (.cells #[.int .i64 0, .bool false, .int .i64 0, .int .i64 0, .int .i64 0, .int .i64 0, .int .i64 0, .int .i64 0, .int .i64 0, .int .i64 0, .int .u8 0, .int .u8 0, .int .u8 0, .int .u8 0, .int .u8 0, .int .u8 0, .int .u8 0, .int .u8 0, .int .u8 0, .int .u8 0, .int .u8 0, .int .u8 0, .int .u8 0, .int .u8 0, .int .u8 0, .int .u8 0, .slice none 0 0] 37)
  rw [size_alloc1] at hx
  have ha := ((Upd.refl [] _).alloc (.cells #[.int .i64 0, .bool false, .int .i64 0, .int .i64 0, .int .i64 0, .int .i64 0, .int .i64 0, .int .i64 0, .int .i64 0, .int .i64 0, .int .u8 0, .int .u8 0, .int .u8 0, .int .u8 0, .int .u8 0, .int .u8 0, .int .u8 0, .int .u8 0, .int .u8 0, .int .u8 0, .int .u8 0, .int .u8 0, .int .u8 0, .int .u8 0, .int .u8 0, .int .u8 0, .slice none 0 0] 37)).get (alloc_last w (.cells (rwV r).toArray 30)) (by simp)
  have HX := Lib.hid hx
  have HA := Lib.hid (cells_from ha 10 16)
  have HB := Lib.hid hb1
  clear hx ha hb1
  go_enter Tryz.func11, Tryz.ntmps11
  go_wp2_with (first
    | (show wpList _ _ _ ({ dst := _, op := .load 27 (.tmp 23), type := _, pos := _, after := _, guard := _ } :: _) _ _; refine wpList_load_cells rfl 27 (.tmp 23) rfl w.heap.size 10 16 rfl (tlV r) _ HA.out Tryz.underlying27 rfl info16 rfl ?_)
    | (show wpList _ _ _ ({ dst := _, op := .store 37 (.tmp 2) (.tmp 27), type := _, pos := _, after := _, guard := _ } :: _) _ _; refine wpList_store_whole rfl 37 (.tmp 2) (.tmp 27) rfl (w.heap.size + 1) _ rfl rfl _ _ HX.out infoPdu rfl rfl ?_; intro w2 hg2 hu2 _; have G2 := Lib.hid hg2; have U2 := Lib.hid hu2; clear hg2 hu2))
  refine bodyPost_ret (results_cell1 rfl _ rfl (run_loadVar_cells _ _ 0 27 _ (rwV r) _ (cells_list G2.out) Tryz.underlying37 rfl infoPdu rfl)) rfl ?_
  exact ⟨rfl, HB.out.trans (U2.out.below HB.out.size (by simp))⟩
set_option maxRecDepth 100000 in
set_option maxHeartbeats 4000000 in
theorem fits_any (w : World) (r : Rw) : Calls Tryz.prog 8 #[.agg (rwV r).toArray] w fun e w' => e = .returned (.bool (fitsP r)) ∧ Below w.heap.size w w' := by
  have HB := Lib.hid (show Below w.heap.size w (w.alloc (.cells (rwV r).toArray 30)) from (Below.refl _ _).alloc (Nat.le_refl _) _)
  go_enter Tryz.func8, Tryz.ntmps8
  go_wp2
  all_goals
    go_ret
    refine ⟨congrArg (fun b => Ending.returned (Value.bool b)) ?_, HB.out⟩
    rw [Bool.eq_iff_iff]
    simp [fitsP]
    try omega
/-- The document's request for a whole login. -/
def reqT : Txt := [73, 110, 105, 116, 105, 97, 116, 111, 114, 78, 97, 109, 101, 61, 97, 0, 72, 101, 97, 100, 101, 114, 68, 105, 103, 101, 115, 116, 61, 67, 82, 67, 51, 50, 67, 44, 78, 111, 110, 101, 0]
abbrev reqC : List Value := [.int .u8 73, .int .u8 110, .int .u8 105, .int .u8 116, .int .u8 105, .int .u8 97, .int .u8 116, .int .u8 111, .int .u8 114, .int .u8 78, .int .u8 97, .int .u8 109, .int .u8 101, .int .u8 61, .int .u8 97, .int .u8 0, .int .u8 72, .int .u8 101, .int .u8 97, .int .u8 100, .int .u8 101, .int .u8 114, .int .u8 68, .int .u8 105, .int .u8 103, .int .u8 101, .int .u8 115, .int .u8 116, .int .u8 61, .int .u8 67, .int .u8 82, .int .u8 67, .int .u8 51, .int .u8 50, .int .u8 67, .int .u8 44, .int .u8 78, .int .u8 111, .int .u8 110, .int .u8 101, .int .u8 0]
abbrev reqR (dp : Option Addr) (dc : Nat) : Rw := ⟨3, true, 135, 0, 7, 0, 1, 0, 0, 0, 0, 0, 0, 0, 0, 0, 0, 0, 0, 0, 0, 0, 0, 0, 0, 0, dp, dc, reqT⟩
set_option maxRecDepth 100000 in
set_option maxHeartbeats 4000000 in
theorem request_any (w : World) : Calls Tryz.prog 13 #[] w fun e w' => (∃ dp dc, e = .returned (.agg (rwV (reqR dp dc)).toArray) ∧ IsTxtV w' (.slice dp 41 dc) reqT) ∧ Below w.heap.size w w' := by
  have hcv := fun (n c : Nat) => Lib.run_convert_bytes_const (P := Tryz.prog) (w.alloc (.cells #[.int .i64 0, .bool false, .int .i64 0, .int .i64 0, .int .i64 0, .int .i64 0, .int .i64 0, .int .i64 0, .int .i64 0, .int .i64 0, .int .u8 0, .int .u8 0, .int .u8 0, .int .u8 0, .int .u8 0, .int .u8 0, .int .u8 0, .int .u8 0, .int .u8 0, .int .u8 0, .int .u8 0, .int .u8 0, .int .u8 0, .int .u8 0, .int .u8 0, .int .u8 0, .slice none 0 0] 37)) 28 5 reqC.toArray n c Tryz.underlying28 Tryz.underlying5
  rw [size_alloc1] at hcv
  have hx := ((Upd.refl [] _).alloc (.cells reqC.toArray 5 (41, 42))).get (alloc_last w (.cells #[.int .i64 0, .bool false, .int .i64 0, .int .i64 0, .int .i64 0, .int .i64 0, .int .i64 0, .int .i64 0, .int .i64 0, .int .i64 0, .int .u8 0, .int .u8 0, .int .u8 0, .int .u8 0, .int .u8 0, .int .u8 0, .int .u8 0, .int .u8 0, .int .u8 0, .int .u8 0, .int .u8 0, .int .u8 0, .int .u8 0, .int .u8 0, .int .u8 0, .int .u8 0, .slice none 0 0] 37)) (by simp)
  have hy := alloc_last (w.alloc (.cells #[.int .i64 0, .bool false, .int .i64 0, .int .i64 0, .int .i64 0, .int .i64 0, .int .i64 0, .int .i64 0, .int .i64 0, .int .i64 0, .int .u8 0, .int .u8 0, .int .u8 0, .int .u8 0, .int .u8 0, .int .u8 0, .int .u8 0, .int .u8 0, .int .u8 0, .int .u8 0, .int .u8 0, .int .u8 0, .int .u8 0, .int .u8 0, .int .u8 0, .int .u8 0, .slice none 0 0] 37)) (.cells reqC.toArray 5 (41, 42))
  rw [size_alloc1] at hy
  have HX := Lib.hid hx
  have HY := Lib.hid hy
  have HB := Lib.hid (show Below w.heap.size w ((w.alloc (.cells #[.int .i64 0, .bool false, .int .i64 0, .int .i64 0, .int .i64 0, .int .i64 0, .int .i64 0, .int .i64 0, .int .i64 0, .int .i64 0, .int .u8 0, .int .u8 0, .int .u8 0, .int .u8 0, .int .u8 0, .int .u8 0, .int .u8 0, .int .u8 0, .int .u8 0, .int .u8 0, .int .u8 0, .int .u8 0, .int .u8 0, .int .u8 0, .int .u8 0, .int .u8 0, .slice none 0 0] 37)).alloc (.cells reqC.toArray 5 (41, 42))) from ((Below.refl _ _).alloc (Nat.le_refl _) _).alloc (by simp) _)
  clear hx hy
  go_enter Tryz.func13, Tryz.ntmps13
  go_wp2_with (show wpList _ _ _ ({ dst := _, op := .store 37 (.tmp 0) (.tmp 3), type := _, pos := _, after := _, guard := _ } :: _) _ _; refine wpList_store_whole rfl 37 (.tmp 0) (.tmp 3) rfl w.heap.size _ rfl rfl _ _ HX.out infoPdu rfl rfl ?_; intro w2 hg2 hu2 _; have G2 := Lib.hid hg2; have U2 := Lib.hid hu2; clear hg2 hu2)
  refine bodyPost_ret (results_cell1 rfl _ rfl (run_loadVar_cells _ _ 0 27 _ (rwV (reqR (some ⟨w.heap.size + 1, 0, none⟩) 41)) _ (cells_list G2.out) Tryz.underlying37 rfl infoPdu rfl)) rfl ?_
  refine ⟨⟨_, _, rfl, _, _, rfl, fun i hi => ⟨w.heap.size + 1, 0, rfl, ?_, ?_⟩, by decide, by simp, by decide⟩, HB.out.trans (U2.out.below HB.out.size (by simp))⟩
  · exact lt_of_get (U2.out.get HY.out (by simp))
  · rw [show w2.cell? ⟨w.heap.size + 1, 0 + i, none⟩ = reqC.toArray[0 + i]? by simp [World.cell?, U2.out.get HY.out (by simp)]]
    have e : reqC = reqT.map fun b => Value.int .u8 (b.toNat : Int) := rfl
    rw [e]
    simp
    exact ⟨_, List.getElem?_eq_getElem hi, rfl⟩
end Go.Proofs.YtlhdjgibkiffaaaGreatDoor
