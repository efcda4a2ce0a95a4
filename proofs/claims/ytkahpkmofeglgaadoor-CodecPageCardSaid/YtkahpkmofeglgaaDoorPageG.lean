/-
  PROVED HERE: bytes.Equal; GetPage of package codec. Conditions: the bytes can be read; the table may be used, and does not hold them.
-/
import Derived.Test.YtkahpkmofeglgaaDoorPageRec
import Derived.Test.YtkahpkmofeglgaaDoorImageG
namespace Go.Proofs.YtkahpkmofeglgaaDoor
open Go.RowKit

theorem conv_any {w : World} {a : Option Addr} {l : List Nat} (h : IsBytes w a l) (cap : Nat) : (convert 27 9 (.slice a l.length cap)).run Tryd.prog w = .ok (.string (strOfNums (l.map fun n : Nat => (n : Int)))) w := by
  by_cases h0 : l.length = 0
  · obtain rfl : l = [] := List.length_eq_zero_iff.1 h0
    cases a with
    | none => exact run_convert_bytes_nil (P := Tryd.prog) w 27 5 Tryd.underlying27 Tryd.underlying5 0 cap 9 Tryd.underlying9
    | some x =>
      rw [run_convert_bytes_string (P := Tryd.prog) w 27 9 5 _ _ _ Tryd.underlying27 Tryd.underlying5 Tryd.underlying9]
      exact run_bytesToString (P := Tryd.prog) w x 0 cap [] (by simp [loadCells, loadCellsFrom])
  · obtain ⟨b, o, rfl, _⟩ := h.2 0 (by omega)
    have := h.text l.length cap (Nat.le_refl _)
    rw [List.take_length] at this
    exact this
theorem str_eq {l l' : List Nat} (h : BytesOk l) (h' : BytesOk l') : ((strOfNums (l.map fun n : Nat => (n : Int))).toList == (strOfNums (l'.map fun n : Nat => (n : Int))).toList) = decide (l = l') := by
  rw [Bool.eq_iff_iff, beq_iff_eq, decide_eq_true_iff, ByteArray.toList_eq, ByteArray.toList_eq]
  constructor
  · intro e
    have e2 : strBytes (strOfNums (l.map fun n : Nat => (n : Int))) = strBytes (strOfNums (l'.map fun n : Nat => (n : Int))) := by unfold strBytes; rw [e]
    rw [strBytes_nums h, strBytes_nums h'] at e2
    exact e2
  · rintro rfl; rfl
theorem equal_any {w : World} {a a' : Option Addr} {l l' : List Nat} {cap cap' : Nat} (hb : IsBytes w a l) (hb' : IsBytes w a' l') :
    Calls Tryd.prog 66 #[.slice a l.length cap, .slice a' l'.length cap'] w fun e w' => e = .returned (.bool (decide (l = l'))) ∧ w = w' := by
  have h1 := conv_any hb cap
  have h2 := conv_any hb' cap'
  have HS := Lib.hid (str_eq hb.1 hb'.1)
  clear hb hb'
  go_enter Tryd.func66, Tryd.ntmps66
  go_wp2
  go_ret
  rw [← HS.out]
  exact ⟨rfl, rfl⟩
/-- What reading a page hands back. -/
def PageRes (B : Nat) (o : Option (Int × List Nat)) (e : Ending) (w' : World) : Prop :=
  ∃ v, e = .returned (.tuple #[.agg #[.int .i64 (o.getD (0, [])).1, v], .bool o.isSome]) ∧ IsRet w' B v (o.getD (0, [])).2
theorem PageRes.no (B : Nat) (w : World) : PageRes B none (.returned (.tuple #[.agg #[.int .i64 0, .slice none 0 0], .bool false])) w := ⟨.slice none 0 0, rfl, IsRet.nil w B⟩
theorem PageRes.zero (B : Nat) (w : World) : PageRes B (some (0, [])) (.returned (.tuple #[.agg #[.int .i64 0, .slice none 0 0], .bool true])) w := ⟨.slice none 0 0, rfl, IsRet.nil w B⟩
theorem infoPage : (Tryd.prog.info? 37).map (·.size) = some 2 := by kernel_rfl
theorem buildPg0 (w : World) : (Instr.build 37 #[]).run Tryd.prog w = .ok (.agg #[.int .i64 0, .slice none 0 0]) w := run_build w _ _ _ (by kernel_rfl)
theorem buildPg1 (k : Int) (w : World) : (Instr.build 37 #[(0, .int .i64 k)]).run Tryd.prog w = .ok (.agg #[.int .i64 k, .slice none 0 0]) w := run_build w _ _ _ (by kernel_rfl)
theorem make256 (w : World) : (Instr.makeSlice 27 (.int .i64 256) (.int .i64 256)).run Tryd.prog w = .ok (.slice (some ⟨w.heap.size, 0, none⟩) 256 256) (w.alloc (.cells (u8s zero256).toArray 5)) := by kernel_rfl
theorem isZero {w : World} (_S : List Nat) : IsBytes (w.alloc (.cells (u8s zero256).toArray 5)) (some ⟨w.heap.size, 0, none⟩) zero256 :=
  ⟨BytesOk.zeros 256, fun i hi => ⟨w.heap.size, 0, rfl, by rw [Nat.zero_add, (cells_of (heap_alloc_new w _)).1, List.getElem?_toArray, u8s_get, List.getElem?_eq_getElem hi]; rfl⟩⟩
set_option maxRecDepth 100000 in
set_option maxHeartbeats 1600000 in
theorem getPage_none {w : World} {a : Option Addr} {n cap : Nat} (m : Int) (hn : n ≤ 9223372036854775807) :
    Calls Tryd.prog 30 #[.pointer none, .slice a n cap, .int .i64 m] w fun e w' => PageRes w.heap.size none e w' ∧ Upd [] w w' := by
  have hbd := buildPg0
  have HX := Lib.hid (heap_alloc_new w (.cells #[.int .i64 0, .slice none 0 0] 37))
  go_enter Tryd.func30, Tryd.ntmps30
  go_wp2_with (first
    | (go_at_call 59; (with_reducible refine (sound_len (t := none) (.inl rfl) hn).mono ?_); rintro e w1 ⟨rfl, u1⟩; have U1 := Lib.hid u1; clear u1)
    | (refine wpList_store_all rfl 37 (.tmp 6) (.tmp 27) rfl w.heap.size _ rfl rfl _ _ (((Upd.refl [] _).alloc _).get (U1.out.get HX.out (by simp)) (by simp)) infoPage rfl (by kernel_rfl) ?_; intro w2 hg2 hu2 _; have G2 := Lib.hid hg2; have U2 := Lib.hid hu2; clear hg2 hu2))
  refine bodyPost_ret (results_block_tmp Tryd.results30 _ _ w.heap.size 2 _ _ _ _ rfl G2.out Tryd.underlying37 rfl infoPage rfl) rfl ⟨PageRes.no _ _, (((Upd.refl [] w).alloc _).trans U1.out |>.alloc _).step U2.out (fun x hx => .inr (by simp at hx; omega))⟩
end Go.Proofs.YtkahpkmofeglgaaDoor
