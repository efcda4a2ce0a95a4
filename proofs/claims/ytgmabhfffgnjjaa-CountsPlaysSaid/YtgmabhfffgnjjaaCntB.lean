/-
  PROVED HERE: Body and Load of package counts. Conditions: those that each theorem names.
-/
import Derived.Test.YtgmabhfffgnjjaaCntA
namespace Go.Proofs.Ytgmabhfffgnjjaa
open Go.RowKit

/-- A page of counts as bytes, in a block of its own. -/
def BlkOut (B : Nat) (l : List Nat) (e : Ending) (w' : World) : Prop := ∃ b, e = .returned (.tuple #[.slice (some ⟨b, 0, none⟩) 240 240, .int .i64 0]) ∧ B ≤ b ∧ IsBlk w' b l
set_option maxRecDepth 100000 in
set_option maxHeartbeats 1600000 in
theorem putCounts_blk {w : World} {a : Option Addr} {l : List Int} {cap : Nat} (hb : IsInts w a l) (hl : l.length = 120) (hk : inK l) :
    Calls Try.prog 31 #[.slice a 120 cap] w fun e w' => BlkOut w.heap.size (countBytes l) e w' ∧ Upd [] w w' := by
  have HB := Lib.hid hb
  have HK := Lib.hid (fun (k : Nat) (h : k < l.length) => hk _ (List.getElem_mem h))
  have H120 := Lib.hid hl
  have HW := Lib.hid (isW_made w)
  have HA := Lib.hid (fun o => (Upd.refl [] w).alloc o)
  clear hb hl hk
  go_enter Try.func31, Try.ntmps31
  go_wp2
  go_loopw [12] (fun i wr => ∃ k : Nat, k ≤ 120 ∧ i = .int .i64 k ∧ IsW wr w.heap.size (countBytes (l.take k)) ∧ Upd [] w wr) (fun i _ => 120 - (RowKit.intOf i).toNat)
  case atStart => exact ⟨0, by decide, rfl, by simpa [countBytes] using HW.out, HA.out _⟩
  case round =>
    obtain ⟨k, hk, rfl, hW, hU⟩ := hrel
    have HWR := Lib.hid hW
    have HU := Lib.hid hU
    clear hW hU
    by_cases hlt : k < 120
    · have hkl : k < l.length := by have := H120.out; omega
      obtain ⟨b, o, rfl, hc⟩ := (HB.out.upd HU.out (by simp)) k hkl
      have HS := Lib.hid (countBytes_take l k hkl)
      have HL := Lib.hid (countBytes_len (l.take k))
      have hx2 := HK.out k hkl
      generalize l[k] = x at hc HS hx2
      have hI : inB x 1000 = true := inB_true.2 hx2
      obtain ⟨m, rfl⟩ := Int.eq_ofNat_of_zero_le hx2.1
      have hm := hx2.2
      clear hx2
      go_wp2_with (first | (go_at_call 39; refine (in_b _ _ _).mono ?_; rintro e w' ⟨rfl, rfl⟩) | (go_at_call 40; refine (put_any (k := 2) HWR.out (by decide) (by omega) (by rw [HL.out, List.length_take]; omega)).mono ?_; rintro e w2 ⟨rfl, h2, u2⟩; have H2 := Lib.hid h2; have U2 := Lib.hid u2; clear h2 u2))
      go_roundw
      case rel => exact ⟨k + 1, by omega, by go_num, by rw [HS.out]; exact H2.out, HU.out.step U2.out (fun x hx => .inr (by simp at hx; omega))⟩
      case measure => simp [RowKit.intOf]; omega
    · obtain rfl : k = 120 := by omega
      have hl240 : (countBytes (l.take 120)).length = 240 := by rw [countBytes_len, List.length_take]; have := H120.out; omega
      have HLE := Lib.hid hl240
      clear hl240
      go_wp2_with (go_at_call 41; refine (body_any HWR.out (by rw [HLE.out]; exact Nat.le_refl _)).mono ?_; rintro e w2 ⟨rfl, rfl, h2⟩; have H2 := Lib.hid h2; clear h2)
      go_ret2
      have h2 := H2.out
      unfold pad at h2
      rw [HLE.out, List.take_of_length_le (by have := H120.out; omega)] at h2
      simp only [Nat.sub_self, List.replicate_zero, List.append_nil] at h2
      exact ⟨⟨_, rfl, Nat.le_refl _, h2⟩, HU.out⟩

theorem run_sl_from {P : Program} (w : World) {t e : TypeId} (hu : P.underlying t = some (.slice e)) (hs : (P.info? e).map (·.size) = some 1) (g o len cap : Nat) (k : IntKind) (i : Int) (h0 : 0 ≤ i) (h2 : i ≤ len) (h3 : i < cap) :
    (Instr.sliceAt t (.slice (some ⟨g, o, none⟩) len cap) (some (.int k i)) none none).run P w = .ok (.slice (some ⟨g, o + i.toNat, none⟩) (len - i.toNat) (cap - i.toNat)) w := by
  cases hq : P.info? e with
  | none => simp [hq] at hs
  | some q =>
    have hj : q.size = 1 := by simpa [hq] using hs
    have hb2 := run_bound (P := P) w k i len .sliceB h0 (by omega)
    have hne : ¬ cap = i.toNat := by omega
    simp [Instr.sliceAt, Instr.slice, Instr.sliceBounds, run_underlying hu w, sizeOf, typeInfo, hq, hj, hb2, hne, add_off]
theorem i64s_cells (l : List Int) : ∀ v ∈ i64s l, v.oneCell' = true := fun v hv => by
  obtain ⟨x, _, rfl⟩ := List.mem_map.1 hv
  rfl
theorem sizeInt : (Try.prog.info? 3).map (·.size) = some 1 := by kernel_rfl
/-- copy of some numbers into a block of numbers: as many as there is room for. -/
theorem run_copyi {w : World} {B d2 dLen dCap g o sl sc : Nat} {cs : List Value} {cur : Array Value} (hg : w.heap[B]? = some (.cells cur 3 (0, 0))) (hs : ∀ j v, cs[j]? = some v → w.cell? ⟨g, o + j, none⟩ = some v) (hm : Nat.min sl dLen = cs.length) (hfit : d2 + cs.length ≤ cur.size) (h1 : ∀ v ∈ cs, v.oneCell' = true) (ty : TypeId) :
    ∃ w2, (Builtin.copy_ #[32, 32] ty #[.slice (some ⟨B, d2, none⟩) dLen dCap, .slice (some ⟨g, o, none⟩) sl sc]).run Try.prog w = .ok (goInt cs.length) w2 ∧ w2.heap[B]? = some (.cells (splice cur d2 cs) 3 (0, 0)) ∧ Upd [B] w w2 ∧ w2.heap.size = w.heap.size := by
  refine ⟨w.setRow B (splice cur d2 cs), ?_, setRow_heap _ _ _ _ _ _ hg, (Upd.refl _ _).setRow (.inl (by simp)) _, by simp⟩
  have hst := run_storeCells_at (P := Try.prog) B d2 3 cs 0 cur w hg (by simpa using hfit) h1
  simp only [Nat.add_zero] at hst
  have hl := run_loadCells_list (P := Try.prog) w ⟨g, o, none⟩ cs (fun j v h => by rw [add_off]; exact hs j v h)
  cases hq : Try.prog.info? 3 with
  | none => have := sizeInt; simp [hq] at this
  | some i =>
    have hi : i.size = 1 := by have := sizeInt; simpa [hq] using this
    simp [Builtin.copy_, run_underlying Try.underlying32, Builtin.lenOf, Builtin.firstCells, sizeOf, typeInfo, hq, hi, hm, hl, hst, splice]
theorem wpList_copyi {w : World} {ops : Array Oper} {rest : List Oper} {op : Oper} {a : Act} {Q : Exit → Act → World → Prop} (hgd : op.guard = none) (x y : Operand) (ho : op.op = .call { callee := .builtin .copy, args := #[x, y], argTypes := #[32, 32] })
    {B d2 dLen dCap g o sl sc : Nat} {cs : List Value} {cur : Array Value} (hx : a.eval x = .slice (some ⟨B, d2, none⟩) dLen dCap) (hy : a.eval y = .slice (some ⟨g, o, none⟩) sl sc)
    (hg : w.heap[B]? = some (.cells cur 3 (0, 0))) (hs : ∀ j v, cs[j]? = some v → w.cell? ⟨g, o + j, none⟩ = some v) (hm : Nat.min sl dLen = cs.length) (hfit : d2 + cs.length ≤ cur.size) (h1 : ∀ v ∈ cs, v.oneCell' = true)
    (hK : ∀ w2, w2.heap[B]? = some (.cells (splice cur d2 cs) 3 (0, 0)) → Upd [B] w w2 → w2.heap.size = w.heap.size → wpList Try.prog ops Q rest (a.put op.dst (goInt cs.length)) w2) : wpList Try.prog ops Q (op :: rest) a w := by
  obtain ⟨w2, hrun, q1, q2, q3⟩ := run_copyi (d2 := d2) (dCap := dCap) (sc := sc) hg hs hm hfit h1 op.type
  refine wpList_plain hgd fun K hK' => ?_
  unfold Oper.wp
  simp [execOp, ho, resolve, invoke, builtin, hx, hy, hrun, Result.andThen]
  exact hK' _ _ (hK w2 q1 q2 q3)
theorem ints_row {w : World} {g : Nat} {l : List Int} (h : w.heap[g]? = some (.cells (i64s l).toArray 3 (0, 0))) : IsInts w (some ⟨g, 0, none⟩) l := fun q hq => ⟨g, 0, rfl, by rw [Nat.zero_add, (row_at h hq).1, getD_in _ _ hq]⟩
/-- The counts of a page lie in a block of their own behind the copy. -/
theorem page_copied (s : Ct) (j : Nat) : splice (madeCells #[Value.int .i64 0] 120) 0 (i64s ((s.now.drop (120 * j)).take 120)) = (i64s (s.page j)).toArray := by
  rw [i64s_zero]
  have hle : 0 + (i64s ((s.now.drop (120 * j)).take 120)).length ≤ (i64s (List.replicate 120 0)).toArray.size := by simp [i64s]; omega
  apply Array.ext_getElem?
  intro q
  rw [splice_get _ _ _ hle, i64s_len, Nat.zero_add, Nat.sub_zero, i64s_get]
  rw [show (i64s (s.page j)).toArray[q]? = (i64s (s.page j))[q]? from List.getElem?_toArray, show (i64s (List.replicate 120 0)).toArray[q]? = (i64s (List.replicate 120 0))[q]? from List.getElem?_toArray, i64s_get, i64s_get]
  have hp : (s.page j)[q]? = if q < 120 then some (s.now.getD (120 * j + q) 0) else none := by
    unfold Ct.page
    rw [List.getElem?_map]
    by_cases h : q < 120
    · rw [if_pos h, List.getElem?_range h]; rfl
    · rw [if_neg h, List.getElem?_eq_none (by simp; omega)]; rfl
  rw [hp]
  by_cases h : q < ((s.now.drop (120 * j)).take 120).length
  · rw [if_pos ⟨Nat.zero_le _, h⟩]
    simp only [List.length_take, List.length_drop] at h
    rw [if_pos (by omega), List.getElem?_take_of_lt (by omega), List.getElem?_drop, List.getElem?_eq_getElem (by omega), getD_in _ _ (by omega)]
  · rw [if_neg (fun e => h e.2)]
    simp only [List.length_take, List.length_drop] at h
    by_cases h2 : q < 120
    · rw [if_pos h2, getD_out _ _ (by omega), List.getElem?_replicate, if_pos h2]
    · rw [if_neg h2, List.getElem?_replicate, if_neg h2]
/-- What Body hands back. -/
def BodyYes (B : Nat) (l : List Nat) (e : Ending) (w' : World) : Prop := ∃ b, e = .returned (.slice (some ⟨b, 0, none⟩) 240 240) ∧ B ≤ b ∧ IsBlk w' b l
theorem cbody_no {w : World} {b g m : Nat} {s : Ct} (h : IsC w b g m s) {p : Int} (hp : s.inM p = false) : Calls Try.prog 14 #[.pointer (some ⟨b, 0, none⟩), .int .i64 p] w fun e w' => e = .returned (.slice none 0 0) ∧ w = w' := by
  obtain ⟨c0, _⟩ := h.head
  have HMY := Lib.hid (fun w => many_yes s.now.length h.ok.lo h.ok.hi w)
  have hn := h.ok.hi
  rcases Ct.inM_false hp with h1 | h1
  · clear hp h
    go_enter Try.func14, Try.ntmps14
    go_wp2
    go_ret
    exact ⟨rfl, rfl⟩
  · have h2 : ¬ p < 0 := by omega
    clear hp h
    go_enter Try.func14, Try.ntmps14
    go_wp2_with (go_at_call 13; (with_reducible refine (HMY.out _).mono ?_); rintro e w' ⟨rfl, rfl⟩)
    go_ret
    exact ⟨rfl, rfl⟩
set_option maxRecDepth 100000 in
set_option maxHeartbeats 1600000 in
theorem cbody_yes {w : World} {b g m : Nat} {s : Ct} (h : IsC w b g m s) {j : Nat} (hj : j < manyOf s.now.length) : Calls Try.prog 14 #[.pointer (some ⟨b, 0, none⟩), .int .i64 (j : Nat)] w fun e w' => BodyYes w.heap.size (countBytes (s.page j)) e w' ∧ Upd [] w w' := by
  obtain ⟨c0, _⟩ := h.head
  have HMY := Lib.hid (fun w => many_yes s.now.length h.ok.lo h.ok.hi w)
  have hn := h.ok.hi
  have hjn : 120 * j < s.now.length := by unfold manyOf at hj; omega
  have hj' : ¬ manyOf s.now.length ≤ j := by omega
  obtain ⟨i0, hi, hz0, hz1, hz2⟩ := info_parts infoInt
  have hmk := run_make (P := Try.prog) w 32 3 i0 _ Try.underlying32 hi hz0 .i64 .i64 (120 : Int) (120 : Int) (by omega) (by omega) (by rw [hz2]; omega) (by omega)
  rw [show (120 : Int).toNat = 120 from rfl, hz1, Nat.mul_one, show (Value.int IntKind.i64 0).cells = #[Value.int .i64 0] from rfl] at hmk
  have HPC := Lib.hid (page_copied s j)
  obtain ⟨Z, hZ⟩ : ∃ Z, madeCells #[Value.int .i64 0] 120 = Z := ⟨_, rfl⟩
  have hzs : Z.size = 120 := by rw [← hZ]; exact size_madeCells _ _
  rw [hZ] at hmk HPC
  have hsl : ∀ w, (Instr.sliceAt 32 (.slice (some ⟨g, 0, none⟩) s.now.length s.now.length) (some (.int .i64 ((j : Int) * 120))) none none).run Try.prog w = .ok (.slice (some ⟨g, 120 * j, none⟩) (s.now.length - 120 * j) (s.now.length - 120 * j)) w := fun w => by
    have := run_sl_from (P := Try.prog) w Try.underlying32 sizeInt g 0 s.now.length s.now.length .i64 ((j : Int) * 120) (by omega) (by omega) (by omega)
    rw [this, show ((j : Int) * 120).toNat = 120 * j by omega, Nat.zero_add]
  have HROW := Lib.hid h.row
  have HHD := Lib.hid h.hd
  have HZS := Lib.hid hzs
  have HPI := Lib.hid (Ct.page_in h.ok j)
  have HPL := Lib.hid (Ct.page_len s j)
  have HCS : Hid (∀ q v, (i64s ((s.now.drop (120 * j)).take 120))[q]? = some v → (w.alloc (.cells Z 3)).cell? ⟨g, 120 * j + q, none⟩ = some v) := fun q v hv => by
    rw [i64s_get] at hv
    by_cases hq : q < 120
    · rw [List.getElem?_take_of_lt hq, List.getElem?_drop] at hv
      rw [(cells_of (((Upd.refl [] w).alloc (.cells Z 3)).get h.row (by simp))).1, List.getElem?_toArray, i64s_get]
      exact hv
    · rw [List.getElem?_eq_none (by simp; omega)] at hv; cases hv
  have HML : Hid (Nat.min (s.now.length - 120 * j) 120 = (i64s ((s.now.drop (120 * j)).take 120)).length) := by
    have : Nat.min (s.now.length - 120 * j) 120 = (i64s ((s.now.drop (120 * j)).take 120)).length := by rw [i64s_len, List.length_take, List.length_drop, Nat.min_comm]
    exact this
  have HLE : Hid (0 + (i64s ((s.now.drop (120 * j)).take 120)).length ≤ Z.size) := by
    have : 0 + (i64s ((s.now.drop (120 * j)).take 120)).length ≤ Z.size := by rw [i64s_len, List.length_take, hzs]; omega
    exact this
  have hb1 := (((Upd.refl [] w).alloc (.cells Z 3)).get h.hd (by simp))
  have hc1 := (cells_of hb1).1 0
  simp only [List.getElem?_toArray, List.getElem?_cons_zero] at hc1
  clear h hi hz0 hz1 hz2 hZ hzs hb1
  go_enter Try.func14, Try.ntmps14
  go_wp2_with (first
    | (go_at_call 13; (with_reducible refine (HMY.out _).mono ?_); rintro e w' ⟨rfl, rfl⟩)
    | (refine wpList_copyi rfl (.tmp 21) (.tmp 28) rfl rfl rfl (heap_alloc_new _ _) HCS.out HML.out HLE.out (i64s_cells _) ?_; intro w2 hb2 hu2 hs2; rw [HPC.out] at hb2; have B2 := Lib.hid (ints_row hb2); have U2 := Lib.hid hu2; have S2 := Lib.hid hs2; clear hb2 hu2 hs2)
    | (go_at_call 31; (with_reducible refine (putCounts_blk B2.out HPL.out HPI.out).mono ?_); rintro e w3 ⟨⟨b3, rfl, hb3, hk3⟩, u3⟩; have HB3 := Lib.hid hb3; have HK3 := Lib.hid hk3; have U3 := Lib.hid u3; clear hb3 hk3 u3))
  go_ret
  have u2 : Upd [] w w2 := ((Upd.refl [] w).alloc (.cells Z 3)).step U2.out (fun x hx => .inr (by simp at hx; omega))
  exact ⟨⟨b3, rfl, Nat.le_trans u2.size HB3.out, HK3.out⟩, u2.trans U3.out⟩
end Go.Proofs.Ytgmabhfffgnjjaa
