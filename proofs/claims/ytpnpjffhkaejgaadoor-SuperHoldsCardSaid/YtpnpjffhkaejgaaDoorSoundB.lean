/-
  PROVED HERE: whether bytes are a sector that begins with a word, and its sum. Conditions: the bytes can be read; the table may be used, and does not hold them.
  PROVED HERE: what package codec's sound answers of any bytes: it tells just whether they are a sector with its sum that begins with a word. Conditions: the bytes can be read; the table may be used, and does not hold them.
-/
import Derived.Test.YtpnpjffhkaejgaaDoorTrim
import Derived.Deep.RegionHeld3
import Derived.Laws.BytesArg
import Derived.Laws.ResultCell
namespace Go.Proofs.YtpnpjffhkaejgaaDoor
open Go.RowKit

theorem toList_ne {a b : ByteArray} (h : ¬ a = b) : (a.toList == b.toList) = false := by
  simp only [ByteArray.toList_eq, beq_eq_false_iff_ne]
  exact fun e => h (Go.WideShapes.bytes_inj e)
theorem arr4 (w : World) (g o c : Nat) : (Instr.arrayAt 104 (.slice (some ⟨g, o, none⟩) 4 c)).run Tryd.prog w = .ok (.pointer (some ⟨g, o, none⟩)) w := by
  simp [Instr.arrayAt, run_underlying (P := Tryd.prog) Tryd.underlying104 w]
theorem eq4 (x0 x1 x2 x3 c0 c1 c2 c3 : Int) (w : World) : (Op.equalIn 10000 104 (.agg #[.int .u8 x0, .int .u8 x1, .int .u8 x2, .int .u8 x3]) (.agg #[.int .u8 c0, .int .u8 c1, .int .u8 c2, .int .u8 c3])).run Tryd.prog w = .ok (x0 == c0 && x1 == c1 && x2 == c2 && x3 == c3) w := by
  have u5 := run_underlying (P := Tryd.prog) Tryd.underlying5
  have a5 := Tryd.isAgg5
  have z5 := Tryd.sizeOf5
  rw [show (10000 : Nat) = 9999 + 1 from rfl, Op.equalIn]
  simp only [Sem.run_bind, run_underlying Tryd.underlying104, Result.andThen_ok]
  simp only [Std.Legacy.Range.forIn_eq_forIn_range', Std.Legacy.Range.size, Nat.sub_zero, Nat.add_sub_cancel, Nat.div_one, List.range'_succ, List.range'_zero, List.forIn_cons, List.forIn_nil]
  go_simp
  by_cases h1 : x0 = c0 <;> by_cases h2 : x1 = c1 <;> by_cases h3 : x2 = c2 <;> by_cases h4 : x3 = c3 <;> simp [h1, h2, h3, h4]
theorem buildRd (a : Option Addr) (n c : Nat) (w : World) : (Instr.build 94 #[(0, .slice a n c)]).run Tryd.prog w = .ok (.agg #[.slice a n c]) w := run_build w _ _ _ (by kernel_rfl)
theorem buildRd0 (w : World) : (Instr.build 94 #[]).run Tryd.prog w = .ok (.agg #[.slice none 0 0]) w := run_build w _ _ _ (by kernel_rfl)
/-- What a function returns whose results are a struct in a cell's block and a slot. -/
theorem results_block_tmp {P : Program} {fn : Func} {p u : Tmp} {ty : TypeId} (h : fn.results = #[.cell p ty, .tmp u]) (tmps : Array Value) (w : World) (g n : Nat) (t : TypeId) (cs : Array Value) (fr : Nat × Nat) (d : TypeDesc)
    (hp : tmps.getD p undef = .pointer (some ⟨g, 0, none⟩)) (hg : w.heap[g]? = some (.cells cs t fr)) (hu : P.underlying ty = some d) (hd : (match d with | .struct _ | .array _ _ => true | _ => false) = true)
    (hi : (P.info? ty).map (·.size) = some n) (hn : cs.size = n) : (results fn tmps).run P w = .ok (.tuple #[.agg cs, tmps.getD u undef]) w := by
  subst hn
  have hl := run_loadVar_row (P := P) w g t ty cs fr d hg hu (by cases d <;> simp_all) hi
  rw [results_cell_tmp h, hp]
  simp only [asAddr, Sem.run_pure, Result.andThen_ok, hl]
/-- What is read: the four cells of the sum, and the word. -/
def Eyes (b o cap : Nat) (x0 x1 x2 x3 : Int) (z : ByteArray) (w : World) : Prop :=
  w.cell? ⟨b, o + 252, none⟩ = some (.int .u8 x0) ∧ w.cell? ⟨b, o + 252 + 1, none⟩ = some (.int .u8 x1) ∧ w.cell? ⟨b, o + 252 + 2, none⟩ = some (.int .u8 x2) ∧ w.cell? ⟨b, o + 252 + 3, none⟩ = some (.int .u8 x3) ∧
  (convert 39 9 (.slice (some ⟨b, o, none⟩) 4 cap)).run Tryd.prog w = .ok (.string z) w
set_option maxRecDepth 100000 in
set_option maxHeartbeats 1600000 in
theorem sound_yes {w : World} {t b o cap : Nat} {x0 x1 x2 x3 c0 c1 c2 c3 : Int} {s z : ByteArray} (hE : ∀ w', Upd [t] w w' → Eyes b o cap x0 x1 x2 x3 z w') (hc : 256 ≤ cap) (hl : cap ≤ 9223372036854775807) (ht : t < w.heap.size)
    (hsum : ∀ w', Upd [] w w' → Calls Tryd.prog 44 #[pt t, .slice (some ⟨b, o, none⟩) 252 cap] w' fun e w'' => e = .returned (.agg #[.int .u8 c0, .int .u8 c1, .int .u8 c2, .int .u8 c3]) ∧ IsTab w'' t 1 0 tword ∧ Upd [t] w' w'')
    (hx : (x0 == c0 && x1 == c1 && x2 == c2 && x3 == c3) = true) (hz : z = s) :
    Calls Tryd.prog 38 #[pt t, .slice (some ⟨b, o, none⟩) 256 cap, .string s] w fun e w' => e = .returned (.tuple #[.agg #[.slice (some ⟨b, o + 4, none⟩) 248 (cap - 4)], .bool true]) ∧ IsTab w' t 1 0 tword ∧ Upd [t] w w' := by
  subst hz
  have hU : Upd [] w (w.alloc (.cells #[.slice none 0 0] 94)).drew := ((Upd.refl _ _).alloc _).drew
  have HE0 := Lib.hid (hE _ (hU.mono (by simp)))
  have HE := Lib.hid hE
  have HU := Lib.hid hU
  have HS := Lib.hid (hsum _ hU)
  have HN := Lib.hid (heap_alloc_new w (.cells #[.slice none 0 0] 94))
  have HT := Lib.hid ht
  clear hE hsum hU ht
  go_enter Tryd.func38, Tryd.ntmps38
  have hc4 : ¬ cap = 252 := by omega
  have hc6 : (252 : Int) ≤ cap := by omega
  have hc7 : (4 : Int) ≤ cap := by omega
  have hA := fun w c => arr4 w b (o + 252) c
  have hQ := fun w => eq4 x0 x1 x2 x3 c0 c1 c2 c3 w
  rw [hx] at hQ
  clear hx
  go_wp2_with fail
  have hE0 := HE0.out
  unfold Eyes at hE0
  go_region_held3 (fun w' => w'.cell? ⟨b, o + 252, none⟩ = some (.int .u8 x0) ∧ w'.cell? ⟨b, o + 252 + 1, none⟩ = some (.int .u8 x1) ∧ w'.cell? ⟨b, o + 252 + 2, none⟩ = some (.int .u8 x2) ∧ w'.cell? ⟨b, o + 252 + 3, none⟩ = some (.int .u8 x3) ∧
    (convert 39 9 (.slice (some ⟨b, o, none⟩) 4 cap)).run Tryd.prog w' = .ok (.string z) w') (first | exact hE0 | exact hE1) (first
    | (go_at_call 44; (with_reducible refine HS.out.mono ?_); rintro e w1 ⟨rfl, ht1, u1⟩; have hE1 := HE.out _ ((HU.out.mono (by simp)).trans u1)))
  all_goals (
    have hn := u1.get (show (w.alloc (.cells #[.slice none 0 0] 94)).drew.heap[w.heap.size]? = _ from HN.out) (by have := HT.out; simp; omega)
    obtain ⟨k1, k2⟩ := cells_of hn
    have k10 := k1 0
    have k20 := k2 0
    simp only [List.getElem?_toArray, List.getElem?_cons_zero] at k10
    have HN1 := Lib.hid hn
    have HT1 := Lib.hid ht1
    have HU1 := Lib.hid ((HU.out.mono (by simp)).trans u1)
    clear hn k1 k2 ht1 u1 hE1 hE0 hA hQ
    have hbd := fun a w => buildRd a 248 (cap - 4) w
    have hc8 : ¬ cap = 4 := by omega
    go_wp2
    have hg := heap_setCell_same w1 w.heap.size 0 _ _ (.slice (some ⟨b, o + 4, none⟩) 248 (cap - 4)) HN1.out
    have hu : Upd [t] w (w1.setCell ⟨w.heap.size, 0, none⟩ (.slice (some ⟨b, o + 4, none⟩) 248 (cap - 4))) := HU1.out.setCell (.inr (Nat.le_refl _)) _
    have hu1 : Upd [w.heap.size] w1 (w1.setCell ⟨w.heap.size, 0, none⟩ (.slice (some ⟨b, o + 4, none⟩) 248 (cap - 4))) := (Upd.refl _ _).setCell (.inl (by simp)) _
    refine bodyPost_ret (results_block_tmp Tryd.results38 _ _ w.heap.size 1 _ _ _ _ rfl hg Tryd.underlying94 rfl (by kernel_rfl) rfl) rfl ⟨rfl, HT1.out.upd hu1 (by have := HT.out; simp; omega), hu⟩)

set_option maxRecDepth 100000 in
set_option maxHeartbeats 1600000 in
theorem sound_no_sum {w : World} {t b o cap : Nat} {x0 x1 x2 x3 c0 c1 c2 c3 : Int} {s z : ByteArray} (hE : ∀ w', Upd [t] w w' → Eyes b o cap x0 x1 x2 x3 z w') (hc : 256 ≤ cap) (hl : cap ≤ 9223372036854775807) (ht : t < w.heap.size)
    (hsum : ∀ w', Upd [] w w' → Calls Tryd.prog 44 #[pt t, .slice (some ⟨b, o, none⟩) 252 cap] w' fun e w'' => e = .returned (.agg #[.int .u8 c0, .int .u8 c1, .int .u8 c2, .int .u8 c3]) ∧ IsTab w'' t 1 0 tword ∧ Upd [t] w' w'')
    (hx : (x0 == c0 && x1 == c1 && x2 == c2 && x3 == c3) = false) :
    Calls Tryd.prog 38 #[pt t, .slice (some ⟨b, o, none⟩) 256 cap, .string s] w fun e w' => e = .returned (.tuple #[.agg #[.slice none 0 0], .bool false]) ∧ IsTab w' t 1 0 tword ∧ Upd [t] w w' := by
  have hU : Upd [] w (w.alloc (.cells #[.slice none 0 0] 94)).drew := ((Upd.refl _ _).alloc _).drew
  have HE0 := Lib.hid (hE _ (hU.mono (by simp)))
  have HE := Lib.hid hE
  have HU := Lib.hid hU
  have HS := Lib.hid (hsum _ hU)
  have HN := Lib.hid (heap_alloc_new w (.cells #[.slice none 0 0] 94))
  have HT := Lib.hid ht
  clear hE hsum hU ht
  go_enter Tryd.func38, Tryd.ntmps38
  have hc4 : ¬ cap = 252 := by omega
  have hc6 : (252 : Int) ≤ cap := by omega
  have hc7 : (4 : Int) ≤ cap := by omega
  have hA := fun w c => arr4 w b (o + 252) c
  have hQ := fun w => eq4 x0 x1 x2 x3 c0 c1 c2 c3 w
  rw [hx] at hQ
  clear hx
  go_wp2_with fail
  have hE0 := HE0.out
  unfold Eyes at hE0
  first | (go_region_held (fun w' => w'.cell? ⟨b, o + 252, none⟩ = some (.int .u8 x0) ∧ w'.cell? ⟨b, o + 252 + 1, none⟩ = some (.int .u8 x1) ∧ w'.cell? ⟨b, o + 252 + 2, none⟩ = some (.int .u8 x2) ∧ w'.cell? ⟨b, o + 252 + 3, none⟩ = some (.int .u8 x3) ∧
    (convert 39 9 (.slice (some ⟨b, o, none⟩) 4 cap)).run Tryd.prog w' = .ok (.string z) w') (first | exact hE0 | exact hE1) (first
    | (go_at_call 44; (with_reducible refine HS.out.mono ?_); rintro e w1 ⟨rfl, ht1, u1⟩; have hE1 := HE.out _ ((HU.out.mono (by simp)).trans u1)))) | fail
  all_goals (
    have hn := u1.get (show (w.alloc (.cells #[.slice none 0 0] 94)).drew.heap[w.heap.size]? = _ from HN.out) (by have := HT.out; simp; omega)
    obtain ⟨k1, k2⟩ := cells_of hn
    have k10 := k1 0
    have k20 := k2 0
    simp only [List.getElem?_toArray, List.getElem?_cons_zero] at k10
    have HN1 := Lib.hid hn
    have HT1 := Lib.hid ht1
    have HU1 := Lib.hid ((HU.out.mono (by simp)).trans u1)
    clear hn k1 k2 ht1 u1 hE1 hE0 hA hQ
    have hbd := fun w => buildRd0 w
    have hc8 : ¬ cap = 4 := by omega
    go_wp2
    have hg := heap_setCell_same w1 w.heap.size 0 _ _ (.slice none 0 0) HN1.out
    have hu : Upd [t] w (w1.setCell ⟨w.heap.size, 0, none⟩ (.slice none 0 0)) := HU1.out.setCell (.inr (Nat.le_refl _)) _
    have hu1 : Upd [w.heap.size] w1 (w1.setCell ⟨w.heap.size, 0, none⟩ (.slice none 0 0)) := (Upd.refl _ _).setCell (.inl (by simp)) _
    refine bodyPost_ret (results_block_tmp Tryd.results38 _ _ w.heap.size 1 _ _ _ _ rfl hg Tryd.underlying94 rfl (by kernel_rfl) rfl) rfl ⟨rfl, HT1.out.upd hu1 (by have := HT.out; simp; omega), hu⟩)

set_option maxRecDepth 100000 in
set_option maxHeartbeats 1600000 in
theorem sound_no_word {w : World} {t b o cap : Nat} {x0 x1 x2 x3 c0 c1 c2 c3 : Int} {s z : ByteArray} (hE : ∀ w', Upd [t] w w' → Eyes b o cap x0 x1 x2 x3 z w') (hc : 256 ≤ cap) (hl : cap ≤ 9223372036854775807) (ht : t < w.heap.size)
    (hsum : ∀ w', Upd [] w w' → Calls Tryd.prog 44 #[pt t, .slice (some ⟨b, o, none⟩) 252 cap] w' fun e w'' => e = .returned (.agg #[.int .u8 c0, .int .u8 c1, .int .u8 c2, .int .u8 c3]) ∧ IsTab w'' t 1 0 tword ∧ Upd [t] w' w'')
    (hx : (x0 == c0 && x1 == c1 && x2 == c2 && x3 == c3) = true) (hz : ¬ z = s) :
    Calls Tryd.prog 38 #[pt t, .slice (some ⟨b, o, none⟩) 256 cap, .string s] w fun e w' => e = .returned (.tuple #[.agg #[.slice none 0 0], .bool false]) ∧ IsTab w' t 1 0 tword ∧ Upd [t] w w' := by
  have hzs := toList_ne hz
  clear hz
  have hU : Upd [] w (w.alloc (.cells #[.slice none 0 0] 94)).drew := ((Upd.refl _ _).alloc _).drew
  have HE0 := Lib.hid (hE _ (hU.mono (by simp)))
  have HE := Lib.hid hE
  have HU := Lib.hid hU
  have HS := Lib.hid (hsum _ hU)
  have HN := Lib.hid (heap_alloc_new w (.cells #[.slice none 0 0] 94))
  have HT := Lib.hid ht
  clear hE hsum hU ht
  go_enter Tryd.func38, Tryd.ntmps38
  have hc4 : ¬ cap = 252 := by omega
  have hc6 : (252 : Int) ≤ cap := by omega
  have hc7 : (4 : Int) ≤ cap := by omega
  have hA := fun w c => arr4 w b (o + 252) c
  have hQ := fun w => eq4 x0 x1 x2 x3 c0 c1 c2 c3 w
  rw [hx] at hQ
  clear hx
  go_wp2_with fail
  have hE0 := HE0.out
  unfold Eyes at hE0
  first | (go_region_held3 (fun w' => w'.cell? ⟨b, o + 252, none⟩ = some (.int .u8 x0) ∧ w'.cell? ⟨b, o + 252 + 1, none⟩ = some (.int .u8 x1) ∧ w'.cell? ⟨b, o + 252 + 2, none⟩ = some (.int .u8 x2) ∧ w'.cell? ⟨b, o + 252 + 3, none⟩ = some (.int .u8 x3) ∧
    (convert 39 9 (.slice (some ⟨b, o, none⟩) 4 cap)).run Tryd.prog w' = .ok (.string z) w') (first | exact hE0 | exact hE1) (first
    | (go_at_call 44; (with_reducible refine HS.out.mono ?_); rintro e w1 ⟨rfl, ht1, u1⟩; have hE1 := HE.out _ ((HU.out.mono (by simp)).trans u1)))) | fail
  all_goals (
    have hn := u1.get (show (w.alloc (.cells #[.slice none 0 0] 94)).drew.heap[w.heap.size]? = _ from HN.out) (by have := HT.out; simp; omega)
    obtain ⟨k1, k2⟩ := cells_of hn
    have k10 := k1 0
    have k20 := k2 0
    simp only [List.getElem?_toArray, List.getElem?_cons_zero] at k10
    have HN1 := Lib.hid hn
    have HT1 := Lib.hid ht1
    have HU1 := Lib.hid ((HU.out.mono (by simp)).trans u1)
    clear hn k1 k2 ht1 u1 hE1 hE0 hA hQ
    have hbd := fun w => buildRd0 w
    have hc8 : ¬ cap = 4 := by omega
    go_wp2
    have hg := heap_setCell_same w1 w.heap.size 0 _ _ (.slice none 0 0) HN1.out
    have hu : Upd [t] w (w1.setCell ⟨w.heap.size, 0, none⟩ (.slice none 0 0)) := HU1.out.setCell (.inr (Nat.le_refl _)) _
    have hu1 : Upd [w.heap.size] w1 (w1.setCell ⟨w.heap.size, 0, none⟩ (.slice none 0 0)) := (Upd.refl _ _).setCell (.inl (by simp)) _
    refine bodyPost_ret (results_block_tmp Tryd.results38 _ _ w.heap.size 1 _ _ _ _ rfl hg Tryd.underlying94 rfl (by kernel_rfl) rfl) rfl ⟨rfl, HT1.out.upd hu1 (by have := HT.out; simp; omega), hu⟩)

theorem sound_len {w : World} {a t : Option Addr} {n cap : Nat} {s : ByteArray} (h : t = none ∨ ¬ (n : Int) = 256) (_hn : n ≤ 9223372036854775807) :
    Calls Tryd.prog 38 #[.pointer t, .slice a n cap, .string s] w fun e w' => e = .returned (.tuple #[.agg #[.slice none 0 0], .bool false]) ∧ Upd [] w w' := by
  have HN := Lib.hid (heap_alloc_new w (.cells #[.slice none 0 0] 94))
  obtain ⟨k1, k2⟩ := cells_of (heap_alloc_new w (.cells #[.slice none 0 0] 94))
  have k10 := k1 0
  have k20 := k2 0
  simp only [List.getElem?_toArray, List.getElem?_cons_zero] at k10
  have K1 := Lib.hid k10
  have K2 := Lib.hid k20
  clear k1 k2 k10 k20
  have hbd := fun w => buildRd0 w
  have h' : (t = none) ∨ (t.isSome = true ∧ decide ((n : Int) = 256) = false ∧ ¬ (n : Int) = 256) := by
    rcases h with h | h
    · exact .inl h
    · cases t with
      | none => exact .inl rfl
      | some x => exact .inr ⟨rfl, by simpa using h, h⟩
  clear h
  have hfin : ∀ q, Upd [] w (((w.alloc (.cells #[.slice none 0 0] 94)).drewN q).setCell ⟨w.heap.size, 0, none⟩ (.slice none 0 0)) := fun q =>
    ((Upd.refl [] w).alloc _ |>.trans (show Upd [] _ ((w.alloc (.cells #[.slice none 0 0] 94)).drewN q) from ⟨rfl, rfl, rfl, Nat.le_refl _, fun _ _ _ => rfl⟩)).setCell (.inr (Nat.le_refl _)) _
  have HF := Lib.hid hfin
  have hblk : ∀ q, (((w.alloc (.cells #[.slice none 0 0] 94)).drewN q).setCell ⟨w.heap.size, 0, none⟩ (.slice none 0 0)).heap[w.heap.size]? = some (.cells #[.slice none 0 0] 94 (0, 0)) := fun q => by
    simpa using heap_setCell_same ((w.alloc (.cells #[.slice none 0 0] 94)).drewN q) w.heap.size 0 _ _ (.slice none 0 0) (show ((w.alloc (.cells #[.slice none 0 0] 94)).drewN q).heap[w.heap.size]? = _ from HN.out)
  have HB := Lib.hid hblk
  clear hfin hblk
  rcases h' with rfl | ⟨ht, hd, hne⟩
  · go_enter Tryd.func38, Tryd.ntmps38
    go_wp2_with fail
    go_quiet (fail)
    have k10 : ((w.alloc (.cells #[.slice none 0 0] 94)).drewN nq).cell? ⟨w.heap.size, 0, none⟩ = some (.slice none 0 0) := K1.out
    have k20 : ((w.alloc (.cells #[.slice none 0 0] 94)).drewN nq).frozen? ⟨w.heap.size, 0, none⟩ = false := K2.out
    go_wp2
    refine bodyPost_ret (results_block_tmp Tryd.results38 _ _ w.heap.size 1 _ _ _ _ rfl (HB.out nq) Tryd.underlying94 rfl (by kernel_rfl) rfl) rfl ⟨rfl, HF.out nq⟩
  · obtain ⟨⟨tb, to, tm⟩, rfl⟩ := Option.isSome_iff_exists.1 ht
    go_enter Tryd.func38, Tryd.ntmps38
    go_wp2_with fail
    go_quiet (fail)
    have k10 : ((w.alloc (.cells #[.slice none 0 0] 94)).drewN nq).cell? ⟨w.heap.size, 0, none⟩ = some (.slice none 0 0) := K1.out
    have k20 : ((w.alloc (.cells #[.slice none 0 0] 94)).drewN nq).frozen? ⟨w.heap.size, 0, none⟩ = false := K2.out
    go_wp2
    refine bodyPost_ret (results_block_tmp Tryd.results38 _ _ w.heap.size 1 _ _ _ _ rfl (HB.out nq) Tryd.underlying94 rfl (by kernel_rfl) rfl) rfl ⟨rfl, HF.out nq⟩

/-- A sector with its sum, that begins with a word? -/
def soundL (l : List Nat) (word : List Nat) : Bool := decide (l.length = 256 ∧ l.drop 252 = le4 (crc (l.take 252)) ∧ l.take 4 = word)
end Go.Proofs.YtpnpjffhkaejgaaDoor
namespace Go.Proofs.YtpnpjffhkaejgaaDoor
open Go.RowKit

theorem drop4 {l : List Nat} (h : l.length = 256) : l.drop 252 = [l.getD 252 0, l.getD 253 0, l.getD 254 0, l.getD 255 0] := by
  apply List.ext_getElem?
  intro i
  rw [List.getElem?_drop]
  by_cases hi : i < 4
  · have e : l[252 + i]? = some (l.getD (252 + i) 0) := by rw [List.getD_eq_getElem?_getD, List.getElem?_eq_getElem (by omega)]; rfl
    rw [e]
    rcases i with _ | _ | _ | _ | i <;> first | rfl | omega
  · rw [List.getElem?_eq_none (by omega), List.getElem?_eq_none (by simp; omega)]
theorem sum_eq {l : List Nat} (h : l.length = 256) (n : Nat) : (((l.getD 252 0 : Nat) : Int) == ((n % 256 : Nat) : Int) && ((l.getD 253 0 : Nat) : Int) == ((n / 256 % 256 : Nat) : Int) && ((l.getD 254 0 : Nat) : Int) == ((n / 65536 % 256 : Nat) : Int) && ((l.getD 255 0 : Nat) : Int) == ((n / 16777216 % 256 : Nat) : Int)) = decide (l.drop 252 = le4 n) := by
  rw [drop4 h]
  have hi : ∀ a b : Nat, ((a : Int) == (b : Int)) = decide (a = b) := fun a b => by
    by_cases e : a = b
    · subst e; simp
    · simp [e]; omega
  simp only [hi, le4, List.cons.injEq, and_true, Bool.decide_and, Bool.and_assoc]
theorem bytes_take {l : List Nat} (h : BytesOk l) (s : ByteArray) (k : Nat) : (strOfNums ((l.take k).map fun n : Nat => (n : Int)) = s) ↔ l.take k = strBytes s := by
  have hd : strBytes (strOfNums ((l.take k).map fun n : Nat => (n : Int))) = l.take k := by
    unfold strBytes
    rw [strOfNums_data, List.map_map, List.map_map]
    apply List.ext_getElem?
    intro i
    simp only [List.getElem?_map]
    cases e : (l.take k)[i]? with
    | none => rfl
    | some x =>
      have : x < 256 := h x (List.mem_of_mem_take (List.mem_of_getElem? e))
      simp [Function.comp, Nat.mod_eq_of_lt this]
  constructor
  · rintro rfl; exact hd.symm
  · intro e
    rw [e] at hd
    apply Go.WideShapes.bytes_inj
    have hi : ∀ (a b : List UInt8), a.map UInt8.toNat = b.map UInt8.toNat → a = b := fun a b h => (List.map_inj_right (fun x y => UInt8.toNat_inj.1)).1 h
    rw [e]
    exact hi _ _ hd
theorem IsBytes.sub {w : World} {b o : Nat} {l : List Nat} (h : IsBytes w (some ⟨b, o, none⟩) l) (n : Nat) : IsBytes w (some ⟨b, o, none⟩) (l.take n) :=
  ⟨BytesOk.take h.1 n, fun i hi => by
    rw [List.length_take] at hi
    obtain ⟨b', o', e, hc⟩ := h.2 i (by omega)
    cases e
    exact ⟨b, o, rfl, by rw [List.getElem_take]; exact hc⟩⟩
theorem IsBytes.at {w : World} {b o : Nat} {l : List Nat} (h : IsBytes w (some ⟨b, o, none⟩) l) (i : Nat) (hi : i < l.length) : w.cell? ⟨b, o + i, none⟩ = some (.int .u8 (l.getD i 0 : Nat)) := by
  obtain ⟨b', o', e, hc⟩ := h.2 i hi
  cases e
  rw [← getD_of hi]; exact hc
theorem IsBytes.text {w : World} {b o : Nat} {l : List Nat} (h : IsBytes w (some ⟨b, o, none⟩) l) (k cap : Nat) (hk : k ≤ l.length) : (convert 39 9 (.slice (some ⟨b, o, none⟩) k cap)).run Tryd.prog w = .ok (.string (strOfNums ((l.take k).map fun n : Nat => (n : Int)))) w :=
  run_convert_bytes_arg (P := Tryd.prog) w 39 5 Tryd.underlying39 Tryd.underlying5 b o k cap _ (by simp; omega) (fun i hi => by
    rw [h.at i (by omega)]
    simp [List.getD_eq_getElem?_getD, hi]
    cases e : l[i]? with
    | none => rw [List.getElem?_eq_none_iff] at e; omega
    | some x => simp) 9 Tryd.underlying9
/-- The eyes of a sector. -/
theorem IsBytes.eyes {w : World} {b o cap : Nat} {l : List Nat} (h : IsBytes w (some ⟨b, o, none⟩) l) (hl : l.length = 256) : Eyes b o cap ((l.getD 252 0 : Nat) : Int) ((l.getD 253 0 : Nat) : Int) ((l.getD 254 0 : Nat) : Int) ((l.getD 255 0 : Nat) : Int) (strOfNums ((l.take 4).map fun n : Nat => (n : Int))) w :=
  ⟨h.at 252 (by omega), h.at 253 (by omega), h.at 254 (by omega), h.at 255 (by omega), h.text 4 cap (by omega)⟩
theorem soundSum {w : World} {t b o cap : Nat} {l : List Nat} (ht : TabOk w t) (hb : IsBytes w (some ⟨b, o, none⟩) l) (hne : b ≠ t) (hl : l.length = 256) :
    ∀ w', Upd [] w w' → Calls Tryd.prog 44 #[pt t, .slice (some ⟨b, o, none⟩) 252 cap] w' fun e w'' => e = .returned (.agg #[.int .u8 ((crc (l.take 252) % 256 : Nat) : Int), .int .u8 ((crc (l.take 252) / 256 % 256 : Nat) : Int), .int .u8 ((crc (l.take 252) / 65536 % 256 : Nat) : Int), .int .u8 ((crc (l.take 252) / 16777216 % 256 : Nat) : Int)]) ∧ IsTab w'' t 1 0 tword ∧ Upd [t] w' w'' := by
  intro w' u
  have hlt : (l.take 252).length = 252 := by rw [List.length_take]; omega
  have h := sum_any (cap := cap) (ht.upd u (by simp)) ((hb.sub 252).upd u (by simp)) (by rintro b' o' ⟨⟩; exact hne) (by omega)
  rw [hlt] at h
  refine h.mono ?_
  rintro e w'' ⟨rfl, r⟩
  exact ⟨by simp [u8s, le4], r⟩
theorem sound_true {w : World} {t : Nat} {a : Option Addr} {l : List Nat} {cap : Nat} {s : ByteArray} (ht : TabOk w t) (hb : IsBytes w a l) (hsep : ∀ b o, a = some ⟨b, o, none⟩ → b ≠ t) (hc : l.length ≤ cap) (hm : cap ≤ 9223372036854775807) (hs : soundL l (strBytes s) = true) :
    ∃ b o, a = some ⟨b, o, none⟩ ∧ Calls Tryd.prog 38 #[pt t, .slice a l.length cap, .string s] w fun e w' => e = .returned (.tuple #[.agg #[.slice (some ⟨b, o + 4, none⟩) 248 (cap - 4)], .bool true]) ∧ IsTab w' t 1 0 tword ∧ Upd [t] w w' := by
  unfold soundL at hs
  simp only [decide_eq_true_eq] at hs
  obtain ⟨hl, hsum, hw⟩ := hs
  obtain ⟨b, o, rfl, _⟩ := hb.2 0 (by omega)
  have hne := hsep b o rfl
  refine ⟨b, o, rfl, ?_⟩
  rw [hl]
  exact sound_yes (fun w' u => (hb.upd u (by rintro b' o' ⟨⟩; simpa using hne)).eyes hl) (by omega) hm ht.lt (soundSum ht hb hne hl) (by rw [sum_eq hl]; exact decide_eq_true hsum) ((bytes_take hb.1 s 4).2 hw)
theorem sound_false {w : World} {t : Nat} {a : Option Addr} {l : List Nat} {cap : Nat} {s : ByteArray} (ht : TabOk w t) (hb : IsBytes w a l) (hsep : ∀ b o, a = some ⟨b, o, none⟩ → b ≠ t) (hc : l.length ≤ cap) (hm : cap ≤ 9223372036854775807) (hs : soundL l (strBytes s) = false) :
    Calls Tryd.prog 38 #[pt t, .slice a l.length cap, .string s] w fun e w' => e = .returned (.tuple #[.agg #[.slice none 0 0], .bool false]) ∧ TabOk w' t ∧ Upd [t] w w' := by
  by_cases hl : l.length = 256
  · obtain ⟨b, o, rfl, _⟩ := hb.2 0 (by omega)
    have hne := hsep b o rfl
    unfold soundL at hs
    simp only [decide_eq_false_iff_not] at hs
    have hE : ∀ w', Upd [t] w w' → Eyes b o cap ((l.getD 252 0 : Nat) : Int) ((l.getD 253 0 : Nat) : Int) ((l.getD 254 0 : Nat) : Int) ((l.getD 255 0 : Nat) : Int) (strOfNums ((l.take 4).map fun n : Nat => (n : Int))) w' := fun w' u => (hb.upd u (by rintro b' o' ⟨⟩; simpa using hne)).eyes hl
    rw [hl]
    by_cases hsum : l.drop 252 = le4 (crc (l.take 252))
    · refine (sound_no_word hE (by omega) hm ht.lt (soundSum ht hb hne hl) (by rw [sum_eq hl]; exact decide_eq_true hsum) (fun e => hs ⟨hl, hsum, (bytes_take hb.1 s 4).1 e⟩)).mono ?_
      rintro e w' ⟨rfl, h1, h2⟩
      exact ⟨rfl, .inr h1, h2⟩
    · refine (sound_no_sum hE (by omega) hm ht.lt (soundSum ht hb hne hl) (by rw [sum_eq hl]; exact decide_eq_false hsum)).mono ?_
      rintro e w' ⟨rfl, h1, h2⟩
      exact ⟨rfl, .inr h1, h2⟩
  · refine (sound_len (t := some ⟨t, 0, none⟩) (.inr (by omega)) (by omega)).mono ?_
    rintro e w' ⟨rfl, u⟩
    exact ⟨rfl, ht.upd u (by simp), u.mono (by simp)⟩
end Go.Proofs.YtpnpjffhkaejgaaDoor
