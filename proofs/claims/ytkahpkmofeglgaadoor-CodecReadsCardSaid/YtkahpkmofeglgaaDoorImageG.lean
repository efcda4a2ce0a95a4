/-
  PROVED HERE: a copy of bytes (bytes.Clone); GetImage of package codec. Conditions: the bytes can be read; the table may be used, and does not hold them.
-/
import Derived.Test.YtkahpkmofeglgaaDoorImageS
import Derived.Deep.DeepCutAuto
namespace Go.Proofs.YtkahpkmofeglgaaDoor
open Go.RowKit

theorem results_2_cell_tmp {fn : Func} {s t p u : Tmp} {ty : TypeId} (h : fn.results = #[.tmp s, .tmp t, .cell p ty, .tmp u]) (tmps : Array Value) (P : Program) (w : World) :
    (results fn tmps).run P w = ((asAddr (tmps.getD p undef)).run P w).andThen fun a w₁ => ((loadVar ty a).run P w₁).andThen fun v w₂ => .ok (.tuple #[tmps.getD s undef, tmps.getD t undef, v, tmps.getD u undef]) w₂ := by
  simp only [results, h]
  simp [Sem.run_bind, Result.andThen]
/-- What a function returns whose results are two slots, a struct in a cell's block and a slot. -/
theorem results_2_block_tmp {P : Program} {fn : Func} {s t p u : Tmp} {ty : TypeId} (h : fn.results = #[.tmp s, .tmp t, .cell p ty, .tmp u]) (tmps : Array Value) (w : World) (g n : Nat) (t0 : TypeId) (cs : Array Value) (fr : Nat × Nat) (d : TypeDesc)
    (hp : tmps.getD p undef = .pointer (some ⟨g, 0, none⟩)) (hg : w.heap[g]? = some (.cells cs t0 fr)) (hu : P.underlying ty = some d) (hd : (match d with | .struct _ | .array _ _ => true | _ => false) = true)
    (hi : (P.info? ty).map (·.size) = some n) (hn : cs.size = n) : (results fn tmps).run P w = .ok (.tuple #[tmps.getD s undef, tmps.getD t undef, .agg cs, tmps.getD u undef]) w := by
  subst hn
  have hl := run_loadVar_row (P := P) w g t0 ty cs fr d hg hu (by cases d <;> simp_all) hi
  rw [results_2_cell_tmp h, hp]
  simp only [asAddr, Sem.run_pure, Result.andThen_ok, hl]
/-- A copy in a slice of its own. -/
def CloneOut (B : Nat) (l : List Nat) (e : Ending) (w' : World) : Prop := ∃ v, e = .returned v ∧ IsOut w' B v l
set_option maxRecDepth 100000 in
set_option maxHeartbeats 1600000 in
theorem clone_any {w : World} {a : Option Addr} {l : List Nat} {cap : Nat} (hb : IsBytes w a l) (h0 : 0 < l.length) (h1 : l.length ≤ 1000000) :
    Calls Tryd.prog 63 #[.slice a l.length cap] w fun e w' => CloneOut w.heap.size l e w' ∧ Upd [] w w' := by
  obtain ⟨b, o, rfl, hc0⟩ := hb.2 0 h0
  clear hc0
  have HB := Lib.hid (hb.upd ((Upd.refl [] w).alloc (.cells #[] 5)) (by simp))
  have HL : Hid (IsOut (w.alloc (.cells #[] 5)) w.heap.size (.slice (some ⟨w.heap.size, 0, none⟩) 0 0) []) := isOut_lit (l := []) (heap_alloc_new w _) BytesOk.nil (Nat.le_refl _) (by decide)
  have hn : ∀ w, (binOp .eql 27 (.slice (some ⟨b, o, none⟩) l.length cap) (.slice none 0 0)).run Tryd.prog w = .ok (.bool false) w := fun w => by
    simp only [binOp]
    simp [Op.equal, Op.maxDepth, Lib.run_equalIn_slice_nil w 9999 _ _ _ _ _ _ _ Tryd.underlying27]
  have H0 := Lib.hid h0
  have H1 := Lib.hid h1
  clear hb h0 h1
  go_enter Tryd.func63, Tryd.ntmps63
  go_wp2_with (at_builtin; refine wpList_pushes (p := l) rfl (.tmp 5) (.tmp 6) rfl rfl rfl HL.out ⟨b, o, none⟩ l.length cap rfl rfl HB.out.news HB.out.1 H0.out (by have := H1.out; simp; omega) (by simp) ?_; intro v6 w6 g6 m6; have G6 := Lib.hid g6; have M6 := Lib.hid m6; clear g6 m6)
  go_ret
  have hu6 := ((Upd.refl [] w).alloc (.cells #[] 5)).step (show Upd [w.heap.size] _ _ from M6.out.upd) (fun x hx => .inr (by simp at hx; omega))
  exact ⟨⟨_, rfl, G6.out⟩, hu6⟩

/-- What reading an image hands back. -/
def imgRes0 : Int × Int × Img := (0, 0, ⟨0, 0, []⟩)
def ImgRes (B : Nat) (o : Option (Int × Int × Img)) (e : Ending) (w' : World) : Prop :=
  ∃ v, e = .returned (.tuple #[.int .i64 (o.getD imgRes0).1, .int .i64 (o.getD imgRes0).2.1, imgV (o.getD imgRes0).2.2 v, .bool o.isSome]) ∧ IsRet w' B v (o.getD imgRes0).2.2.body
theorem ImgRes.no (B : Nat) (w : World) : ImgRes B none (.returned (.tuple #[.int .i64 0, .int .i64 0, .agg #[.int .i64 0, .int .i64 0, .slice none 0 0], .bool false])) w := ⟨.slice none 0 0, rfl, IsRet.nil w B⟩
theorem infoImage : (Tryd.prog.info? 39).map (·.size) = some 3 := by kernel_rfl
theorem buildImg0 (w : World) : (Instr.build 39 #[]).run Tryd.prog w = .ok (.agg #[.int .i64 0, .int .i64 0, .slice none 0 0]) w := run_build w _ _ _ (by kernel_rfl)
theorem buildPg (k : Int) (a : Option Addr) (n c : Nat) (w : World) : (Instr.build 37 #[(0, .int .i64 k), (1, .slice a n c)]).run Tryd.prog w = .ok (.agg #[.int .i64 k, .slice a n c]) w := run_build w _ _ _ (by kernel_rfl)
theorem buildImg (m k : Int) (a : Option Addr) (n c : Nat) (w : World) : (Instr.build 39 #[(0, .int .i64 m), (1, .agg #[.int .i64 k, .slice a n c])]).run Tryd.prog w = .ok (.agg #[.int .i64 m, .int .i64 k, .slice a n c]) w := run_build w _ _ _ (by kernel_rfl)
set_option maxRecDepth 100000 in
set_option maxHeartbeats 1600000 in
theorem getImage_len {w : World} {a t : Option Addr} {n cap : Nat} (h : (t = none ∧ (n : Int) = 256) ∨ ¬ (n : Int) = 256) (_hn : n ≤ 9223372036854775807) :
    Calls Tryd.prog 22 #[.pointer t, .slice a n cap] w fun e w' => ImgRes w.heap.size none e w' ∧ Upd [] w w' := by
  have HX := Lib.hid (heap_alloc_new w (.cells #[.int .i64 0, .int .i64 0, .slice none 0 0] 39))
  have hbd := buildImg0
  have hx2 : ∀ q, (((w.alloc (.cells #[.int .i64 0, .int .i64 0, .slice none 0 0] 39)).drewN q)).heap[w.heap.size]? = some (.cells #[.int .i64 0, .int .i64 0, .slice none 0 0] 39 (0, 0)) := fun q => HX.out
  have HX2 := Lib.hid hx2
  have HU : Hid (∀ q, Upd [] w ((w.alloc (.cells #[.int .i64 0, .int .i64 0, .slice none 0 0] 39)).drewN q)) := fun q => ((Upd.refl [] w).alloc _).trans ⟨rfl, rfl, rfl, Nat.le_refl _, fun _ _ _ => rfl⟩
  clear hx2
  rcases h with ⟨rfl, h⟩ | h
  · have hd : ((n : Int) != 256) = false := by simpa using h
    go_enter Tryd.func22, Tryd.ntmps22
    go_wp2_with fail
    go_quiet (fail)
    go_wp2_with (refine wpList_store_all rfl 39 (.tmp 6) (.tmp 31) rfl w.heap.size _ rfl rfl _ _ (HX2.out _) infoImage rfl (by kernel_rfl) ?_; intro w3 hg3 hu3 _; have G3 := Lib.hid hg3; have U3 := Lib.hid hu3; clear hg3 hu3)
    refine bodyPost_ret (results_2_block_tmp Tryd.results22 _ _ w.heap.size 3 _ _ _ _ rfl G3.out Tryd.underlying39 rfl infoImage rfl) rfl ⟨ImgRes.no _ _, (HU.out _).step U3.out (fun x hx => .inr (by simp at hx; omega))⟩
  · have hd : ((n : Int) != 256) = true := by simpa using h
    go_enter Tryd.func22, Tryd.ntmps22
    go_wp2_with fail
    go_quiet (fail)
    go_wp2_with (refine wpList_store_all rfl 39 (.tmp 6) (.tmp 31) rfl w.heap.size _ rfl rfl _ _ (HX2.out _) infoImage rfl (by kernel_rfl) ?_; intro w3 hg3 hu3 _; have G3 := Lib.hid hg3; have U3 := Lib.hid hu3; clear hg3 hu3)
    refine bodyPost_ret (results_2_block_tmp Tryd.results22 _ _ w.heap.size 3 _ _ _ _ rfl G3.out Tryd.underlying39 rfl infoImage rfl) rfl ⟨ImgRes.no _ _, (HU.out _).step U3.out (fun x hx => .inr (by simp at hx; omega))⟩

theorem get_k {w : World} {r : Nat} {q : Option Nat} {l : List Nat} (k : Nat) (ki : Int) (hki : ki = (k : Int)) (h : IsRd w r q l) (hk : k ≤ 8) (h1 : k ≤ l.length) :
    Calls Tryd.prog 60 #[pt r, .int .i64 ki] w fun e w' => e = .returned (.int .i64 (numi (l.take k))) ∧ IsRd w' r q (l.drop k) ∧ Upd [r] w w' := by
  subst hki; exact get_any h hk h1
/-- The four cells of a sector's sum. -/
def Eyes4 (b o : Nat) (x0 x1 x2 x3 : Int) (w : World) : Prop :=
  w.cell? ⟨b, o + 252, none⟩ = some (.int .u8 x0) ∧ w.cell? ⟨b, o + 252 + 1, none⟩ = some (.int .u8 x1) ∧ w.cell? ⟨b, o + 252 + 2, none⟩ = some (.int .u8 x2) ∧ w.cell? ⟨b, o + 252 + 3, none⟩ = some (.int .u8 x3)
theorem IsBytes.eyes4 {w : World} {b o : Nat} {l : List Nat} (h : IsBytes w (some ⟨b, o, none⟩) l) (hl : l.length = 256) : Eyes4 b o ((l.getD 252 0 : Nat) : Int) ((l.getD 253 0 : Nat) : Int) ((l.getD 254 0 : Nat) : Int) ((l.getD 255 0 : Nat) : Int) w :=
  ⟨h.at 252 (by omega), h.at 253 (by omega), h.at 254 (by omega), h.at 255 (by omega)⟩
theorem imgDec {l : List Nat} (hs : sumL l = true) : (getImage l = none ∧ (decide ((imgOf l).kind < 1) = true ∨ (decide ((imgOf l).kind < 1) = false ∧ decide (5 < (imgOf l).kind) = true) ∨ (decide ((imgOf l).kind < 1) = false ∧ decide (5 < (imgOf l).kind) = false ∧ inB (imgOf l).num 1023 = false))) ∨
    (getImage l = some (numi (seg l 3 4), numi (seg l 7 5), imgOf l) ∧ decide ((imgOf l).kind < 1) = false ∧ decide (5 < (imgOf l).kind) = false ∧ inB (imgOf l).num 1023 = true) := by
  unfold getImage
  rw [hs]
  by_cases h2 : (imgOf l).kind < 1
  · exact .inl ⟨by rw [decide_eq_false (by omega)]; rfl, .inl (decide_eq_true h2)⟩
  by_cases h3 : 5 < (imgOf l).kind
  · exact .inl ⟨by rw [decide_eq_false (by omega)]; rfl, .inr (.inl ⟨decide_eq_false h2, decide_eq_true h3⟩)⟩
  rw [decide_eq_true (show 1 ≤ (imgOf l).kind ∧ (imgOf l).kind ≤ 5 by omega)]
  cases h1 : inB (imgOf l).num 1023
  · exact .inl ⟨rfl, .inr (.inr ⟨decide_eq_false h2, decide_eq_false h3, rfl⟩)⟩
  · exact .inr ⟨rfl, decide_eq_false h2, decide_eq_false h3, rfl⟩
set_option maxRecDepth 100000 in
set_option maxHeartbeats 3200000 in
theorem getImage_nosum {w : World} {t b o cap : Nat} {x0 x1 x2 x3 c0 c1 c2 c3 : Int} (hE : ∀ w', Upd [t] w w' → Eyes4 b o x0 x1 x2 x3 w') (hc : 256 ≤ cap) (hl : cap ≤ 9223372036854775807) (ht : t < w.heap.size)
    (hsum : ∀ w', Upd [] w w' → Calls Tryd.prog 62 #[pt t, .slice (some ⟨b, o, none⟩) 252 cap] w' fun e w'' => e = .returned (.agg #[.int .u8 c0, .int .u8 c1, .int .u8 c2, .int .u8 c3]) ∧ IsTab w'' t 1 0 tword ∧ Upd [t] w' w'')
    (hx : (x0 == c0 && x1 == c1 && x2 == c2 && x3 == c3) = false) :
    Calls Tryd.prog 22 #[pt t, .slice (some ⟨b, o, none⟩) 256 cap] w fun e w' => ImgRes w.heap.size none e w' ∧ IsTab w' t 1 0 tword ∧ Upd [t] w w' := by
  have hU : Upd [] w (w.alloc (.cells #[.int .i64 0, .int .i64 0, .slice none 0 0] 39)).drew := ((Upd.refl _ _).alloc _).drew
  have HE0 := Lib.hid (hE _ (hU.mono (by simp)))
  have HE := Lib.hid hE
  have HU := Lib.hid hU
  have HS := Lib.hid (hsum _ hU)
  have HN := Lib.hid (heap_alloc_new w (.cells #[.int .i64 0, .int .i64 0, .slice none 0 0] 39))
  have HT := Lib.hid ht
  clear hE hsum hU ht
  go_enter Tryd.func22, Tryd.ntmps22
  have hc4 : ¬ cap = 252 := by omega
  have hc6 : (252 : Int) ≤ cap := by omega
  have hA := fun w c => arr4 w b (o + 252) c
  have hQ := fun w => eq4 x0 x1 x2 x3 c0 c1 c2 c3 w
  rw [hx] at hQ
  clear hx
  go_wp2_with fail
  have hE0 := HE0.out
  unfold Eyes4 at hE0
  first | (go_region_held (fun w' => w'.cell? ⟨b, o + 252, none⟩ = some (.int .u8 x0) ∧ w'.cell? ⟨b, o + 252 + 1, none⟩ = some (.int .u8 x1) ∧ w'.cell? ⟨b, o + 252 + 2, none⟩ = some (.int .u8 x2) ∧ w'.cell? ⟨b, o + 252 + 3, none⟩ = some (.int .u8 x3)) (first | exact hE0 | exact hE1) (first
    | (go_at_call 62; (with_reducible refine HS.out.mono ?_); rintro e w1 ⟨rfl, ht1, u1⟩; have hE1 := HE.out _ ((HU.out.mono (by simp)).trans u1)))) | fail
  all_goals (
    have HN1 := Lib.hid (u1.get (show (w.alloc (.cells #[.int .i64 0, .int .i64 0, .slice none 0 0] 39)).drew.heap[w.heap.size]? = _ from HN.out) (by have := HT.out; simp; omega))
    have HT1 := Lib.hid ht1
    have HU1 := Lib.hid ((HU.out.mono (by simp)).trans u1)
    clear ht1 u1 hE1 hE0 hA hQ
    have hbd := buildImg0
    go_wp2_with (refine wpList_store_all rfl 39 (.tmp 6) (.tmp 31) rfl w.heap.size _ rfl rfl _ _ HN1.out infoImage rfl (by kernel_rfl) ?_; intro w3 hg3 hu3 _; have G3 := Lib.hid hg3; have U3 := Lib.hid hu3; clear hg3 hu3)
    refine bodyPost_ret (results_2_block_tmp Tryd.results22 _ _ w.heap.size 3 _ _ _ _ rfl G3.out Tryd.underlying39 rfl infoImage rfl) rfl ⟨ImgRes.no _ _, HT1.out.upd U3.out (by have := HT.out; simp; omega), HU1.out.step U3.out (fun x hx => .inr (by simp at hx; omega))⟩)
set_option maxRecDepth 100000 in
set_option maxHeartbeats 6400000 in
theorem getImage_sum {w : World} {t b o cap : Nat} {l : List Nat} (ht : TabOk w t) (hb : IsBytes w (some ⟨b, o, none⟩) l) (hne : b ≠ t) (hl : l.length = 256) (hc : 256 ≤ cap) (hm : cap ≤ 9223372036854775807) (hs : sumL l = true) :
    Calls Tryd.prog 22 #[pt t, .slice (some ⟨b, o, none⟩) 256 cap] w fun e w' => ImgRes w.heap.size (getImage l) e w' ∧ TabOk w' t ∧ Upd [t] w w' := by
  have hdec := imgDec hs
  have hE : ∀ w', Upd [t] w w' → Eyes4 b o ((l.getD 252 0 : Nat) : Int) ((l.getD 253 0 : Nat) : Int) ((l.getD 254 0 : Nat) : Int) ((l.getD 255 0 : Nat) : Int) w' := fun w' u => (hb.upd u (by rintro b' o' ⟨⟩; simpa using hne)).eyes4 hl
  have hsum := soundSum (cap := cap) ht hb hne hl
  have hx : (((l.getD 252 0 : Nat) : Int) == ((crc (l.take 252) % 256 : Nat) : Int) && ((l.getD 253 0 : Nat) : Int) == ((crc (l.take 252) / 256 % 256 : Nat) : Int) && ((l.getD 254 0 : Nat) : Int) == ((crc (l.take 252) / 65536 % 256 : Nat) : Int) && ((l.getD 255 0 : Nat) : Int) == ((crc (l.take 252) / 16777216 % 256 : Nat) : Int)) = true := by
    rw [sum_eq hl]
    unfold sumL at hs
    simp only [decide_eq_true_eq] at hs
    exact decide_eq_true hs.2
  have hU : Upd [] w (w.alloc (.cells #[.int .i64 0, .int .i64 0, .slice none 0 0] 39)).drew := ((Upd.refl _ _).alloc _).drew
  have hbl : b < w.heap.size := World.block_lt_of_cell? _ _ (hb.at 0 (by omega))
  have HE0 := Lib.hid (hE _ (hU.mono (by simp)))
  have HE := Lib.hid hE
  have HU := Lib.hid hU
  have HS := Lib.hid (hsum _ hU)
  have HN := Lib.hid (heap_alloc_new w (.cells #[.int .i64 0, .int .i64 0, .slice none 0 0] 39))
  have HT := Lib.hid ht.lt
  have HB := Lib.hid hb
  have HNE := Lib.hid hne
  have HL := Lib.hid hl
  have HD := Lib.hid hdec
  have HBL := Lib.hid hbl
  generalize hc0 : ((crc (l.take 252) % 256 : Nat) : Int) = c0 at HS hx
  generalize hc1 : ((crc (l.take 252) / 256 % 256 : Nat) : Int) = c1 at HS hx
  generalize hc2 : ((crc (l.take 252) / 65536 % 256 : Nat) : Int) = c2 at HS hx
  generalize hc3 : ((crc (l.take 252) / 16777216 % 256 : Nat) : Int) = c3 at HS hx
  generalize hx0 : ((l.getD 252 0 : Nat) : Int) = x0 at HE0 HE hx
  generalize hx1 : ((l.getD 253 0 : Nat) : Int) = x1 at HE0 HE hx
  generalize hx2 : ((l.getD 254 0 : Nat) : Int) = x2 at HE0 HE hx
  generalize hx3 : ((l.getD 255 0 : Nat) : Int) = x3 at HE0 HE hx
  clear hE hsum hU ht hc0 hc1 hc2 hc3 hx0 hx1 hx2 hx3 hb hne hl hs hdec hbl
  go_enter Tryd.func22, Tryd.ntmps22
  have hc4 : ¬ cap = 252 := by omega
  have hc6 : (252 : Int) ≤ cap := by omega
  have hA := fun w c => arr4 w b (o + 252) c
  have hQ := fun w => eq4 x0 x1 x2 x3 c0 c1 c2 c3 w
  rw [hx] at hQ
  clear hx
  go_upto_region 1 with fail
  have hE0 := HE0.out
  unfold Eyes4 at hE0
  go_cut [30] (fun v wx => v = .bool false ∧ IsTab wx t 1 0 tword ∧ Upd [t] w wx ∧ wx.heap[w.heap.size]? = some (.cells #[.int .i64 0, .int .i64 0, .slice none 0 0] 39 (0, 0)))
  case first =>
    first | (go_region_held3 (fun w' => w'.cell? ⟨b, o + 252, none⟩ = some (.int .u8 x0) ∧ w'.cell? ⟨b, o + 252 + 1, none⟩ = some (.int .u8 x1) ∧ w'.cell? ⟨b, o + 252 + 2, none⟩ = some (.int .u8 x2) ∧ w'.cell? ⟨b, o + 252 + 3, none⟩ = some (.int .u8 x3)) (first | exact hE0 | exact hE1) (first
      | (go_at_call 62; (with_reducible refine HS.out.mono ?_); rintro e w1 ⟨rfl, ht1, u1⟩; have hE1 := HE.out _ ((HU.out.mono (by simp)).trans u1)))) | fail
    all_goals
      have HTT := Lib.hid ht1
      have HUU := Lib.hid u1
      clear ht1 u1 hE1 hE0 hA hQ
      go_wp2_with fail
      go_meet
      exact ⟨rfl, HTT.out, (HU.out.mono (by simp)).trans HUU.out, HUU.out.get (show (w.alloc (.cells #[.int .i64 0, .int .i64 0, .slice none 0 0] 39)).drew.heap[w.heap.size]? = _ from HN.out) (by have := HT.out; simp; omega)⟩
  case rest =>
  obtain ⟨rfl, ht1, hu1, hn1⟩ := hcut
  obtain ⟨w1, rfl⟩ : ∃ w1 : World, w1 = wc := ⟨_, rfl⟩
  have hlw := lt_of_block hn1
  have HN1 := Lib.hid hn1
  have HT1 := Lib.hid ht1
  have HU1 := Lib.hid hu1
  have hb1 := (HB.out.upd hu1 (by rintro b' o' ⟨⟩; simpa using HNE.out)).sub 252
  have hlen : (l.take 252).length = 252 := by rw [List.length_take, HL.out]; rfl
  have hR : IsRd (w1.alloc (.cells #[.slice (some ⟨b, o, none⟩) 252 cap] 117)) w1.heap.size (some b) (l.take 252) :=
    ⟨⟨some ⟨b, o, none⟩, cap, by rw [hlen]; exact heap_alloc_new w1 _, hb1.upd ((Upd.refl [] w1).alloc _) (by simp), by rw [hlen]; omega, by unfold maxLen; omega, by rintro b' o' ⟨⟩; rfl⟩, by intro e; simp only [Option.some.injEq] at e; have := HBL.out; omega⟩
  have HR := Lib.hid hR
  have HLEN := Lib.hid hlen
  have HRA := Lib.hid ((Upd.refl [] w1).alloc (.cells #[.slice (some ⟨b, o, none⟩) 252 cap] 117))
  clear ht1 hE0 hA hQ hn1 hu1 hb1 hR hlen
  have hbd := fun a n c w => buildRd a n c w
  go_wp2_with fail
  refine (get_k 1 1 rfl HR.out (by decide) (by rw [HLEN.out]; decide)).mono ?_
  rintro e w2 ⟨rfl, r2, u2⟩
  rw [show (l.take 252).take 1 = seg l 0 1 from (seg_take 0 1 252 (by decide) (by rw [HL.out]; decide)).symm]
  have R2 := Lib.hid r2
  have U2 := Lib.hid (HRA.out.step u2 (fun x hx => .inr (by simp at hx; omega)))
  clear r2 u2
  go_wp2_with fail
  refine (get_k 2 2 rfl R2.out (by decide) (by rw [List.length_drop, HLEN.out]; decide)).mono ?_
  rintro e w3 ⟨rfl, r3, u3⟩
  rw [show ((l.take 252).drop 1).take 2 = seg l 1 2 from (seg_take 1 2 252 (by decide) (by rw [HL.out]; decide)).symm]
  rw [List.drop_drop] at r3
  have R3 := Lib.hid r3
  have U3 := Lib.hid (U2.out.step u3 (fun x hx => .inr (by simp at hx; omega)))
  clear r3 u3 R2 U2
  go_wp2_with fail
  refine (get_k 4 4 rfl R3.out (by decide) (by rw [List.length_drop, HLEN.out]; decide)).mono ?_
  rintro e w4 ⟨rfl, r4, u4⟩
  rw [show ((l.take 252).drop (1 + 2)).take 4 = seg l 3 4 from (seg_take 3 4 252 (by decide) (by rw [HL.out]; decide)).symm]
  rw [List.drop_drop] at r4
  have R4 := Lib.hid r4
  have U4 := Lib.hid (U3.out.step u4 (fun x hx => .inr (by simp at hx; omega)))
  clear r4 u4 R3 U3
  go_wp2_with fail
  refine (get_k 5 5 rfl R4.out (by decide) (by rw [List.length_drop, HLEN.out]; decide)).mono ?_
  rintro e w5 ⟨rfl, r5, u5⟩
  rw [show ((l.take 252).drop (1 + 2 + 4)).take 5 = seg l 7 5 from (seg_take 7 5 252 (by decide) (by rw [HL.out]; decide)).symm]
  rw [List.drop_drop] at r5
  have hu5 := U4.out.step u5 (fun x hx => .inr (by simp at hx; omega))
  have R5 := Lib.hid r5
  have U5 := Lib.hid hu5
  have HN5 := Lib.hid (hu5.get HN1.out (by simp))
  have HT5 := Lib.hid (HT1.out.upd hu5 (by simp))
  clear r5 u5 R4 U4 hu5 HN1 HT1
  rcases HD.out with ⟨hg, hd⟩ | ⟨hg, d1, d2, d3⟩
  · have HG := Lib.hid hg
    clear hg
    have hbd0 := buildImg0
    unfold imgOf at hd
    simp only at hd
    rcases hd with d1 | ⟨d1, d2⟩ | ⟨d1, d2, d3⟩
    all_goals
      go_wp2_with (first
        | (go_at_call 52; refine (in_b _ _ _).mono ?_; rintro e w' ⟨rfl, rfl⟩)
        | (refine wpList_store_all rfl 39 (.tmp 6) (.tmp 50) rfl w.heap.size _ rfl rfl _ _ HN5.out infoImage rfl (by kernel_rfl) ?_; intro w6 hg6 hu6 _; have G6 := Lib.hid hg6; have U6 := Lib.hid hu6; clear hg6 hu6))
      refine bodyPost_ret (results_2_block_tmp Tryd.results22 _ _ w.heap.size 3 _ _ _ _ rfl G6.out Tryd.underlying39 rfl infoImage rfl) rfl ⟨by rw [HG.out]; exact ImgRes.no _ _, .inr (HT5.out.upd U6.out (by have := HT.out; simp; omega)), (HU1.out.trans (U5.out.mono (by simp))).step U6.out (fun x hx => .inr (by simp at hx; omega))⟩
  · have HG := Lib.hid hg
    clear hg
    unfold imgOf at d1 d2 d3
    simp only at d1 d2 d3
    obtain ⟨⟨ar, cr, hrb, hry, hrc, hrm, hrq⟩, hrn⟩ := R5.out
    have hlen5 : ((l.take 252).drop (1 + 2 + 4 + 5)).length = 240 := by rw [List.length_drop, HLEN.out]
    have hrcell := (cells_of hrb).1 0
    rw [hlen5] at hrcell
    simp only [List.getElem?_toArray, List.getElem?_cons_zero] at hrcell
    have hcl := clone_any (cap := cr) hry (by rw [hlen5]; decide) (by rw [hlen5]; decide)
    rw [hlen5] at hcl
    have HCL := Lib.hid hcl
    clear hrb hry hrc hrm hrq hrn hcl
    go_wp2_with (first
      | (go_at_call 52; refine (in_b _ _ _).mono ?_; rintro e w' ⟨rfl, rfl⟩))
    refine HCL.out.mono ?_
    rintro e w6 ⟨⟨v6, rfl, g6⟩, u6⟩
    obtain ⟨a6, c6, rfl, hby6, hbk6, hm6⟩ := g6.slice
    rw [hlen5] at g6 hbk6 ⊢
    have hsg : (l.take 252).drop (1 + 2 + 4 + 5) = seg l 12 240 := by
      rw [seg_take 12 240 252 (by decide) (by rw [HL.out]; decide)]
      exact (List.take_of_length_le (by rw [hlen5]; exact Nat.le_refl _)).symm
    rw [hsg] at g6
    have G6 := Lib.hid g6
    have HW5 := Lib.hid (show w.heap.size < w5.heap.size from lt_of_block HN5.out)
    have U6 := Lib.hid (U5.out.trans u6)
    have HN6 := Lib.hid (u6.get HN5.out (by simp))
    have HT6 := Lib.hid (HT5.out.upd u6 (by simp))
    clear g6 hby6 hbk6 u6 hsg hm6
    have hb1 := fun k a n c w => buildPg k a n c w
    have hb2 := fun m k a n c w => buildImg m k a n c w
    go_wp2_with (refine wpList_store_all rfl 39 (.tmp 6) (.tmp 59) rfl w.heap.size _ rfl rfl _ _ HN6.out infoImage (by simp only [List.size_toArray, List.length_cons, List.length_nil]) rfl ?_; intro w7 hg7 hu7 _; have G7 := Lib.hid hg7; have U7 := Lib.hid hu7; clear hg7 hu7)
    refine bodyPost_ret (results_2_block_tmp Tryd.results22 _ _ w.heap.size 3 _ _ _ _ rfl G7.out Tryd.underlying39 rfl infoImage rfl) rfl ⟨?_, .inr (HT6.out.upd U7.out (by have := HT.out; simp; omega)), (HU1.out.trans (U6.out.mono (by simp))).step U7.out (fun x hx => .inr (by simp at hx; omega))⟩
    rw [HG.out]
    exact ⟨_, rfl, (G6.out.ret.upd U7.out (fun b hb => by have := HW5.out; simp at hb; omega)).base (by have := HW5.out; omega)⟩
theorem getImage_any {w : World} {t : Nat} {a : Option Addr} {l : List Nat} {cap : Nat} (ht : TabOk w t) (hb : IsBytes w a l) (hsep : ∀ b o, a = some ⟨b, o, none⟩ → b ≠ t) (hc : l.length ≤ cap) (hm : cap ≤ 9223372036854775807) :
    Calls Tryd.prog 22 #[pt t, .slice a l.length cap] w fun e w' => ImgRes w.heap.size (getImage l) e w' ∧ TabOk w' t ∧ Upd [t] w w' := by
  by_cases hl : l.length = 256
  · obtain ⟨b, o, rfl, hc0⟩ := hb.2 0 (by omega)
    have hne := hsep b o rfl
    rw [hl] at hc ⊢
    cases hs : sumL l
    · have hg : getImage l = none := by unfold getImage; rw [hs]; rfl
      rw [hg]
      refine (getImage_nosum (fun w' u => (hb.upd u (by rintro b' o' ⟨⟩; simpa using hne)).eyes4 hl) hc hm ht.lt (soundSum (cap := cap) ht hb hne hl) ?_).mono fun e w' h => ⟨h.1, .inr h.2.1, h.2.2⟩
      rw [sum_eq hl]
      unfold sumL at hs
      simp only [decide_eq_false_iff_not] at hs
      exact decide_eq_false fun h => hs ⟨hl, h⟩
    · exact getImage_sum ht hb hne hl hc hm hs
  · have hg : getImage l = none := by
      unfold getImage sumL
      rw [decide_eq_false (fun h => hl h.1)]; rfl
    rw [hg]
    exact (getImage_len (t := some ⟨t, 0, none⟩) (.inr (by omega)) (by omega)).mono fun e w' h => ⟨h.1, ht.upd h.2 (by simp), h.2.mono (by simp)⟩
theorem getImage_none {w : World} {a : Option Addr} {n cap : Nat} (hn : n ≤ 9223372036854775807) :
    Calls Tryd.prog 22 #[.pointer none, .slice a n cap] w fun e w' => ImgRes w.heap.size none e w' ∧ Upd [] w w' := by
  by_cases h : (n : Int) = 256
  · exact getImage_len (.inl ⟨rfl, h⟩) hn
  · exact getImage_len (.inr h) hn
end Go.Proofs.YtkahpkmofeglgaaDoor
