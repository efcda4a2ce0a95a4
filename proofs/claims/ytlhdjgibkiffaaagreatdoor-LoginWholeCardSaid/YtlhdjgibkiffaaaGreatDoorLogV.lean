/-
  PROVED HERE: Take of a login is the plain function. Conditions: those that each theorem names.
-/
import Derived.Test.YtlhdjgibkiffaaaGreatDoorLogU
namespace Go.Proofs.YtlhdjgibkiffaaaGreatDoor
open Go.RowKit Go.Shelf
section
variable {P : Program}
theorem exec_load_cells {o : Oper} {a : Act} {w : World} {ty : TypeId} {x : Operand} (ho : o.op = .load ty x) {g off n : Nat} (hx : a.eval x = .pointer (some ⟨g, off, none⟩)) {vs : List Value} {d : TypeDesc} (hc : ∀ j u, vs[j]? = some u → w.cell? ⟨g, off + j, none⟩ = some u)
    (hu : P.underlying ty = some d) (hd : (match d with | .struct _ | .array _ _ => true | _ => false) = true) (hi : (P.info? ty).map (·.size) = some n) (hn : vs.length = n) : (execOp a.eval o).run P w = .ok (.value (.agg vs.toArray)) w := by
  unfold execOp
  simp only [ho, hx, Instr.loadAt, Instr.sureAddr, Sem.run_bind, Sem.run_pure, Result.andThen_ok, run_loadVar_cells w g off n ty vs d hc hu hd hi hn]
end
/-- No cell of block g is a byte. -/
def noU8 (w : World) (g : Nat) : Prop := ∀ o x, w.cell? ⟨g, o, none⟩ ≠ some (.int .u8 x)
theorem IsTxtV.updT {w w' : World} {v : Value} {t : Txt} {T : List Nat} (h : IsTxtV w v t) (u : Upd T w w') (hT : ∀ g ∈ T, noU8 w g) : IsTxtV w' v t := by
  obtain ⟨p, c, h1, h2, h3⟩ := h
  refine ⟨p, c, h1, fun i hi => ?_, h3⟩
  obtain ⟨g, o, k1, k2, k3⟩ := h2 i hi
  exact ⟨g, o, k1, Nat.lt_of_lt_of_le k2 u.size, (World.cell?_of_block (a := ⟨g, _, none⟩) (u.block g k2 fun hm => hT g hm _ _ k3)).trans k3⟩
theorem noU8_of {w : World} {g : Nat} {vs : List Value} {t : TypeId} (h : w.heap[g]? = some (.cells vs.toArray t (0, 0))) (hv : vs.all (fun v => match v with | .int .u8 _ => false | _ => true) = true) : noU8 w g := fun o x hx => by
  rw [(cells_of h).1 o] at hx
  have := List.all_eq_true.1 hv _ (List.mem_of_getElem? (by simpa using hx))
  cases this
theorem or_flags1 : ∀ f : Fin 4, bits .or .i64 128 ((f.val : Nat) : Int) = ((128 + f.val : Nat) : Int) := by decide +kernel
theorem or_flags2 : ∀ s f : Fin 4, bits .or .i64 (((s.val : Nat) : Int) * 4) ((128 + f.val : Nat) : Int) = ((128 + s.val * 4 + f.val : Nat) : Int) := by decide +kernel
/-- What Take leaves. -/
structure TakeRes (W W' : World) (e : Ending) (b mb : Nat) (l : Lg) (a : An) : Prop where
  ret : ∃ v, e = .returned (.agg #[.int .i64 (a.flags : Nat), .int .i64 a.status, v, .bool a.done]) ∧ IsTxtV W' v a.text
  obj : ∃ m, LgAt W' b m l ∧ (m = mb ∨ W.heap.size ≤ m)
  upd : Upd [b, mb] W W'
theorem LgAt.put {W : World} {b m : Nat} {s s' : Lg} (h : LgAt W b m s) (j : Nat) (v : Value) (he : (lgV s m).set j v = lgV s' m) (ha : s'.ans = s.ans) : LgAt (W.setCell ⟨b, j, none⟩ v) b m s' := by
  refine ⟨?_, h.ne, ?_⟩
  · have := heap_setCell_same W b j _ _ v h.obj
    rw [this, ← he]
    simp
  · rw [ha]
    exact h.set.upd ((Upd.refl [b] _).setCell (.inl (by simp)) _) (by simpa using h.ne)
theorem infoAn : (Tryz.prog.info? 35).map (·.size) = some 4 := by kernel_rfl
theorem infoPdu : (Tryz.prog.info? 37).map (·.size) = some 27 := by kernel_rfl
theorem sh_flags : ∀ f : Fin 256, bits .and .i64 (((f.val : Nat) : Int) / 4) 3 = ((f.val / 4 % 4 : Nat) : Int) := by decide +kernel
abbrev w3S (w : World) (b : Nat) (tk st : Nat) (op : Bool) : World := ((w.setCell ⟨b, 7, none⟩ (.int .i64 ((tk : Int) + 1))).setCell ⟨b, 6, none⟩ (.int .i64 (st : Nat))).setCell ⟨b, 10, none⟩ (.bool op)
theorem w3S_size (w : World) (b tk st : Nat) (op : Bool) : (w3S w b tk st op).heap.size = w.heap.size := by simp [World.setCell]
abbrev anV0 : List Value := [.int .i64 0, .int .i64 0, .slice none 0 0, .bool false]
set_option maxRecDepth 100000 in
set_option maxHeartbeats 16000000 in
theorem take_any {W : World} {b mb : Nat} {l : Lg} {A : Array Value} {p : Pd} {dv : Value} (hl : LgAt W b mb l) (hp : PdIs A p dv) (hd : IsTxtV W dv p.data) (hdl : p.data.length ≤ 1048576) (hal : l.ans.length ≤ 500) (hlt : l.taken ≤ 8) (hV : ∀ W', Upd [b, mb] W W' → Vars W') :
    Calls Tryz.prog 10 #[.pointer (some ⟨b, 0, none⟩), .agg A] W fun e W' => TakeRes W W' e b mb (takeP l p).1 (takeP l p).2 := by
  obtain ⟨As, rfl⟩ : ∃ As : List Value, A = As.toArray := ⟨A.toList, by simp⟩
  have hAs : As.length = 27 := by have := hp.size; simpa using this
  have hbl := hl.lt
  have hml := hl.ltm
  have a0 := alloc_last W (Obj.cells As.toArray 37)
  have HU2 := Lib.hid (show Upd [] W ((W.alloc (Obj.cells As.toArray 37)).alloc (.cells anV0.toArray 35)) from ((Upd.refl [] W).alloc _).alloc _)
  have HL := Lib.hid hl
  have HP := Lib.hid hp
  have HD := Lib.hid hd
  have HV := Lib.hid hV
  have hf := hp.hf
  have bsh : bits BinOp.and IntKind.i64 (((p.flags : Nat) : Int) / 4) 3 = (stageOf p : Nat) := sh_flags ⟨p.flags, hf⟩
  have HA2 := Lib.hid (HU2.out.get (show W.heap[b]? = some _ from hl.obj) (by simp))
  have HA0 := Lib.hid (((Upd.refl [] _).alloc (.cells anV0.toArray 35)).get a0 (by simp))
  have HSET := Lib.hid (fun W' (h : Upd [] ((W.alloc (Obj.cells As.toArray 37)).alloc (.cells anV0.toArray 35)) W') => (⟨cells_list (h.get HA2.out (by simp)), ((cells_of (h.get HA0.out (by simp))).1 2).trans hp.c2, ((cells_of (h.get HA2.out (by simp))).1 7)⟩ : (∀ j u, (lgV l mb)[j]? = some u → W'.cell? ⟨b, 0 + j, none⟩ = some u) ∧ W'.cell? ⟨W.heap.size, 2, none⟩ = some (.int .i64 (p.flags : Nat)) ∧ W'.cell? ⟨b, 7, none⟩ = some (.int .i64 (l.taken : Nat))))
  have hfst : ((l.taken : Int) == 0) = decide (l.taken = 0) := by
    cases h : decide (l.taken = 0)
    · exact beq_eq_false_iff_ne.2 (by have := of_decide_eq_false h; omega)
    · exact beq_iff_eq.2 (by have := of_decide_eq_true h; omega)
  clear hl hp hd hV a0
  go_enter Tryz.func10, Tryz.ntmps10
  go_wp2_with fail
  refine wp_region_order (fun W' => Upd [] ((W.alloc (Obj.cells As.toArray 37)).alloc (.cells anV0.toArray 35)) W') [0, 1, 2, 3, 4, 5, 6, 7, 8, 9, 10, 11, 12] [[13, 14, 15]] 3 rfl (by kernel_rfl) (Upd.refl _ _).drew ?_
  simp only [List.map_cons, List.map_nil, opAt]
  iterate 12
    apply reads_step rfl
    · intro W' hW'; obtain ⟨e1, e2, e3⟩ := HSET.out W' hW'; go_simp; all_goals with_reducible rfl
    simp only [Act.put, List.setIfInBounds_toArray, List.set_cons_zero, List.set_cons_succ]
  apply reads_step rfl
  · intro W' hW'
    exact exec_load_cells rfl rfl (HSET.out W' hW').1 Tryz.underlying52 rfl infoLg rfl
  simp only [Act.put, List.setIfInBounds_toArray, List.set_cons_zero, List.set_cons_succ]
  refine ⟨?_, trivial⟩
  simp only [List.map_cons, List.map_nil, opAt]
  refine ⟨rfl, ?_⟩
  go_simp
  refine ⟨(Upd.refl _ _).drew, ?_⟩
  refine ⟨rfl, ?_⟩
  go_simp
  refine ⟨(Upd.refl _ _).drew.trans (((Upd.refl _ _).alloc _)), ?_⟩
  refine ⟨rfl, ?_⟩
  go_simp
  refine ⟨(Upd.refl _ _).drew.trans (((Upd.refl _ _).alloc _)), ?_⟩
  dsimp only [OnlyN, Exit.then, wpTail, Exit.inBlock]
  obtain ⟨w3, hw3⟩ : ∃ w3, w3 = (((W.alloc (Obj.cells As.toArray 37)).alloc (Obj.cells #[Value.int IntKind.i64 0, Value.int IntKind.i64 0, Value.slice none 0 0, Value.bool false] 35)).alloc (Obj.cells #[Value.pointer (some { block := b, off := 0 }), Value.bool (decide (l.taken = 0)), Value.int IntKind.i64 ↑(stageOf p), Value.string (txt l.tm.name), Value.int IntKind.i64 l.tm.isid, Value.int IntKind.i64 l.tm.tsih, Value.bool l.tm.head, Value.bool l.tm.data, Value.int IntKind.i64 l.tm.send, Value.int IntKind.i64 ↑l.stage, Value.int IntKind.i64 ↑l.taken, Value.int IntKind.i64 l.tag, Value.bool l.over, Value.bool l.operated, Value.map (some mb)] 56)).drew := ⟨_, rfl⟩
  rw [← hw3]
  have hu3 : Upd [] W w3 := by subst hw3; exact (HU2.out.alloc _).drew
  have hs3 : w3.heap.size = W.heap.size + 3 := by subst hw3; simp [World.drew]
  have hc3 : w3.heap[W.heap.size + 1 + 1]? = some (.cells (tuV b (decide (l.taken = 0)) (stageOf p) l mb).toArray 56 (0, 0)) := by
    subst hw3
    have h := alloc_last ((W.alloc (Obj.cells As.toArray 37)).alloc (.cells anV0.toArray 35)) (.cells (tuV b (decide (l.taken = 0)) (stageOf p) l mb).toArray 56)
    rw [size_alloc1, size_alloc1] at h
    exact h
  have ha3 : w3.heap[W.heap.size]? = some (Obj.cells As.toArray 37 (0, 0)) := by subst hw3; exact (((Upd.refl [] _).alloc _).drew).get HA0.out (by simp)
  have hr3 : w3.heap[W.heap.size + 1]? = some (.cells anV0.toArray 35 (0, 0)) := by
    subst hw3
    have h := alloc_last (W.alloc (Obj.cells As.toArray 37)) (.cells anV0.toArray 35)
    rw [size_alloc1] at h
    exact (((Upd.refl [] _).alloc _).drew).get h (by simp)
  clear hw3
  have hl3 := HL.out.upd hu3 (by simp) (by simp)
  obtain ⟨m, hm⟩ : ∃ m, m = w3.heap.size := ⟨_, rfl⟩
  have hcl := clone_set hl3.set
  rw [← hm] at hcl
  have hmm : m = W.heap.size + 3 := by omega
  have HM := Lib.hid hmm
  have HCL := Lib.hid hcl
  have HU3 := Lib.hid hu3
  have HC3 := Lib.hid hc3
  have HA3 := Lib.hid ha3
  have HR3 := Lib.hid hr3
  have l11 := (cells_of hl3.obj).1 11
  simp only [List.getElem?_toArray, List.getElem?_cons_zero, List.getElem?_cons_succ] at l11
  have hbs : b < w3.heap.size := hl3.lt
  have HS3 := Lib.hid hs3
  clear hmm hm hcl hu3 hc3 ha3 hr3 hl3 hfst bsh hs3
  go_wp2_with fail
  refine HCL.out.mono ?_
  rintro e w4 ⟨rfl, hs4, hu4⟩
  have hc4 := hu4.get HC3.out (by simp)
  have HS4 := Lib.hid hs4
  have HU4 := Lib.hid hu4
  have HC4 := Lib.hid hc4
  have t14 := (cells_of hc4).1 14
  have f14 := (cells_of hc4).2 14
  simp only [List.getElem?_toArray, List.getElem?_cons_zero, List.getElem?_cons_succ] at t14
  have hlt4 : W.heap.size + 3 < w4.heap.size := by have := hs4.lt; have := HM.out; omega
  obtain ⟨w5, hw5⟩ : ∃ w5, w5 = w4.setCell ⟨W.heap.size + 1 + 1, 14, none⟩ (.map (some m)) := ⟨_, rfl⟩
  have hc5 : w5.heap[W.heap.size + 1 + 1]? = some (.cells (tuV b (decide (l.taken = 0)) (stageOf p) l m).toArray 56 (0, 0)) := by
    have h := heap_setCell_same w4 (W.heap.size + 1 + 1) 14 _ _ (.map (some m)) hc4
    rw [hw5, h]
    simp
  have hu5 : Upd [W.heap.size + 1 + 1] w4 w5 := by rw [hw5]; exact (Upd.refl [W.heap.size + 1 + 1] w4).setCell (.inl (by simp)) _
  have hu35 : Upd [W.heap.size + 1 + 1] w3 w5 := (hu4.mono (by simp)).trans hu5
  have hu05 : Upd [] W w5 := HU3.out.step hu35 (fun x hx => .inr (by simp at hx; omega))
  have HT5 := Lib.hid (⟨hc5, by have := HM.out; omega, hs4.upd hu5 (by have := HM.out; simp; omega)⟩ : TuAt w5 (W.heap.size + 1 + 1) b m (decide (l.taken = 0)) (stageOf p) l)
  have HL5 := Lib.hid (HL.out.upd hu05 (by simp) (by simp))
  have HA5 := Lib.hid (cells_list (hu35.get HA3.out (by simp; omega)))
  have HR5 := Lib.hid (hu35.get HR3.out (by simp))
  have HU5 := Lib.hid hu05
  have HW5 := Lib.hid hw5
  clear hs4 hu4 hc4 HCL hc5 hu5 hu35 hu05 hw5
  go_wp2_with (rw [← HW5.out]; refine wpList_load_cells rfl 37 (.tmp 3) rfl W.heap.size 0 27 rfl As _ HA5.out Tryz.underlying37 rfl infoPdu hAs ?_)
  refine (refused_any HL5.out HT5.out HP.out hlt (by omega)).mono ?_
  rintro e w6 ⟨rfl, hb6⟩
  have hu6 := Upd.of_below hb6
  have HU6 := Lib.hid (HU5.out.trans hu6)
  have HL6 := Lib.hid (HL5.out.upd hu6 (by simp) (by simp))
  have HT6 := Lib.hid (HT5.out.upd hu6 (by simp) (by simp))
  have HR6 := Lib.hid (hu6.get HR5.out (by simp))
  have HA6 := Lib.hid (fun j u h => (World.cell?_of_block (a := ⟨W.heap.size, 0 + j, none⟩) (hu6.block W.heap.size (by have := HT5.out.lt; omega) (by simp))).trans (HA5.out j u h))
  have hs6 : W.heap.size + 3 < w6.heap.size := by have := HT6.out.set.lt; have := HM.out; omega
  clear hb6 hu6 HW5 HA5 HR5 HL5 HT5 hlt4 t14 f14 l11 HA0 HA2 HSET HA3 HR3 HC3 HC4 HS4 HU2
  by_cases hr : refusedP l p = 0
  case neg =>
    have HTK := Lib.hid (show takeP l p = ({ l with over := true }, ⟨0, refusedP l p, [], false⟩) by unfold takeP; rw [if_pos hr])
    have HUX := Lib.hid (HU6.out.mono (T := [b, mb]) (by simp))
    have hr2 : (refusedP l p != 0) = true := bne_iff_ne.2 hr
    generalize refusedP l p = r at *
    have l9 := (cells_of HL6.out.obj).1 9
    have f9 := (cells_of HL6.out.obj).2 9
    simp only [List.getElem?_toArray, List.getElem?_cons_zero, List.getElem?_cons_succ] at l9
    have hu7 : Upd [b] w6 (w6.setCell ⟨b, 9, none⟩ (.bool true)) := (Upd.refl [b] w6).setCell (.inl (by simp)) _
    have HU7 := Lib.hid (HUX.out.step hu7 (fun x hx => .inl (by simp at hx; simp [hx])))
    have HR7 := Lib.hid (hu7.get HR6.out (by simp; omega))
    have HL7 := Lib.hid (HL6.out.put (s' := { l with over := true }) 9 (.bool true) rfl rfl)
    clear hu7
    go_wp2_with (refine wpList_store_whole rfl 35 (.tmp 4) (.tmp 42) rfl (W.heap.size + 1) _ rfl rfl _ _ HR7.out infoAn rfl rfl ?_; intro w8 hg8 hu8 _; have G8 := Lib.hid hg8; have U8 := Lib.hid hu8; clear hg8 hu8)
    refine bodyPost_ret (results_cell1 rfl _ rfl (run_loadVar_cells _ _ 0 4 _ [.int .i64 0, .int .i64 r, .slice none 0 0, .bool false] _ (cells_list G8.out) Tryz.underlying35 rfl infoAn rfl)) rfl ?_
    rw [HTK.out]
    exact ⟨⟨_, rfl, IsTxtV.nil _⟩, ⟨mb, HL7.out.upd U8.out (by simp; omega) (by simp; omega), .inl rfl⟩, HU7.out.step U8.out (fun x hx => .inr (by simp at hx; omega))⟩
  case pos =>
    rw [hr]
    have HTKA := Lib.hid (show takeP l p = _ by unfold takeP; rw [if_neg (by simp [hr])])
    have HTALK := Lib.hid (talk_any HL6.out HT6.out HP.out (HD.out.below HU6.out.all) hdl hal (by omega) (by have := HM.out; omega) (by omega) (by have := HM.out; omega) (fun W' h => HV.out W' ((HU6.out.step h (fun x hx => .inr (by have := HM.out; simp at hx; rcases hx with rfl | rfl <;> omega))).mono (by simp))))
    clear hr
    go_wp2_with (refine wpList_load_cells rfl 37 (.tmp 3) rfl W.heap.size 0 27 rfl As _ HA6.out Tryz.underlying37 rfl infoPdu hAs ?_)
    refine HTALK.out.mono ?_
    rintro e w7 ⟨hres, hu7⟩
    have HL7 := Lib.hid (HL6.out.upd hu7 (by have := HM.out; simp; omega) (by have := HM.out; simp; omega))
    have HU7 := Lib.hid (HU6.out.step hu7 (fun x hx => .inr (by have := HM.out; simp at hx; rcases hx with rfl | rfl <;> omega)))
    have HR7 := Lib.hid (hu7.get HR6.out (by have := HM.out; simp; omega))
    have HA7 := Lib.hid (fun j u h => (World.cell?_of_block (a := ⟨W.heap.size, 0 + j, none⟩) (hu7.block W.heap.size (by omega) (by have := HM.out; simp; omega))).trans (HA6.out j u h))
    have hs7 : W.heap.size + 3 < w7.heap.size := by have := hu7.size; omega
    clear hu7 HTALK HL6 HT6 HR6 HA6
    cases htk : talkP l p with
    | error s =>
      have HTK := Lib.hid (show takeP l p = ({ l with over := true }, ⟨0, s, [], false⟩) by rw [HTKA.out, htk])
      have hr : s ≠ 0 := talkP_err htk
      rw [htk] at hres
      have he : e = .returned (.tuple #[.slice none 0 0, .int .i64 s]) := hres
      subst he
      have HUX := Lib.hid (HU7.out.mono (T := [b, mb]) (by simp))
      clear hres htk
      have hr2 : (s != 0) = true := bne_iff_ne.2 hr
      have l9 := (cells_of HL7.out.obj).1 9
      have f9 := (cells_of HL7.out.obj).2 9
      simp only [List.getElem?_toArray, List.getElem?_cons_zero, List.getElem?_cons_succ] at l9
      have hu7 : Upd [b] w7 (w7.setCell ⟨b, 9, none⟩ (.bool true)) := (Upd.refl [b] w7).setCell (.inl (by simp)) _
      have HU8 := Lib.hid (HUX.out.step hu7 (fun x hx => .inl (by simp at hx; simp [hx])))
      have HR8 := Lib.hid (hu7.get HR7.out (by simp; omega))
      have HL8 := Lib.hid (HL7.out.put (s' := { l with over := true }) 9 (.bool true) rfl rfl)
      clear hu7
      go_wp2_with (refine wpList_store_whole rfl 35 (.tmp 4) (.tmp 55) rfl (W.heap.size + 1) _ rfl rfl _ _ HR8.out infoAn rfl rfl ?_; intro w8 hg8 hu8 _; have G8 := Lib.hid hg8; have U8 := Lib.hid hu8; clear hg8 hu8)
      refine bodyPost_ret (results_cell1 rfl _ rfl (run_loadVar_cells _ _ 0 4 _ [.int .i64 0, .int .i64 s, .slice none 0 0, .bool false] _ (cells_list G8.out) Tryz.underlying35 rfl infoAn rfl)) rfl ?_
      rw [HTK.out]
      exact ⟨⟨_, rfl, IsTxtV.nil _⟩, ⟨mb, HL8.out.upd U8.out (by simp; omega) (by simp; omega), .inl rfl⟩, HU8.out.step U8.out (fun x hx => .inr (by simp at hx; omega))⟩
    | ok nt =>
      obtain ⟨n, t⟩ := nt
      rw [htk] at hres
      obtain ⟨v, rfl, hv7, ht7⟩ := hres
      have HTKB := Lib.hid (HTKA.out.trans (by rw [htk]))
      have HV7 := Lib.hid hv7
      have HT7 := Lib.hid ht7
      clear hv7 ht7 htk
      obtain ⟨vp, vc, rfl, -⟩ := id HV7.out
      have hst4 : stageOf p < 4 := Nat.mod_lt _ (by decide)
      have hsl : wrap64 ((stageOf p : Int) * 4) = ((stageOf p * 4 : Nat) : Int) := by rw [IntWalk.wrap64_in] <;> omega
      have hne1 : ¬ b = W.heap.size + 1 + 1 := by omega
      have hne2 : ¬ b = W.heap.size := by omega
      have hne3 : ¬ W.heap.size = b := by omega
      have HCT := Lib.hid (fun w8 (h : Upd [b] w7 w8) => (cells_of (h.get HT7.out.obj (by simp; omega))).1 2)
      have HCF := Lib.hid (fun w8 (h : Upd [b] w7 w8) => ((World.cell?_of_block (a := ⟨W.heap.size, 2, none⟩) (h.block W.heap.size (by omega) (by simp; omega))).trans (HA7.out 2 _ (by simpa using HP.out.c2)) : w8.cell? ⟨W.heap.size, 2, none⟩ = some (.int .i64 (p.flags : Nat))))
      have hst1 : ((stageOf p : Int) == 1) = decide (stageOf p = 1) := by
        cases h : decide (stageOf p = 1)
        · exact beq_eq_false_iff_ne.2 (by have := of_decide_eq_false h; omega)
        · exact beq_iff_eq.2 (by have := of_decide_eq_true h; omega)
      have h128 : bits BinOp.and IntKind.i64 (p.flags : Nat) 128 = ((p.flags / 128 * 128 : Nat) : Int) := (bits_flags ⟨p.flags, hf⟩).2.2
      have hb3 : bits BinOp.and IntKind.i64 (p.flags : Nat) 3 = (toOf p : Nat) := (bits_flags ⟨p.flags, hf⟩).1
      have hfl : ((p.flags / 128 * 128 : Nat) : Int) = if 128 ≤ p.flags then 128 else 0 := by split <;> omega
      rw [hfl] at h128
      clear hfl
      cases hop : l.operated
      case true =>
        by_cases hfg : 128 ≤ p.flags
        case neg =>
          rw [if_neg hfg] at h128
          go_wp2_with (first
            | (show wpList _ _ _ ({ dst := _, op := .load 52 (.tmp 59), type := _, pos := _, after := _, guard := _ } :: _) _ _; refine wpList_load_cells rfl 52 (.tmp 59) rfl (W.heap.size + 1 + 1) 3 12 rfl (lgV (nextL l n) m) _ (cells_from HT7.out.obj 3 12) Tryz.underlying52 rfl infoLg rfl ?_)
            | (show wpList _ _ _ ({ dst := _, op := .store 52 (.tmp 61) (.tmp 60), type := _, pos := _, after := _, guard := _ } :: _) _ _; refine wpList_store_whole rfl 52 (.tmp 61) (.tmp 60) rfl b _ rfl rfl _ _ HL7.out.obj infoLg rfl rfl ?_; intro w8 hg8 hu8 hz8
               have hz : W.heap.size + 3 < w8.heap.size := by omega
               have hz1 : W.heap.size < w8.heap.size := by omega
               have hz2 : ¬ w8.heap.size = W.heap.size := by omega
               have hz3 : ¬ W.heap.size = w8.heap.size := by omega
               have hz4 : b < w8.heap.size := by omega
               have c2 := HCT.out w8 hu8
               have l5 := (cells_of hg8).1 10
               have l6 := (cells_of hg8).1 6
               have l9 := (cells_of hg8).1 9
               have f6 := (cells_of hg8).2 6
               have f7 := (cells_of hg8).2 7
               have f9 := (cells_of hg8).2 9
               have f10 := (cells_of hg8).2 10
               have l7 := (cells_of hg8).1 7
               have z2 := HCF.out w8 hu8
               simp only [List.getElem?_toArray, List.getElem?_cons_zero, List.getElem?_cons_succ] at l5 l6 l7 l9 c2 z2
               have hla : LgAt (w3S w8 b l.taken (stageOf p) true) b m { nextL l n with taken := l.taken + 1, stage := stageOf p, operated := true } := (((⟨hg8, by have := HM.out; omega, HT7.out.set.upd hu8 (by have := HM.out; simp; omega)⟩ : LgAt w8 b m (nextL l n)).put (s' := { nextL l n with taken := l.taken + 1 }) 7 (.int .i64 ((l.taken : Int) + 1)) rfl rfl).put (s' := { nextL l n with taken := l.taken + 1, stage := stageOf p }) 6 (.int .i64 (stageOf p : Nat)) rfl rfl).put (s' := { nextL l n with taken := l.taken + 1, stage := stageOf p, operated := true }) 10 (.bool true) rfl rfl
               have hua : Upd [b] w8 (w3S w8 b l.taken (stageOf p) true) := (((Upd.refl [b] w8).setCell (.inl (by simp)) _).setCell (.inl (by simp)) _).setCell (.inl (by simp)) _
               have HUA := Lib.hid (show Upd [b] W (w3S w8 b l.taken (stageOf p) true) from ((HU7.out.mono (by simp)).trans hu8).trans hua)
               have HRA := Lib.hid ((hu8.trans hua).get HR7.out (by simp; omega))
               have HLA := Lib.hid hla
               have HWA := Lib.hid (hu8.trans hua)
               have HRB := Lib.hid (((Upd.refl [] _).alloc (.cells #[.int .i64 ((stageOf p : Int) * 4), .int .i64 0, .slice vp t.length vc, .bool false] 35)).get HRA.out (by simp))
               have hld := alloc_last (w3S w8 b l.taken (stageOf p) true) (.cells [.int .i64 ((stageOf p : Int) * 4), .int .i64 0, .slice vp t.length vc, .bool false].toArray 35)
               rw [w3S_size] at hld
               have HLD := Lib.hid (cells_list hld)
               have HZ8 := Lib.hid hz8
               clear hg8 hu8 hz8 hla hua)
            | (show wpList _ _ _ ({ dst := _, op := .load 35 (.tmp 8), type := _, pos := _, after := _, guard := _ } :: _) _ _; refine wpList_load_cells rfl 35 (.tmp 8) rfl w8.heap.size 0 4 rfl [.int .i64 ((stageOf p : Int) * 4), .int .i64 0, .slice vp t.length vc, .bool false] _ HLD.out Tryz.underlying35 rfl infoAn rfl ?_)
            | (show wpList _ _ _ ({ dst := _, op := .store 35 (.tmp 4) (.tmp 127), type := _, pos := _, after := _, guard := _ } :: _) _ _; refine wpList_store_whole rfl 35 (.tmp 4) (.tmp 127) rfl (W.heap.size + 1) _ rfl rfl _ _ HRB.out infoAn rfl rfl ?_; intro w9 hg9 hu9 _; have G9 := Lib.hid hg9; have U9 := Lib.hid hu9; clear hg9 hu9))
          refine bodyPost_ret (results_cell1 rfl _ rfl (run_loadVar_cells _ _ 0 4 _ [.int .i64 ((stageOf p : Int) * 4), .int .i64 0, .slice vp t.length vc, .bool false] _ (cells_list G9.out) Tryz.underlying35 rfl infoAn rfl)) rfl ?_
          have HTK := Lib.hid (show takeP l p = (⟨n.tm, stageOf p, l.taken + 1, n.tag, l.over, true, n.ans⟩, ⟨stageOf p * 4, 0, t, false⟩) by rw [HTKB.out]; simp [hfg, hop])
          rw [HTK.out]
          have hwb := (HWA.out.alloc (.cells [.int .i64 ((stageOf p : Int) * 4), .int .i64 0, .slice vp t.length vc, .bool false].toArray 35))
          have hub := (HUA.out.alloc (.cells [.int .i64 ((stageOf p : Int) * 4), .int .i64 0, .slice vp t.length vc, .bool false].toArray 35))
          have hx : Upd [b, W.heap.size + 1] w7 w9 := (hwb.mono (by simp)).trans (U9.out.mono (by simp))
          refine ⟨⟨_, rfl, HV7.out.updT hx ?_⟩, ⟨m, ?_, .inr (by have := HM.out; omega)⟩, (hub.mono (by simp)).step U9.out (fun x hx => .inr (by simp at hx; omega))⟩
          · intro g hg
            simp only [List.mem_cons, List.not_mem_nil, or_false] at hg
            rcases hg with rfl | rfl
            · exact noU8_of HL7.out.obj rfl
            · exact noU8_of HR7.out rfl
          · exact (HLA.out.upd ((Upd.refl [] _).alloc _) (by simp) (by simp)).upd U9.out (by simp; omega) (by have := HM.out; simp; omega)
        case pos =>
          rw [if_pos hfg] at h128
          go_wp2_with (first
            | (show wpList _ _ _ ({ dst := _, op := .load 52 (.tmp 59), type := _, pos := _, after := _, guard := _ } :: _) _ _; refine wpList_load_cells rfl 52 (.tmp 59) rfl (W.heap.size + 1 + 1) 3 12 rfl (lgV (nextL l n) m) _ (cells_from HT7.out.obj 3 12) Tryz.underlying52 rfl infoLg rfl ?_)
            | (show wpList _ _ _ ({ dst := _, op := .store 52 (.tmp 61) (.tmp 60), type := _, pos := _, after := _, guard := _ } :: _) _ _; refine wpList_store_whole rfl 52 (.tmp 61) (.tmp 60) rfl b _ rfl rfl _ _ HL7.out.obj infoLg rfl rfl ?_; intro w8 hg8 hu8 hz8
               have hz : W.heap.size + 3 < w8.heap.size := by omega
               have hz1 : W.heap.size < w8.heap.size := by omega
               have hz2 : ¬ w8.heap.size = W.heap.size := by omega
               have hz3 : ¬ W.heap.size = w8.heap.size := by omega
               have hz4 : b < w8.heap.size := by omega
               have c2 := HCT.out w8 hu8
               have l5 := (cells_of hg8).1 10
               have l6 := (cells_of hg8).1 6
               have l9 := (cells_of hg8).1 9
               have f6 := (cells_of hg8).2 6
               have f7 := (cells_of hg8).2 7
               have f9 := (cells_of hg8).2 9
               have f10 := (cells_of hg8).2 10
               have l7 := (cells_of hg8).1 7
               have z2 := HCF.out w8 hu8
               simp only [List.getElem?_toArray, List.getElem?_cons_zero, List.getElem?_cons_succ] at l5 l6 l7 l9 c2 z2
               have hla : LgAt (w3S w8 b l.taken (stageOf p) true) b m { nextL l n with taken := l.taken + 1, stage := stageOf p, operated := true } := (((⟨hg8, by have := HM.out; omega, HT7.out.set.upd hu8 (by have := HM.out; simp; omega)⟩ : LgAt w8 b m (nextL l n)).put (s' := { nextL l n with taken := l.taken + 1 }) 7 (.int .i64 ((l.taken : Int) + 1)) rfl rfl).put (s' := { nextL l n with taken := l.taken + 1, stage := stageOf p }) 6 (.int .i64 (stageOf p : Nat)) rfl rfl).put (s' := { nextL l n with taken := l.taken + 1, stage := stageOf p, operated := true }) 10 (.bool true) rfl rfl
               have hua : Upd [b] w8 (w3S w8 b l.taken (stageOf p) true) := (((Upd.refl [b] w8).setCell (.inl (by simp)) _).setCell (.inl (by simp)) _).setCell (.inl (by simp)) _
               have HUA := Lib.hid (show Upd [b] W (w3S w8 b l.taken (stageOf p) true) from ((HU7.out.mono (by simp)).trans hu8).trans hua)
               have HRA := Lib.hid ((hu8.trans hua).get HR7.out (by simp; omega))
               have HLA := Lib.hid hla
               have HWA := Lib.hid (hu8.trans hua)
               have hlb := hla.put (s' := { nextL l n with taken := l.taken + 1, stage := toOf p, operated := true }) 6 (.int .i64 (toOf p : Nat)) rfl rfl
               have hub := hua.setCell (p := ⟨b, 6, none⟩) (.inl (by simp)) (.int .i64 (toOf p : Nat))
               have b6 := (cells_of hlb.obj).1 6
               have b9 := (cells_of hlb.obj).1 9
               have fb9 := (cells_of hlb.obj).2 9
               simp only [List.getElem?_toArray, List.getElem?_cons_zero, List.getElem?_cons_succ] at b6 b9
               dsimp only [w3S] at b6 b9 fb9
               have HLB := Lib.hid hlb
               have HUB := Lib.hid (hu8.trans hub)
               clear hlb hub
               have HZ8 := Lib.hid hz8
               clear hg8 hu8 hz8 hla hua))
          obtain ⟨q1, hq1⟩ : ∃ q : Nat, q = 128 + toOf p := ⟨_, rfl⟩
          obtain ⟨q2, hq2⟩ : ∃ q : Nat, q = 128 + stageOf p * 4 + toOf p := ⟨_, rfl⟩
          have hor1 : bits BinOp.or IntKind.i64 128 (toOf p : Nat) = (q1 : Nat) := by rw [hq1]; exact or_flags1 ⟨toOf p, Nat.mod_lt _ (by decide)⟩
          have hor2 : bits BinOp.or IntKind.i64 ((stageOf p : Int) * 4) (q1 : Nat) = (q2 : Nat) := by rw [hq1, hq2]; exact or_flags2 ⟨stageOf p, hst4⟩ ⟨toOf p, Nat.mod_lt _ (by decide)⟩
          have h3 : ((toOf p : Int) == 3) = decide (toOf p = 3) := by
            cases h : decide (toOf p = 3)
            · exact beq_eq_false_iff_ne.2 (by have := of_decide_eq_false h; omega)
            · exact beq_iff_eq.2 (by have := of_decide_eq_true h; omega)
          have HQ2 := Lib.hid hq2
          clear hq1 hq2
          go_region
          obtain ⟨w10, hw10⟩ : ∃ w10, w10 = (((w3S w8 b l.taken (stageOf p) true).setCell ⟨b, 6, none⟩ (.int .i64 (toOf p : Nat))).alloc (Obj.cells #[.int .i64 (q2 : Nat), .int .i64 0, .slice vp t.length vc, .bool false] 35)).drew := ⟨_, rfl⟩
          rw [← hw10]
          have hz8 := HZ8.out
          have hu10 : Upd [b] w7 w10 := by rw [hw10]; exact (HUB.out.alloc _).drew
          have hl10 : LgAt w10 b m { nextL l n with taken := l.taken + 1, stage := toOf p, operated := true } := by rw [hw10]; exact HLB.out.upd (((Upd.refl [] _).alloc _).drew) (by simp) (by simp)
          have hx10 : w10.heap[w8.heap.size]? = some (.cells [.int .i64 (q2 : Nat), .int .i64 0, .slice vp t.length vc, .bool false].toArray 35 (0, 0)) := by
            rw [hw10]
            have h := alloc_last ((w3S w8 b l.taken (stageOf p) true).setCell ⟨b, 6, none⟩ (.int .i64 (toOf p : Nat))) (.cells [.int .i64 (q2 : Nat), .int .i64 0, .slice vp t.length vc, .bool false].toArray 35)
            rw [show ((w3S w8 b l.taken (stageOf p) true).setCell ⟨b, 6, none⟩ (.int .i64 (toOf p : Nat))).heap.size = w8.heap.size by simp [World.setCell]] at h
            exact h
          have hwf : ∀ d, Upd [b, w8.heap.size] w10 ((w10.setCell ⟨w8.heap.size, 3, none⟩ (.bool d)).setCell ⟨b, 9, none⟩ (.bool d)) := fun d => ((Upd.refl _ w10).setCell (.inl (by simp)) _).setCell (.inl (by simp)) _
          have hwl : ∀ d, LgAt ((w10.setCell ⟨w8.heap.size, 3, none⟩ (.bool d)).setCell ⟨b, 9, none⟩ (.bool d)) b m { nextL l n with taken := l.taken + 1, stage := toOf p, operated := true, over := d } := fun d => (hl10.upd ((Upd.refl [w8.heap.size] w10).setCell (.inl (by simp)) (.bool d)) (by simp; omega) (by have := HT7.out.set.lt; simp; omega)).put (s' := { nextL l n with taken := l.taken + 1, stage := toOf p, operated := true, over := d }) 9 (.bool d) rfl rfl
          have hwx : ∀ d, ((w10.setCell ⟨w8.heap.size, 3, none⟩ (.bool d)).setCell ⟨b, 9, none⟩ (.bool d)).heap[w8.heap.size]? = some (.cells [.int .i64 (q2 : Nat), .int .i64 0, .slice vp t.length vc, .bool d].toArray 35 (0, 0)) := fun d => by
            refine ((Upd.refl [b] _).setCell (.inl (by simp)) _).get ?_ (by simp; omega)
            have h := heap_setCell_same w10 w8.heap.size 3 _ _ (.bool d) hx10
            rw [h]; simp
          have HX := Lib.hid (cells_list (hwx (decide (toOf p = 3))))
          have HWL := Lib.hid (hwl (decide (toOf p = 3)))
          have HWF := Lib.hid (hu10.step (hwf (decide (toOf p = 3))) (fun x hx => by simp at hx; rcases hx with rfl | rfl; exact .inl (by simp); exact .inr (by omega)))
          have HR10 := Lib.hid ((hwf (decide (toOf p = 3))).get (hu10.get HR7.out (by simp; omega)) (by simp; omega))
          clear b6 b9 fb9
          have b6 := (cells_of hl10.obj).1 6
          have b9 := (cells_of hl10.obj).1 9
          have fb9 := (cells_of hl10.obj).2 9
          have x3 := (cells_of hx10).1 3
          have fx3 := (cells_of hx10).2 3
          simp only [List.getElem?_toArray, List.getElem?_cons_zero, List.getElem?_cons_succ] at b6 b9 x3
          have hs10 : w8.heap.size < w10.heap.size := lt_of_get hx10
          have hw7 := HZ8.out
          clear hz8 hw7 hw10 hu10 hl10 hx10 hwf hwl hwx l5 l6 l7 l9 f6 f7 f9 f10 c2 z2 HUB HLB
          go_wp2_with (first
            | (show wpList _ _ _ ({ dst := _, op := .load 35 (.tmp 8), type := _, pos := _, after := _, guard := _ } :: _) _ _; refine wpList_load_cells rfl 35 (.tmp 8) rfl w8.heap.size 0 4 rfl [.int .i64 (q2 : Nat), .int .i64 0, .slice vp t.length vc, .bool (decide (toOf p = 3))] _ HX.out Tryz.underlying35 rfl infoAn rfl ?_)
            | (show wpList _ _ _ ({ dst := _, op := .store 35 (.tmp 4) (.tmp 127), type := _, pos := _, after := _, guard := _ } :: _) _ _; refine wpList_store_whole rfl 35 (.tmp 4) (.tmp 127) rfl (W.heap.size + 1) _ rfl rfl _ _ HR10.out infoAn rfl rfl ?_; intro w9 hg9 hu9 _; have G9 := Lib.hid hg9; have U9 := Lib.hid hu9; clear hg9 hu9))
          refine bodyPost_ret (results_cell1 rfl _ rfl (run_loadVar_cells _ _ 0 4 _ [.int .i64 (q2 : Nat), .int .i64 0, .slice vp t.length vc, .bool (decide (toOf p = 3))] _ (cells_list G9.out) Tryz.underlying35 rfl infoAn rfl)) rfl ?_
          have HTK := Lib.hid (show takeP l p = (⟨n.tm, toOf p, l.taken + 1, n.tag, decide (toOf p = 3), true, n.ans⟩, ⟨128 + stageOf p * 4 + toOf p, 0, t, decide (toOf p = 3)⟩) by rw [HTKB.out]; simp [hfg, hop])
          rw [HTK.out]
          have hz8 := HZ8.out
          have hx : Upd [b, W.heap.size + 1] w7 w9 := (HWF.out.mono (by simp)).trans (U9.out.mono (by simp))
          refine ⟨⟨_, by rw [← HQ2.out], HV7.out.updT hx ?_⟩, ⟨m, HWL.out.upd U9.out (by simp; omega) (by have := HM.out; simp; omega), .inr (by have := HM.out; omega)⟩, (HU7.out.mono (by simp)).step hx (fun x hx => by simp at hx; rcases hx with rfl | rfl; exact .inl (by simp); exact .inr (by omega))⟩
          intro g hg
          simp only [List.mem_cons, List.not_mem_nil, or_false] at hg
          rcases hg with rfl | rfl
          · exact noU8_of HL7.out.obj rfl
          · exact noU8_of HR7.out rfl
      case false =>
        by_cases hfg : 128 ≤ p.flags
        case neg =>
          rw [if_neg hfg] at h128
          go_wp2_with (first
            | (show wpList _ _ _ ({ dst := _, op := .load 52 (.tmp 59), type := _, pos := _, after := _, guard := _ } :: _) _ _; refine wpList_load_cells rfl 52 (.tmp 59) rfl (W.heap.size + 1 + 1) 3 12 rfl (lgV (nextL l n) m) _ (cells_from HT7.out.obj 3 12) Tryz.underlying52 rfl infoLg rfl ?_)
            | (show wpList _ _ _ ({ dst := _, op := .store 52 (.tmp 61) (.tmp 60), type := _, pos := _, after := _, guard := _ } :: _) _ _; refine wpList_store_whole rfl 52 (.tmp 61) (.tmp 60) rfl b _ rfl rfl _ _ HL7.out.obj infoLg rfl rfl ?_; intro w8 hg8 hu8 hz8
               have hz : W.heap.size + 3 < w8.heap.size := by omega
               have hz1 : W.heap.size < w8.heap.size := by omega
               have hz2 : ¬ w8.heap.size = W.heap.size := by omega
               have hz3 : ¬ W.heap.size = w8.heap.size := by omega
               have hz4 : b < w8.heap.size := by omega
               have c2 := HCT.out w8 hu8
               have l5 := (cells_of hg8).1 10
               have l6 := (cells_of hg8).1 6
               have l9 := (cells_of hg8).1 9
               have f6 := (cells_of hg8).2 6
               have f7 := (cells_of hg8).2 7
               have f9 := (cells_of hg8).2 9
               have f10 := (cells_of hg8).2 10
               have l7 := (cells_of hg8).1 7
               have z2 := HCF.out w8 hu8
               simp only [List.getElem?_toArray, List.getElem?_cons_zero, List.getElem?_cons_succ] at l5 l6 l7 l9 c2 z2
               have hla : LgAt (w3S w8 b l.taken (stageOf p) (decide (stageOf p = 1))) b m { nextL l n with taken := l.taken + 1, stage := stageOf p, operated := (decide (stageOf p = 1)) } := (((⟨hg8, by have := HM.out; omega, HT7.out.set.upd hu8 (by have := HM.out; simp; omega)⟩ : LgAt w8 b m (nextL l n)).put (s' := { nextL l n with taken := l.taken + 1 }) 7 (.int .i64 ((l.taken : Int) + 1)) rfl rfl).put (s' := { nextL l n with taken := l.taken + 1, stage := stageOf p }) 6 (.int .i64 (stageOf p : Nat)) rfl rfl).put (s' := { nextL l n with taken := l.taken + 1, stage := stageOf p, operated := (decide (stageOf p = 1)) }) 10 (.bool (decide (stageOf p = 1))) rfl rfl
               have hua : Upd [b] w8 (w3S w8 b l.taken (stageOf p) (decide (stageOf p = 1))) := (((Upd.refl [b] w8).setCell (.inl (by simp)) _).setCell (.inl (by simp)) _).setCell (.inl (by simp)) _
               have HUA := Lib.hid (show Upd [b] W (w3S w8 b l.taken (stageOf p) (decide (stageOf p = 1))) from ((HU7.out.mono (by simp)).trans hu8).trans hua)
               have HRA := Lib.hid ((hu8.trans hua).get HR7.out (by simp; omega))
               have HLA := Lib.hid hla
               have HWA := Lib.hid (hu8.trans hua)
               have HRB := Lib.hid (((Upd.refl [] _).alloc (.cells #[.int .i64 ((stageOf p : Int) * 4), .int .i64 0, .slice vp t.length vc, .bool false] 35)).get HRA.out (by simp))
               have hld := alloc_last (w3S w8 b l.taken (stageOf p) (decide (stageOf p = 1))) (.cells [.int .i64 ((stageOf p : Int) * 4), .int .i64 0, .slice vp t.length vc, .bool false].toArray 35)
               rw [w3S_size] at hld
               have HLD := Lib.hid (cells_list hld)
               have HZ8 := Lib.hid hz8
               clear hg8 hu8 hz8 hla hua)
            | (show wpList _ _ _ ({ dst := _, op := .load 35 (.tmp 8), type := _, pos := _, after := _, guard := _ } :: _) _ _; refine wpList_load_cells rfl 35 (.tmp 8) rfl w8.heap.size 0 4 rfl [.int .i64 ((stageOf p : Int) * 4), .int .i64 0, .slice vp t.length vc, .bool false] _ HLD.out Tryz.underlying35 rfl infoAn rfl ?_)
            | (show wpList _ _ _ ({ dst := _, op := .store 35 (.tmp 4) (.tmp 127), type := _, pos := _, after := _, guard := _ } :: _) _ _; refine wpList_store_whole rfl 35 (.tmp 4) (.tmp 127) rfl (W.heap.size + 1) _ rfl rfl _ _ HRB.out infoAn rfl rfl ?_; intro w9 hg9 hu9 _; have G9 := Lib.hid hg9; have U9 := Lib.hid hu9; clear hg9 hu9))
          refine bodyPost_ret (results_cell1 rfl _ rfl (run_loadVar_cells _ _ 0 4 _ [.int .i64 ((stageOf p : Int) * 4), .int .i64 0, .slice vp t.length vc, .bool false] _ (cells_list G9.out) Tryz.underlying35 rfl infoAn rfl)) rfl ?_
          have HTK := Lib.hid (show takeP l p = (⟨n.tm, stageOf p, l.taken + 1, n.tag, l.over, (decide (stageOf p = 1)), n.ans⟩, ⟨stageOf p * 4, 0, t, false⟩) by rw [HTKB.out]; simp [hfg, hop])
          rw [HTK.out]
          have hwb := (HWA.out.alloc (.cells [.int .i64 ((stageOf p : Int) * 4), .int .i64 0, .slice vp t.length vc, .bool false].toArray 35))
          have hub := (HUA.out.alloc (.cells [.int .i64 ((stageOf p : Int) * 4), .int .i64 0, .slice vp t.length vc, .bool false].toArray 35))
          have hx : Upd [b, W.heap.size + 1] w7 w9 := (hwb.mono (by simp)).trans (U9.out.mono (by simp))
          refine ⟨⟨_, rfl, HV7.out.updT hx ?_⟩, ⟨m, ?_, .inr (by have := HM.out; omega)⟩, (hub.mono (by simp)).step U9.out (fun x hx => .inr (by simp at hx; omega))⟩
          · intro g hg
            simp only [List.mem_cons, List.not_mem_nil, or_false] at hg
            rcases hg with rfl | rfl
            · exact noU8_of HL7.out.obj rfl
            · exact noU8_of HR7.out rfl
          · exact (HLA.out.upd ((Upd.refl [] _).alloc _) (by simp) (by simp)).upd U9.out (by simp; omega) (by have := HM.out; simp; omega)
        case pos =>
          rw [if_pos hfg] at h128
          go_wp2_with (first
            | (show wpList _ _ _ ({ dst := _, op := .load 52 (.tmp 59), type := _, pos := _, after := _, guard := _ } :: _) _ _; refine wpList_load_cells rfl 52 (.tmp 59) rfl (W.heap.size + 1 + 1) 3 12 rfl (lgV (nextL l n) m) _ (cells_from HT7.out.obj 3 12) Tryz.underlying52 rfl infoLg rfl ?_)
            | (show wpList _ _ _ ({ dst := _, op := .store 52 (.tmp 61) (.tmp 60), type := _, pos := _, after := _, guard := _ } :: _) _ _; refine wpList_store_whole rfl 52 (.tmp 61) (.tmp 60) rfl b _ rfl rfl _ _ HL7.out.obj infoLg rfl rfl ?_; intro w8 hg8 hu8 hz8
               have hz : W.heap.size + 3 < w8.heap.size := by omega
               have hz1 : W.heap.size < w8.heap.size := by omega
               have hz2 : ¬ w8.heap.size = W.heap.size := by omega
               have hz3 : ¬ W.heap.size = w8.heap.size := by omega
               have hz4 : b < w8.heap.size := by omega
               have c2 := HCT.out w8 hu8
               have l5 := (cells_of hg8).1 10
               have l6 := (cells_of hg8).1 6
               have l9 := (cells_of hg8).1 9
               have f6 := (cells_of hg8).2 6
               have f7 := (cells_of hg8).2 7
               have f9 := (cells_of hg8).2 9
               have f10 := (cells_of hg8).2 10
               have l7 := (cells_of hg8).1 7
               have z2 := HCF.out w8 hu8
               simp only [List.getElem?_toArray, List.getElem?_cons_zero, List.getElem?_cons_succ] at l5 l6 l7 l9 c2 z2
               have hla : LgAt (w3S w8 b l.taken (stageOf p) (decide (stageOf p = 1))) b m { nextL l n with taken := l.taken + 1, stage := stageOf p, operated := (decide (stageOf p = 1)) } := (((⟨hg8, by have := HM.out; omega, HT7.out.set.upd hu8 (by have := HM.out; simp; omega)⟩ : LgAt w8 b m (nextL l n)).put (s' := { nextL l n with taken := l.taken + 1 }) 7 (.int .i64 ((l.taken : Int) + 1)) rfl rfl).put (s' := { nextL l n with taken := l.taken + 1, stage := stageOf p }) 6 (.int .i64 (stageOf p : Nat)) rfl rfl).put (s' := { nextL l n with taken := l.taken + 1, stage := stageOf p, operated := (decide (stageOf p = 1)) }) 10 (.bool (decide (stageOf p = 1))) rfl rfl
               have hua : Upd [b] w8 (w3S w8 b l.taken (stageOf p) (decide (stageOf p = 1))) := (((Upd.refl [b] w8).setCell (.inl (by simp)) _).setCell (.inl (by simp)) _).setCell (.inl (by simp)) _
               have HUA := Lib.hid (show Upd [b] W (w3S w8 b l.taken (stageOf p) (decide (stageOf p = 1))) from ((HU7.out.mono (by simp)).trans hu8).trans hua)
               have HRA := Lib.hid ((hu8.trans hua).get HR7.out (by simp; omega))
               have HLA := Lib.hid hla
               have HWA := Lib.hid (hu8.trans hua)
               have hlb := hla.put (s' := { nextL l n with taken := l.taken + 1, stage := toOf p, operated := (decide (stageOf p = 1)) }) 6 (.int .i64 (toOf p : Nat)) rfl rfl
               have hub := hua.setCell (p := ⟨b, 6, none⟩) (.inl (by simp)) (.int .i64 (toOf p : Nat))
               have b6 := (cells_of hlb.obj).1 6
               have b9 := (cells_of hlb.obj).1 9
               have fb9 := (cells_of hlb.obj).2 9
               simp only [List.getElem?_toArray, List.getElem?_cons_zero, List.getElem?_cons_succ] at b6 b9
               dsimp only [w3S] at b6 b9 fb9
               have HLB := Lib.hid hlb
               have HUB := Lib.hid (hu8.trans hub)
               clear hlb hub
               have HZ8 := Lib.hid hz8
               clear hg8 hu8 hz8 hla hua))
          obtain ⟨q1, hq1⟩ : ∃ q : Nat, q = 128 + toOf p := ⟨_, rfl⟩
          obtain ⟨q2, hq2⟩ : ∃ q : Nat, q = 128 + stageOf p * 4 + toOf p := ⟨_, rfl⟩
          have hor1 : bits BinOp.or IntKind.i64 128 (toOf p : Nat) = (q1 : Nat) := by rw [hq1]; exact or_flags1 ⟨toOf p, Nat.mod_lt _ (by decide)⟩
          have hor2 : bits BinOp.or IntKind.i64 ((stageOf p : Int) * 4) (q1 : Nat) = (q2 : Nat) := by rw [hq1, hq2]; exact or_flags2 ⟨stageOf p, hst4⟩ ⟨toOf p, Nat.mod_lt _ (by decide)⟩
          have h3 : ((toOf p : Int) == 3) = decide (toOf p = 3) := by
            cases h : decide (toOf p = 3)
            · exact beq_eq_false_iff_ne.2 (by have := of_decide_eq_false h; omega)
            · exact beq_iff_eq.2 (by have := of_decide_eq_true h; omega)
          have HQ2 := Lib.hid hq2
          clear hq1 hq2
          go_region
          obtain ⟨w10, hw10⟩ : ∃ w10, w10 = (((w3S w8 b l.taken (stageOf p) (decide (stageOf p = 1))).setCell ⟨b, 6, none⟩ (.int .i64 (toOf p : Nat))).alloc (Obj.cells #[.int .i64 (q2 : Nat), .int .i64 0, .slice vp t.length vc, .bool false] 35)).drew := ⟨_, rfl⟩
          rw [← hw10]
          have hz8 := HZ8.out
          have hu10 : Upd [b] w7 w10 := by rw [hw10]; exact (HUB.out.alloc _).drew
          have hl10 : LgAt w10 b m { nextL l n with taken := l.taken + 1, stage := toOf p, operated := (decide (stageOf p = 1)) } := by rw [hw10]; exact HLB.out.upd (((Upd.refl [] _).alloc _).drew) (by simp) (by simp)
          have hx10 : w10.heap[w8.heap.size]? = some (.cells [.int .i64 (q2 : Nat), .int .i64 0, .slice vp t.length vc, .bool false].toArray 35 (0, 0)) := by
            rw [hw10]
            have h := alloc_last ((w3S w8 b l.taken (stageOf p) (decide (stageOf p = 1))).setCell ⟨b, 6, none⟩ (.int .i64 (toOf p : Nat))) (.cells [.int .i64 (q2 : Nat), .int .i64 0, .slice vp t.length vc, .bool false].toArray 35)
            rw [show ((w3S w8 b l.taken (stageOf p) (decide (stageOf p = 1))).setCell ⟨b, 6, none⟩ (.int .i64 (toOf p : Nat))).heap.size = w8.heap.size by simp [World.setCell]] at h
            exact h
          have hwf : ∀ d, Upd [b, w8.heap.size] w10 ((w10.setCell ⟨w8.heap.size, 3, none⟩ (.bool d)).setCell ⟨b, 9, none⟩ (.bool d)) := fun d => ((Upd.refl _ w10).setCell (.inl (by simp)) _).setCell (.inl (by simp)) _
          have hwl : ∀ d, LgAt ((w10.setCell ⟨w8.heap.size, 3, none⟩ (.bool d)).setCell ⟨b, 9, none⟩ (.bool d)) b m { nextL l n with taken := l.taken + 1, stage := toOf p, operated := (decide (stageOf p = 1)), over := d } := fun d => (hl10.upd ((Upd.refl [w8.heap.size] w10).setCell (.inl (by simp)) (.bool d)) (by simp; omega) (by have := HT7.out.set.lt; simp; omega)).put (s' := { nextL l n with taken := l.taken + 1, stage := toOf p, operated := (decide (stageOf p = 1)), over := d }) 9 (.bool d) rfl rfl
          have hwx : ∀ d, ((w10.setCell ⟨w8.heap.size, 3, none⟩ (.bool d)).setCell ⟨b, 9, none⟩ (.bool d)).heap[w8.heap.size]? = some (.cells [.int .i64 (q2 : Nat), .int .i64 0, .slice vp t.length vc, .bool d].toArray 35 (0, 0)) := fun d => by
            refine ((Upd.refl [b] _).setCell (.inl (by simp)) _).get ?_ (by simp; omega)
            have h := heap_setCell_same w10 w8.heap.size 3 _ _ (.bool d) hx10
            rw [h]; simp
          have HX := Lib.hid (cells_list (hwx (decide (toOf p = 3))))
          have HWL := Lib.hid (hwl (decide (toOf p = 3)))
          have HWF := Lib.hid (hu10.step (hwf (decide (toOf p = 3))) (fun x hx => by simp at hx; rcases hx with rfl | rfl; exact .inl (by simp); exact .inr (by omega)))
          have HR10 := Lib.hid ((hwf (decide (toOf p = 3))).get (hu10.get HR7.out (by simp; omega)) (by simp; omega))
          clear b6 b9 fb9
          have b6 := (cells_of hl10.obj).1 6
          have b9 := (cells_of hl10.obj).1 9
          have fb9 := (cells_of hl10.obj).2 9
          have x3 := (cells_of hx10).1 3
          have fx3 := (cells_of hx10).2 3
          simp only [List.getElem?_toArray, List.getElem?_cons_zero, List.getElem?_cons_succ] at b6 b9 x3
          have hs10 : w8.heap.size < w10.heap.size := lt_of_get hx10
          have hw7 := HZ8.out
          clear hz8 hw7 hw10 hu10 hl10 hx10 hwf hwl hwx l5 l6 l7 l9 f6 f7 f9 f10 c2 z2 HUB HLB
          go_wp2_with (first
            | (show wpList _ _ _ ({ dst := _, op := .load 35 (.tmp 8), type := _, pos := _, after := _, guard := _ } :: _) _ _; refine wpList_load_cells rfl 35 (.tmp 8) rfl w8.heap.size 0 4 rfl [.int .i64 (q2 : Nat), .int .i64 0, .slice vp t.length vc, .bool (decide (toOf p = 3))] _ HX.out Tryz.underlying35 rfl infoAn rfl ?_)
            | (show wpList _ _ _ ({ dst := _, op := .store 35 (.tmp 4) (.tmp 127), type := _, pos := _, after := _, guard := _ } :: _) _ _; refine wpList_store_whole rfl 35 (.tmp 4) (.tmp 127) rfl (W.heap.size + 1) _ rfl rfl _ _ HR10.out infoAn rfl rfl ?_; intro w9 hg9 hu9 _; have G9 := Lib.hid hg9; have U9 := Lib.hid hu9; clear hg9 hu9))
          refine bodyPost_ret (results_cell1 rfl _ rfl (run_loadVar_cells _ _ 0 4 _ [.int .i64 (q2 : Nat), .int .i64 0, .slice vp t.length vc, .bool (decide (toOf p = 3))] _ (cells_list G9.out) Tryz.underlying35 rfl infoAn rfl)) rfl ?_
          have HTK := Lib.hid (show takeP l p = (⟨n.tm, toOf p, l.taken + 1, n.tag, decide (toOf p = 3), (decide (stageOf p = 1)), n.ans⟩, ⟨128 + stageOf p * 4 + toOf p, 0, t, decide (toOf p = 3)⟩) by rw [HTKB.out]; simp [hfg, hop])
          rw [HTK.out]
          have hz8 := HZ8.out
          have hx : Upd [b, W.heap.size + 1] w7 w9 := (HWF.out.mono (by simp)).trans (U9.out.mono (by simp))
          refine ⟨⟨_, by rw [← HQ2.out], HV7.out.updT hx ?_⟩, ⟨m, HWL.out.upd U9.out (by simp; omega) (by have := HM.out; simp; omega), .inr (by have := HM.out; omega)⟩, (HU7.out.mono (by simp)).step hx (fun x hx => by simp at hx; rcases hx with rfl | rfl; exact .inl (by simp); exact .inr (by omega))⟩
          intro g hg
          simp only [List.mem_cons, List.not_mem_nil, or_false] at hg
          rcases hg with rfl | rfl
          · exact noU8_of HL7.out.obj rfl
          · exact noU8_of HR7.out rfl
end Go.Proofs.YtlhdjgibkiffaaaGreatDoor
