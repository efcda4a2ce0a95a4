/-
  PROVED HERE: Undo of package counts. Conditions: those that each theorem names.
-/
import Derived.Test.YtgmabhfffgnjjaaCntD
namespace Go.Proofs.Ytgmabhfffgnjjaa
open Go.RowKit Go.Shelf Go.Maps Go.Sort

attribute [local go_sem] Oper.semAt_some

theorem wpListIn_iclear {F : Fence} {n : Nat} {P : Program} {k e t : TypeId} {b : Nat} {M : Int → Option Value} {ops : Array Oper} {rest : List Oper} {o : Oper} {a : Act} {w : World} {Q : Exit → Act → World → Prop} (hgd : o.guard = none) (m : Operand) (ho : o.op = Op.call { callee := Callee.builtin Builtin.clear, args := #[m], argTypes := #[t] }) (hm : a.eval m = .map (some b))
    (ht : P.underlying t = some (.map k e)) (h : IMap P k w b M)
    (hK : ∀ w', IMap P k w' b (fun _ => none) → Upd [b] w w' → w'.heap.size = w.heap.size → wpListIn F n P ops Q rest (a.put o.dst (.tuple #[])) w') : wpListIn F n P ops Q (o :: rest) a w := by
  obtain ⟨w', hrun, h1, h2, h3⟩ := h.clear ht o.type
  refine wpListIn_plain hgd fun K hK' => ?_
  unfold Oper.wpIn
  refine ⟨?_, ?_⟩
  · simp [Oper.about, ho, resolve, Target.leads, Sem.run_pure]
  · rw [Oper.semAt_plain F _ _ (by rw [ho]; intro c hc'; cases hc')]
    simp [execOp, ho, resolve, invoke, builtin, hm, hrun, Result.andThen]
    exact hK' _ _ (hK w' h1 h2 h3)
/-- Behind the loop and the clear. -/
theorem undo_end {w W W2 : World} {b g m D Bl : Nat} {s : Ct} {M : Int → Option Value} {xs : List (KeyOf M)} (h : IsC w b g m s) (hW : WasOf s M) (hR : URnd w b g m s M xs W) (hall : ∀ x, (M x).isSome = true → ∃ y ∈ xs, y.1 = x)
    (hm : IMap Try.prog 3 W2 m fun _ => none) (u : Upd [m] W W2) (hB : w.heap.size < Bl) (hD : Bl ≤ D) (hK : W.heap[D]? = some (.deferred (some []))) :
    W2.heap[D]? = some (.deferred (some [])) ∧ IsC (W2.putObj D (.deferred none)) b g m s.undo ∧ Upd [g, m] w (W2.putObj D (.deferred none)) := by
  obtain ⟨a1, a2, a3⟩ := h.apart
  obtain ⟨M0, hM0, _⟩ := h.map
  have hb := lt_of_block h.hd
  have hg := lt_of_block h.row
  have hmm := hR.map.lt
  have hmw : m < w.heap.size := hM0.lt
  have hK2 := u.get hK (by simp only [List.mem_singleton]; omega)
  have u2 : Upd [D] W2 (W2.putObj D (.deferred none)) := ⟨rfl, rfl, rfl, by simp [World.putObj], fun k _ hk => World.putObj_heap_other (by simpa using hk)⟩
  obtain ⟨l, h1, h2, h3, h4⟩ := hR.row
  have e : l = s.old := ext_getD (h2.trans h.ok.len.symm) fun i hi => by
    rw [h2] at hi
    cases hMi : M (i : Int) with
    | some v =>
      obtain ⟨y, hy, hyi⟩ := hall (i : Int) (by rw [hMi]; rfl)
      exact h3 y hy i hyi
    | none =>
      rcases h4 i with h | h
      · exact h
      · rw [h]; exact (hW.2 i hi hMi).symm
  rw [e] at h1
  refine ⟨hK2, ⟨Ct.undo_ok h.ok, ?_, ?_, _, hm.upd u2 (by simp only [List.mem_singleton]; omega), (fun x v h => by cases h), fun i _ _ => rfl⟩, ((hR.upd.mono (by simp)).trans (u.mono (by simp))).step u2 fun x hx => .inr (by simp only [List.mem_singleton] at hx; omega)⟩
  · show _ = some (Obj.cells #[.slice (some ⟨g, 0, none⟩) s.old.length s.old.length, .map (some m)] _ _)
    rw [h.ok.len]
    exact u2.get (u.get hR.hd (by simpa using a2)) (by simp only [List.mem_singleton]; omega)
  · exact u2.get (u.get h1 (by simpa using a3)) (by simp only [List.mem_singleton]; omega)
/-- A round: one count is what it was. -/
theorem URnd.step {w W : World} {b g m i : Nat} {s : Ct} {M : Int → Option Value} {xs : List (KeyOf M)} {x : KeyOf M} (h : URnd w b g m s M xs W) (hx : x.1 = (i : Int)) (hi : i < s.now.length) (ho : s.old.length = s.now.length) (a1 : b ≠ g) (a3 : g ≠ m) (hg : g < w.heap.size) :
    URnd w b g m s M (xs ++ [x]) (W.drew.setCell ⟨g, i, none⟩ (.int .i64 (s.old.getD i 0))) := by
  have u : Upd [g] W (W.drew.setCell ⟨g, i, none⟩ (.int .i64 (s.old.getD i 0))) := (Upd.drew (Upd.refl [g] W)).setCell (.inl (by simp)) _
  obtain ⟨l, h1, h2, h3, h4⟩ := h.row
  refine ⟨u.get h.box (by simp; omega), u.get h.hd (by simpa using a1), ⟨l.set i (s.old.getD i 0), row_set (show W.drew.heap[g]? = _ from h1) i _, by simp [h2], fun y hy j hj => ?_, fun j => ?_⟩, h.map.upd u (by simpa using a3.symm), h.upd.trans u⟩
  · rw [getD_set _ _ _ _ (by omega)]
    by_cases e : j = i
    · rw [if_pos e, e]
    · rw [if_neg e]
      rcases List.mem_append.1 hy with h | h
      · exact h3 y h j hj
      · obtain rfl := List.mem_singleton.1 h
        rw [hx] at hj; omega
  · rw [getD_set _ _ _ _ (by omega)]
    by_cases e : j = i
    · rw [if_pos e, e]; exact .inl rfl
    · rw [if_neg e]; exact h4 j
set_option maxRecDepth 100000 in
set_option maxHeartbeats 4000000 in
theorem cundo_any {w : World} {b g m : Nat} {s : Ct} (h : IsC w b g m s) : Calls Try.prog 11 #[.pointer (some ⟨b, 0, none⟩)] w fun e w' => e = .returned (.tuple #[]) ∧ IsC w' b g m s.undo ∧ Upd [g, m] w w' := by
  have hn := h.ok.hi
  obtain ⟨M, ⟨D0, hown, hD0⟩, hW⟩ := h.map
  obtain ⟨a1, a2, a3⟩ := h.apart
  have hb := lt_of_block h.hd
  have hg := lt_of_block h.row
  have hm := hown.lt
  have ub : Upd [] w (w.alloc (.cells #[.pointer (some ⟨b, 0, none⟩)] 26)) := (Upd.refl [] w).alloc _
  have ub2 : Upd [] w ((w.alloc (.cells #[.pointer (some ⟨b, 0, none⟩)] 26)).alloc (.cells #[.map (some m)] 44)) := ub.alloc _
  obtain ⟨c0, c1⟩ := (h.upd ub (by simp) (by simp) (by simp)).head
  have H := Lib.hid h
  have HW := Lib.hid hW
  have HKY := Lib.hid (fun mb w => ckeys_in Fence.wide 7 trivial rfl mb w)
  have hst := ckeys_stops Fence.wide 7 trivial rfl (by decide) (w.heap.size + 1) m M D0 hD0 ((w.alloc (.cells #[.pointer (some ⟨b, 0, none⟩)] 26)).alloc (.cells #[.map (some m)] 44)) (by simp)
    (by have := heap_alloc_new (w.alloc (.cells #[.pointer (some ⟨b, 0, none⟩)] 26)) (.cells #[.map (some m)] 44); rw [World.size_alloc] at this; rw [(cells_of this).1]; rfl) (owns_upd hown ub2 (by simp))
  have HST := Lib.hid hst
  have hown0 := urnd_own (Bl := w.heap.size + 1 + 1) (s := s) (M := M) (by omega) hb hg hm
  have hr0 : URnd w b g m s M [] ((w.alloc (.cells #[.pointer (some ⟨b, 0, none⟩)] 26)).alloc (.cells #[.map (some m)] 44)) := {
    box := ((Upd.refl [] _).alloc _).get (heap_alloc_new w _) (by simp)
    hd := ub2.get h.hd (by simp)
    row := ⟨s.now, ub2.get h.row (by simp), rfl, (fun x hx => by cases hx), fun i => .inr rfl⟩
    map := IMap.upd (⟨D0, hown, hD0⟩ : IMap Try.prog 3 w m M) ub2 (by simp)
    upd := ub2.mono (by simp) }
  have HOWN := Lib.hid hown0
  have HR0 := Lib.hid hr0
  clear h hW hst hown0 hr0 ub ub2 hown hD0
  refine (callsIn_wide (n := 8)).1 ?_
  refine callsIn_of_wp_marks Try.func11 rfl trivial ?_ rfl
  simp only [Try.ntmps11, List.size_toArray, List.length_cons, List.length_nil, Nat.reduceAdd, Nat.reduceSub, Array.replicate_succ, Array.replicate_zero, List.push_toArray, List.append_toArray, List.nil_append, List.cons_append]
  gi_wp2_with (refine ⟨trivial, ?_⟩; gi_at_call 28; (with_reducible refine (HKY.out _ _).mono ?_); rintro e w3 ⟨rfl, rfl⟩)
  refine wpIn_rangeFunc_ownG (F := Fence.wide) (n := 8) rfl (by decide) (gf := 36) (lb := #[.pointer (some ⟨w.heap.size + 1, 0, none⟩)]) rfl trivial (enters_of Try.func36 (by kernel_rfl) rfl)
    HST.out walksK_t walksK_b (Below.refl _ _) (fun _ => rfl)
    (URnd w b g m s M) (fun _ _ _ => False) (by simpa using HOWN.out) (fun _ _ _ _ _ hs _ _ => hs) HR0.out
    (fun x => { tmps := #[.pointer (some ⟨b, 0, none⟩), .pointer (some ⟨w.heap.size, 0, none⟩), .int .i64 x.1, .pointer (some ⟨b, 0, none⟩), .pointer (some ⟨b, 0, none⟩), .pointer (some ⟨b, 1, none⟩), .map (some m), .func (.func 36) #[] #[.pointer (some ⟨w.heap.size + 1, 0, none⟩)], .int .i64 x.1, undef, undef, undef, undef, undef, undef, undef, undef, undef, undef, undef, undef, undef, undef, undef, undef], defers := [] }) ?assign ?body ?done ?stop
  case assign =>
    intro l x W K hK
    gi_wp2
    exact hK
  case stop =>
    rintro D c pre W _ _ h _
    exact h.elim
  case body =>
    rintro l pre x W hR hlt
    obtain ⟨v, hv⟩ := Option.isSome_iff_exists.1 x.2
    obtain ⟨i, hxi, hi, hvo⟩ := HW.out.1 _ _ hv
    obtain ⟨lw, hl1, hl2, _, _⟩ := hR.row
    have hlk := fun wz (hz : IMap Try.prog 3 wz m M) => hz.look (t := 44) false Try.underlying3 Try.underlying44 (zeroI wz) (x := (i : Int)) (WalkArith.wf_i64 (by omega))
    rw [← hxi, hv] at hlk
    simp only [Bool.false_eq_true, if_false, Option.getD_some] at hlk
    have hc1 := (cells_of hR.box).1 0
    have hc2 := (cells_of hR.hd).1 0
    have hc3 := (cells_of hR.hd).1 1
    simp only [List.getElem?_toArray, List.getElem?_cons_zero, List.getElem?_cons_succ] at hc1 hc2 hc3
    have HLK := Lib.hid hlk
    obtain ⟨r1, r2⟩ := row_at hl1 (i := i) (by omega)
    have HSTP := Lib.hid (hR.step hxi hi H.out.ok.len a1 a3 hg)
    have HMP := Lib.hid hR.map
    subst hvo
    rw [hxi] at HLK ⊢
    have hr4 : (W.drew.setCell ⟨g, i, none⟩ (.int .i64 (s.old.getD i 0))).cell? ⟨w.heap.size, 0, none⟩ = some (.pointer (some ⟨b, 0, none⟩)) := (cells_of HSTP.out.box).1 0
    have hr5 : (W.drew.setCell ⟨g, i, none⟩ (.int .i64 (s.old.getD i 0))).cell? ⟨b, 0, none⟩ = some (.slice (some ⟨g, 0, none⟩) s.now.length s.now.length) := (cells_of HSTP.out.hd).1 0
    have hr6 : (W.drew.setCell ⟨g, i, none⟩ (.int .i64 (s.old.getD i 0))).cell? ⟨b, 1, none⟩ = some (.map (some m)) := (cells_of HSTP.out.hd).1 1
    have HS2 := Lib.hid (⟨hr4, hr5, hr6, HSTP.out.map⟩ : (W.drew.setCell ⟨g, i, none⟩ (.int .i64 (s.old.getD i 0))).cell? ⟨w.heap.size, 0, none⟩ = some (.pointer (some ⟨b, 0, none⟩)) ∧ (W.drew.setCell ⟨g, i, none⟩ (.int .i64 (s.old.getD i 0))).cell? ⟨b, 0, none⟩ = some (.slice (some ⟨g, 0, none⟩) s.now.length s.now.length) ∧ (W.drew.setCell ⟨g, i, none⟩ (.int .i64 (s.old.getD i 0))).cell? ⟨b, 1, none⟩ = some (.map (some m)) ∧ IMap Try.prog 3 (W.drew.setCell ⟨g, i, none⟩ (.int .i64 (s.old.getD i 0))) m M)
    clear hlk hl1 hv hr4 hr5 hr6
    generalize s.old.getD i 0 = y at *
    gi_wp2
    refine wpIn_region_order (fun W' => W'.cell? ⟨w.heap.size, 0, none⟩ = some (.pointer (some ⟨b, 0, none⟩)) ∧ W'.cell? ⟨b, 0, none⟩ = some (.slice (some ⟨g, 0, none⟩) s.now.length s.now.length) ∧ W'.cell? ⟨b, 1, none⟩ = some (.map (some m)) ∧ IMap Try.prog 3 W' m M) [0, 1, 2, 3, 4, 5, 6, 7, 8, 9, 10] [[11, 12]] 2 rfl (by kernel_rfl) ⟨hc1, hc2, hc3, HMP.out.upd (S := []) (Upd.drew (Upd.refl [] W)) (by simp)⟩ ?_
    simp only [List.map_cons, List.map_nil, opAt]
    iterate 11
      apply reads_step rfl
      · intro wq hq
        obtain ⟨q1, q2, q3, q4⟩ := hq
        have q5 := HLK.out wq q4
        go_simp
        all_goals with_reducible rfl
      simp only [Act.put, List.setIfInBounds_toArray, List.set_cons_zero, List.set_cons_succ]
    refine ⟨?_, trivial⟩
    simp only [List.map_cons, List.map_nil, opAt]
    refine ⟨rfl, ?_⟩
    go_simp
    refine ⟨HMP.out.upd (S := []) (Upd.drew (Upd.refl [] W)) (by simp), ?_⟩
    refine ⟨rfl, ?_⟩
    go_simp
    refine ⟨HS2.out.2.2.2, ?_⟩
    dsimp only [OnlyN, Exit.then, wpTail, Exit.inBlock]
    gi_wp2
    exact ⟨((KeepsOthers.drew W).trans (KeepsOthers.setCell _ _ _)).from _, ((KeepsOthers.drew W).trans (KeepsOthers.setCell _ _ _)).walks, HSTP.out⟩
  case done =>
    rintro D xs W hD hall hR hK
    have hc1 := (cells_of hR.box).1 0
    have hc3 := (cells_of hR.hd).1 1
    simp only [List.getElem?_toArray, List.getElem?_cons_zero, List.getElem?_cons_succ] at hc1 hc3
    simp only [World.size_alloc] at hD
    have HR := Lib.hid hR
    have HALL := Lib.hid hall
    have HK := Lib.hid hK
    clear hR hall hK
    gi_wp2_with (refine wpListIn_iclear (k := 3) rfl _ rfl rfl Try.underlying44 HR.out.map ?_; intro w5 hm5 hu5 hs5; have M5 := Lib.hid hm5; have U5 := Lib.hid hu5; clear hm5 hu5 hs5)
    obtain ⟨q1, q2, q3⟩ := undo_end (Bl := w.heap.size + 1 + 1) H.out HW.out HR.out HALL.out M5.out U5.out (by omega) hD HK.out
    refine ⟨by simp, .inl ⟨_, _, rfl, run_takeDeferred q1, ?_⟩⟩
    exact ⟨_, results_none rfl _ _ _, rfl, q2, q3⟩
end Go.Proofs.Ytgmabhfffgnjjaa
