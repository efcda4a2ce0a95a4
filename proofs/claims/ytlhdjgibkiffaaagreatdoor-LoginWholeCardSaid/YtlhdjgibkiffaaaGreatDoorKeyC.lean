/-
  PROVED HERE: Choose of package keys is the plain function. Conditions: those that each theorem names.
-/
import Derived.Test.YtlhdjgibkiffaaaGreatDoorKeyI
namespace Go.Proofs.YtlhdjgibkiffaaaGreatDoor
open Go.RowKit Go.Shelf

attribute [local go_sem] Oper.semAt_some

section
variable {P : Program}
theorem run_loadVar_one {w : World} {ty : TypeId} {a : Addr} {v : Value} (ha : (isAgg ty).run P w = .ok false w) (hc : w.cell? a = some v) : (loadVar ty a).run P w = .ok v w := by
  unfold loadVar
  rw [Sem.run_bind, ha]
  simp [Result.andThen, hc]
theorem results_cell2 {fn : Func} {p u : Tmp} {t1 t2 : TypeId} (h : fn.results = #[.cell p t1, .cell u t2]) (tmps : Array Value) {w : World} {a1 a2 : Addr} {v1 v2 : Value} (hp : tmps.getD p undef = .pointer (some a1)) (hu : tmps.getD u undef = .pointer (some a2))
    (ht1 : (isAgg t1).run P w = .ok false w) (ht2 : (isAgg t2).run P w = .ok false w) (hc1 : w.cell? a1 = some v1) (hc2 : w.cell? a2 = some v2) : (results fn tmps).run P w = .ok (.tuple #[v1, v2]) w := by
  rw [Array.getD_eq_getD_getElem?] at hp hu
  simp only [results, h]
  simp [Sem.run_bind, Result.andThen, hp, hu, asAddr, run_loadVar_one ht1 hc1, run_loadVar_one ht2 hc2]
end
/-- Between two rounds of Choose: nothing that has come is known. -/
structure ChAt (w : World) (v : Value) (own : List Txt) (xs : List Txt) (W : World) : Prop where
  bx : W.heap[w.heap.size]? = some (.cells #[v] 106 (0, 0))
  r0 : W.heap[w.heap.size + 1]? = some (.cells #[.string (txt [])] 9 (0, 0))
  r1 : W.heap[w.heap.size + 2]? = some (.cells #[.bool false] 4 (0, 0))
  no : ∀ t ∈ xs, t ∉ own
  below : Below w.heap.size w W
/-- A round has ended it. -/
def ChEnd (w : World) (own : List Txt) (c : Code) (xs : List Txt) (W : World) : Prop :=
  c = .ret ∧ ∃ ys t, xs = ys ++ [t] ∧ (∀ s ∈ ys, s ∉ own) ∧ t ∈ own ∧ W.heap[w.heap.size + 1]? = some (.cells #[.string (txt t)] 9 (0, 0)) ∧ W.heap[w.heap.size + 2]? = some (.cells #[.bool true] 4 (0, 0)) ∧ Below w.heap.size w W
theorem ChAt.lets {w : World} {v : Value} {own : List Txt} {T : List Nat} (hT : ∀ x ∈ T, w.heap.size + 2 < x) : Lets T (ChAt w v own) := fun xs A B h u =>
  ⟨u.get h.bx (fun hm => by have := hT _ hm; omega), u.get h.r0 (fun hm => by have := hT _ hm; omega), u.get h.r1 (fun hm => by have := hT _ hm; omega), h.no, h.below.trans (u.below h.below.size fun x hx => by have := hT x hx; omega)⟩
theorem ChEnd.lets {w : World} {own : List Txt} {T : List Nat} (hT : ∀ x ∈ T, w.heap.size + 2 < x) (c : Code) : Lets T (ChEnd w own c) := fun xs A B h u => by
  obtain ⟨h0, ys, t, h1, h2, h3, h4, h5, h6⟩ := h
  exact ⟨h0, ys, t, h1, h2, h3, u.get h4 (fun hm => by have := hT _ hm; omega), u.get h5 (fun hm => by have := hT _ hm; omega), h6.trans (u.below h6.size fun x hx => by have := hT x hx; omega)⟩
theorem ChAt.stored {w : World} {v : Value} {own : List Txt} {xs : List Txt} {W : World} (h : ChAt w v own xs W) (t : Txt) (q : Bool) :
    Upd [w.heap.size + 1, w.heap.size + 1 + 1] W ((W.setCell ⟨w.heap.size + 1, 0, none⟩ (.string (txt t))).setCell ⟨w.heap.size + 1 + 1, 0, none⟩ (.bool q)) ∧
    ((W.setCell ⟨w.heap.size + 1, 0, none⟩ (.string (txt t))).setCell ⟨w.heap.size + 1 + 1, 0, none⟩ (.bool q)).heap[w.heap.size + 1]? = some (.cells #[.string (txt t)] 9 (0, 0)) ∧
    ((W.setCell ⟨w.heap.size + 1, 0, none⟩ (.string (txt t))).setCell ⟨w.heap.size + 1 + 1, 0, none⟩ (.bool q)).heap[w.heap.size + 2]? = some (.cells #[.bool q] 4 (0, 0)) ∧
    Below w.heap.size w ((W.setCell ⟨w.heap.size + 1, 0, none⟩ (.string (txt t))).setCell ⟨w.heap.size + 1 + 1, 0, none⟩ (.bool q)) := by
  have u1 : Upd [w.heap.size + 1] W (W.setCell ⟨w.heap.size + 1, 0, none⟩ (.string (txt t))) := (Upd.refl _ _).setCell (.inl (by simp)) _
  have u2 : Upd [w.heap.size + 1 + 1] (W.setCell ⟨w.heap.size + 1, 0, none⟩ (.string (txt t))) ((W.setCell ⟨w.heap.size + 1, 0, none⟩ (.string (txt t))).setCell ⟨w.heap.size + 1 + 1, 0, none⟩ (.bool q)) := (Upd.refl _ _).setCell (.inl (by simp)) _
  refine ⟨(u1.mono (by simp)).trans (u2.mono (by simp)), u2.get (heap_setCell_same _ _ _ _ _ _ h.r0) (by simp), heap_setCell_same _ _ _ _ _ _ (u1.get h.r1 (by simp)), ?_⟩
  exact (h.below.trans (u1.below h.below.size (by simp))).trans (u2.below (Nat.le_trans h.below.size u1.size) (by simp; omega))
set_option maxRecDepth 100000 in
set_option maxHeartbeats 4000000 in
theorem choose_any {w : World} {v : Value} {own : List Txt} (d : Txt) (h : IsTxts w v own) (hd : d.length ≤ 9223372036854775807) :
    Calls Tryz.prog 54 #[.string (txt d), v] w fun e w' => e = .returned (.tuple #[.string (txt ((chooseFrom own [] d).getD [])), .bool (chooseFrom own [] d).isSome]) ∧ Below w.heap.size w w' := by
  obtain ⟨p, n, cap, rfl⟩ : ∃ p n cap, v = .slice p n cap := by obtain ⟨p, cap, rfl, _⟩ := h; exact ⟨_, _, _, rfl⟩
  have HS := Lib.hid (fun w => ssplit_any w d 44)
  have H := Lib.hid h
  have HD := Lib.hid hd
  clear h hd
  refine (callsIn_wide (n := 8)).1 ?_
  refine callsIn_of_wp_marks Tryz.func54 rfl trivial ?_ rfl
  simp only [Tryz.ntmps54, List.size_toArray, List.length_cons, List.length_nil, Nat.reduceAdd, Nat.reduceSub, Array.replicate_succ, Array.replicate_zero, List.push_toArray, List.append_toArray, List.nil_append, List.cons_append]
  gi_wp2_with (refine ⟨trivial, ?_⟩; gi_at_call 71; refine (callsIn_wide.2 (HS.out _)).mono ?_; rintro e w3 ⟨rfl, rfl⟩)
  obtain ⟨W0, hW0⟩ : ∃ W0, swld (((w.alloc (.cells #[.slice p n cap] 106)).alloc (.cells #[.string (txt [])] 9)).alloc (.cells #[.bool false] 4)) d 44 = W0 := ⟨_, rfl⟩
  have hb0 : SBoxes (w.heap.size + 1 + 1 + 1) 44 d W0 := by
    have := swld_boxes (((w.alloc (.cells #[.slice p n cap] 106)).alloc (.cells #[.string (txt [])] 9)).alloc (.cells #[.bool false] 4)) d 44
    rw [hW0] at this
    simpa using this
  have hs0 : W0.heap.size = w.heap.size + 6 := by rw [← hW0]; simp
  have hr0 : ChAt w (.slice p n cap) own [] W0 := by
    have e0 := heap_alloc_new w (.cells #[.slice p n cap] 106)
    have e1 := heap_alloc_new (w.alloc (.cells #[.slice p n cap] 106)) (.cells #[.string (txt [])] 9)
    have e2 := heap_alloc_new ((w.alloc (.cells #[.slice p n cap] 106)).alloc (.cells #[.string (txt [])] 9)) (.cells #[.bool false] 4)
    rw [World.size_alloc] at e1
    rw [World.size_alloc, World.size_alloc] at e2
    rw [← hW0]
    exact ⟨((((((Upd.refl [] _).alloc _).alloc _).alloc _).alloc _).alloc _).get e0 (by simp), (((((Upd.refl [] _).alloc _).alloc _).alloc _).alloc _).get e1 (by simp), ((((Upd.refl [] _).alloc _).alloc _).alloc _).get e2 (by simp), by simp,
      ((((((Upd.refl [] w).alloc _).alloc _).alloc _).alloc _).alloc _).alloc _ |>.all⟩
  have hW0' : swld (((w.alloc (.cells #[.slice p n cap] 106)).alloc (.cells #[.string { data := #[] }] 9)).alloc (.cells #[.bool false] 4)) d 44 = W0 := hW0
  rw [hW0']
  have HST := Lib.hid (sseq_stops (w.heap.size + 1 + 1 + 1) 44 d hb0 HD.out)
  have HR0 := Lib.hid hr0
  have HS0 := Lib.hid hs0
  clear hb0 hs0 hr0 hW0 hW0'
  refine wpIn_range_box (n := 8) (gf := 93) (lb := #[.pointer (some ⟨w.heap.size + 1 + 1 + 1 + 1, 0, none⟩), .pointer (some ⟨w.heap.size + 1 + 1 + 1, 0, none⟩), .pointer (some ⟨w.heap.size + 1 + 1 + 1 + 2, 0, none⟩)]) rfl (enters_of Tryz.func93 (by kernel_rfl) rfl)
    HST.out (by rw [HS0.out]; omega) (fun k hk => by rw [HS0.out]; unfold KBox at hk; omega) (fun _ => rfl)
    (ChAt w (.slice p n cap) own) (ChEnd w own) (ChAt.lets (by rw [HS0.out]; simp)) (ChEnd.lets (by rw [HS0.out]; simp)) HR0.out
    (fun x => { tmps := #[.string (txt d), .slice p n cap, undef, .pointer (some ⟨w.heap.size, 0, none⟩), .pointer (some ⟨w.heap.size + 1, 0, none⟩), .pointer (some ⟨w.heap.size + 1 + 1, 0, none⟩), .string (txt x), .string (txt d), .func (.func 93) #[] #[.pointer (some ⟨w.heap.size + 1 + 1 + 1 + 1, 0, none⟩), .pointer (some ⟨w.heap.size + 1 + 1 + 1, 0, none⟩), .pointer (some ⟨w.heap.size + 1 + 1 + 1 + 2, 0, none⟩)], .string (txt x), undef, undef, undef, undef], defers := [] }) ?assign ?body ?done ?stop
  case assign =>
    intro l x W R hR
    gi_wp2
    exact hR
  case body =>
    rintro l pre x W hc hlt _
    have HC := Lib.hid hc
    have hc0 := (cells_of hc.bx).1 0
    have hc1 := (cells_of hc.r0).1 0
    have hc2 := (cells_of hc.r1).1 0
    have hf1 := (cells_of hc.r0).2 0
    have hf2 := (cells_of hc.r1).2 0
    simp only [List.getElem?_toArray, List.getElem?_cons_zero] at hc0 hc1 hc2
    have HH := Lib.hid (has_any x (H.out.below hc.below))
    clear hc
    rcases Bool.eq_false_or_eq_true (own.contains x) with hx | hx
    · rw [hx] at HH
      have HX := Lib.hid hx
      clear hx
      gi_wp2_with (refine ⟨trivial, ?_⟩; gi_at_call 72; refine (callsIn_wide.2 HH.out).mono ?_; rintro e w2 ⟨rfl, rfl⟩)
      obtain ⟨q1, q2, q3, q4⟩ := HC.out.stored x true
      exact ⟨Keep.of_upd q1 (by rw [HS0.out]; simp), rfl, pre, x, rfl, HC.out.no, by simpa using HX.out, q2, q3, q4⟩
    · rw [hx] at HH
      have HX := Lib.hid hx
      clear hx
      gi_wp2_with (refine ⟨trivial, ?_⟩; gi_at_call 72; refine (callsIn_wide.2 HH.out).mono ?_; rintro e w2 ⟨rfl, rfl⟩)
      have hx := HX.out
      have hno : ∀ t ∈ pre ++ [x], t ∉ own := fun t ht => by
        rcases List.mem_append.1 ht with h | h
        · exact HC.out.no t h
        · rw [List.mem_singleton.1 h]; simpa using hx
      exact ⟨Keep.refl _ _, Nat.le_refl _, HC.out.bx, HC.out.r0, HC.out.r1, hno, HC.out.below⟩
  case done =>
    rintro xs W hS hc hD
    have HC := Lib.hid hc
    have hc1 := (cells_of hc.r0).1 0
    have hc2 := (cells_of hc.r1).1 0
    have hf1 := (cells_of hc.r0).2 0
    have hf2 := (cells_of hc.r1).2 0
    simp only [List.getElem?_toArray, List.getElem?_cons_zero] at hc1 hc2
    have HN := Lib.hid (choose_done hc.no hS)
    have HD := Lib.hid hD
    clear hc hS hD
    gi_wp2
    obtain ⟨q1, q2, q3, q4⟩ := HC.out.stored [] false
    have hD2 := q1.get HD.out (by rw [HS0.out]; simp)
    have u3 := upd_put ((W.setCell ⟨w.heap.size + 1, 0, none⟩ (.string (txt []))).setCell ⟨w.heap.size + 1 + 1, 0, none⟩ (.bool false)) W0.heap.size (.deferred none)
    refine ⟨by simp, .inl ⟨_, _, rfl, run_takeDeferred hD2, ?_⟩⟩
    refine ⟨_, results_cell2 rfl _ rfl rfl (Tryz.isAgg9 _) (Tryz.isAgg4 _) ((cells_of (u3.get q2 (by rw [HS0.out]; simp))).1 0) ((cells_of (u3.get q3 (by rw [HS0.out]; simp))).1 0), ?_, q4.trans (u3.below (by have := q4.size; omega) (by rw [HS0.out]; simp))⟩
    rw [HN.out]; rfl
  case stop =>
    rintro c pre W hSp ⟨rfl, ys, t, rfl, h1, h2, h3, h4, h5⟩ hD
    have HN := Lib.hid (choose_stop h1 h2 hSp)
    clear hSp h1 h2
    gi_wp2
    have u3 := upd_put W W0.heap.size (.deferred none)
    refine ⟨by simp, .inl ⟨_, _, rfl, run_takeDeferred hD, ?_⟩⟩
    refine ⟨_, results_cell2 rfl _ rfl rfl (Tryz.isAgg9 _) (Tryz.isAgg4 _) ((cells_of (u3.get h3 (by rw [HS0.out]; simp))).1 0) ((cells_of (u3.get h4 (by rw [HS0.out]; simp))).1 0), ?_, h5.trans (u3.below h5.size (by rw [HS0.out]; simp))⟩
    rw [HN.out]; rfl
end Go.Proofs.YtlhdjgibkiffaaaGreatDoor
