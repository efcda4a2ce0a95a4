/-
  PROVED HERE: a step on both disks: flush, fail, cut, crash, none. Conditions: those that each theorem names.
-/
import Derived.Test.YtpnpjffhkaejgaaDoesE
namespace Go.Proofs.Ytpnpjffhkaejgaa
open Go.RowKit

/-- What lies where neither disk does stays. -/
theorem Safe.ints {n : Nat} {w0 w w1 : World} {d r : Nat} {K K' : List (Nat × Obj)} {S T S' T' : Dk} {a : Option Addr} {l : List Int} (hs : 0 < n → Safe w0 K a) (hn : l.length = n) (hp : IsIntsAt w a l) (h : Two w0 w d r K S T) (h1 : Two w0 w1 d r K' S' T') (hk : ∀ p ∈ K, p ∈ K') : IsIntsAt w1 a l := fun i hi => by
  obtain ⟨b, o, e, hc⟩ := hp i hi
  refine ⟨b, o, e, ?_⟩
  rw [← hc]
  refine World.cell?_of_block ?_
  rcases hs (by omega) b o e with q | ⟨c, q⟩
  · rw [h1.size.block b q (by simp), h.size.block b q (by simp)]
  · rw [h1.get (hk _ q), h.get q]
set_option maxRecDepth 100000 in
set_option maxHeartbeats 3200000 in
theorem does_flush {w0 w : World} {d r : Nat} {K : List (Nat × Obj)} {S : Dk} (h : Two w0 w d r K S S) (a c b f : Int) (u : Bool) (p : Value) :
    Calls Try.prog 19 #[.pointer (some ⟨d, 0, none⟩), .pointer (some ⟨r, 0, none⟩), .agg #[.int .i64 2, .int .i64 a, .int .i64 c, .int .i64 b, .int .i64 f, .bool u, p]] w (DoesOut w0 d r K (S.flush.2)) := by
  have hb := h.keep ((Upd.refl [] w).alloc (.cells (opCells 2 a c b f u p) 29)) (Nat.le_refl _) (heap_alloc_new w _)
  obtain ⟨c0, c1, c2, c3, c4, c5, c6⟩ := op_cells7 (heap_alloc_new w (.cells (opCells 2 a c b f u p) 29))
  unfold opCells at c0 c1 c2 c3 c4 c5 c6
  have hx := td_flush hb
  obtain ⟨e0, S', he⟩ : ∃ e0 S', S.flush = (e0, S') := ⟨_, _, rfl⟩
  rw [he] at hx ⊢
  dsimp only at hx ⊢
  have HX := Lib.hid hx
  have HE := Lib.hid he
  clear h hb hx he
  go_enter Try.func19, Try.ntmps19
  go_wp2_with fail
  (with_reducible refine HX.out.mono ?_)
  rintro e w1 ⟨rfl, h1⟩
  have hy := tr_flush h1
  rw [HE.out] at hy
  dsimp only at hy
  have HY := Lib.hid hy
  clear h1 hy
  go_wp2_with fail
  (with_reducible refine HY.out.mono ?_)
  rintro e w2 ⟨rfl, h2⟩
  have H2 := Lib.hid (h2.drop (K' := K) fun p hp => List.mem_cons_of_mem _ hp)
  clear h2
  go_wp2
  go_ret
  exact ⟨rfl, H2.out⟩
set_option maxRecDepth 100000 in
set_option maxHeartbeats 3200000 in
theorem does_fail {w0 w : World} {d r : Nat} {K : List (Nat × Obj)} {S : Dk} (h : Two w0 w d r K S S) (a c b f : Int) (u : Bool) (p : Value) :
    Calls Try.prog 19 #[.pointer (some ⟨d, 0, none⟩), .pointer (some ⟨r, 0, none⟩), .agg #[.int .i64 3, .int .i64 a, .int .i64 c, .int .i64 b, .int .i64 f, .bool u, p]] w (DoesOut w0 d r K ((S.fail a c).2)) := by
  have hb := h.keep ((Upd.refl [] w).alloc (.cells (opCells 3 a c b f u p) 29)) (Nat.le_refl _) (heap_alloc_new w _)
  obtain ⟨c0, c1, c2, c3, c4, c5, c6⟩ := op_cells7 (heap_alloc_new w (.cells (opCells 3 a c b f u p) 29))
  unfold opCells at c0 c1 c2 c3 c4 c5 c6
  have hx := td_fail (hb.up (Upd.drew (Upd.refl [] _))) a c
  obtain ⟨e0, S', he⟩ : ∃ e0 S', S.fail a c = (e0, S') := ⟨_, _, rfl⟩
  rw [he] at hx ⊢
  dsimp only at hx ⊢
  have HX := Lib.hid hx
  have HE := Lib.hid he
  clear h hb hx he
  go_enter Try.func19, Try.ntmps19
  go_wp2_with fail
  refine wp_region_order (fun W' => W'.cell? ⟨w.heap.size, 1, none⟩ = some (.int .i64 a) ∧ W'.cell? ⟨w.heap.size, 2, none⟩ = some (.int .i64 c)) [0, 1, 2, 3, 4, 6, 7, 8, 9, 10] [[5, 11, 12, 13]] 4 rfl (by kernel_rfl) ⟨c1, c2⟩ ?_
  simp only [List.map_cons, List.map_nil, opAt]
  iterate 10
    apply reads_step rfl
    · intro wq hq
      obtain ⟨q1, q2⟩ := hq
      go_simp
      all_goals with_reducible rfl
    simp only [Act.put, List.setIfInBounds_toArray, List.set_cons_zero, List.set_cons_succ]
  refine ⟨?_, trivial⟩
  simp only [List.map_cons, List.map_nil, opAt]
  refine tail_call rfl (exec_call rfl (vs := [.pointer (some ⟨d, 0, none⟩), .int .i64 a, .int .i64 c]) rfl (enters_of Try.func11 (by kernel_rfl) rfl)) HX.out ?_
  rintro e w3 ⟨rfl, h3⟩
  obtain ⟨g0, g1, g2, g3, g4, g5, g6⟩ := op_cells7 (h3.get (List.mem_cons_self ..))
  refine ⟨_, rfl, ⟨g1, g2⟩, ?_⟩
  simp only [Act.put, List.setIfInBounds_toArray, List.set_cons_zero, List.set_cons_succ]
  have hw2 := tr_fail h3 a c
  rw [HE.out] at hw2
  dsimp only at hw2
  refine tail_call rfl (exec_call rfl (vs := [.pointer (some ⟨r, 0, none⟩), .int .i64 a, .int .i64 c]) rfl (enters_of Try.func36 (by kernel_rfl) rfl)) hw2 ?_
  rintro e w4 ⟨rfl, h4⟩
  obtain ⟨m0, m1, m2, m3, m4, m5, m6⟩ := op_cells7 (h4.get (List.mem_cons_self ..))
  refine ⟨_, rfl, ⟨m1, m2⟩, ?_⟩
  simp only [Act.put, List.setIfInBounds_toArray, List.set_cons_zero, List.set_cons_succ]
  have H4 := Lib.hid (h4.drop (K' := K) fun p hp => List.mem_cons_of_mem _ hp)
  clear h3 h4 hw2
  refine ⟨rfl, ?_⟩
  go_simp
  refine ⟨rfl, ?_⟩
  go_simp
  dsimp only [OnlyN, Exit.then, wpTail, Exit.inBlock]
  clear g0 g1 g2 g3 g4 g5 g6 m0 m1 m2 m3 m4 m5 m6 c0 c1 c2 c3 c4 c5 c6
  go_wp2
  go_ret
  exact ⟨rfl, H4.out⟩
set_option maxRecDepth 100000 in
set_option maxHeartbeats 3200000 in
theorem does_cut {w0 w : World} {d r : Nat} {K : List (Nat × Obj)} {S : Dk} (h : Two w0 w d r K S S) (a c b f : Int) (u : Bool) (p : Value) :
    Calls Try.prog 19 #[.pointer (some ⟨d, 0, none⟩), .pointer (some ⟨r, 0, none⟩), .agg #[.int .i64 4, .int .i64 a, .int .i64 c, .int .i64 b, .int .i64 f, .bool u, p]] w (DoesOut w0 d r K ((S.cut c).2)) := by
  have hb := h.keep ((Upd.refl [] w).alloc (.cells (opCells 4 a c b f u p) 29)) (Nat.le_refl _) (heap_alloc_new w _)
  obtain ⟨c0, c1, c2, c3, c4, c5, c6⟩ := op_cells7 (heap_alloc_new w (.cells (opCells 4 a c b f u p) 29))
  unfold opCells at c0 c1 c2 c3 c4 c5 c6
  have hx := td_cut (hb.up (Upd.drew (Upd.refl [] _))) c
  obtain ⟨e0, S', he⟩ : ∃ e0 S', S.cut c = (e0, S') := ⟨_, _, rfl⟩
  rw [he] at hx ⊢
  dsimp only at hx ⊢
  have HX := Lib.hid hx
  have HE := Lib.hid he
  clear h hb hx he
  go_enter Try.func19, Try.ntmps19
  go_wp2_with fail
  refine wp_region_order (fun W' => W'.cell? ⟨w.heap.size, 2, none⟩ = some (.int .i64 c)) [0, 1, 2, 4, 5, 6] [[3, 7, 8, 9]] 4 rfl (by kernel_rfl) c2 ?_
  simp only [List.map_cons, List.map_nil, opAt]
  iterate 6
    apply reads_step rfl
    · intro wq hq
      skip
      go_simp
      all_goals with_reducible rfl
    simp only [Act.put, List.setIfInBounds_toArray, List.set_cons_zero, List.set_cons_succ]
  refine ⟨?_, trivial⟩
  simp only [List.map_cons, List.map_nil, opAt]
  refine tail_call rfl (exec_call rfl (vs := [.pointer (some ⟨d, 0, none⟩), .int .i64 c]) rfl (enters_of Try.func16 (by kernel_rfl) rfl)) HX.out ?_
  rintro e w3 ⟨rfl, h3⟩
  obtain ⟨g0, g1, g2, g3, g4, g5, g6⟩ := op_cells7 (h3.get (List.mem_cons_self ..))
  refine ⟨_, rfl, g2, ?_⟩
  simp only [Act.put, List.setIfInBounds_toArray, List.set_cons_zero, List.set_cons_succ]
  have hw2 := tr_cut h3 c
  rw [HE.out] at hw2
  dsimp only at hw2
  refine tail_call rfl (exec_call rfl (vs := [.pointer (some ⟨r, 0, none⟩), .int .i64 c]) rfl (enters_of Try.func37 (by kernel_rfl) rfl)) hw2 ?_
  rintro e w4 ⟨rfl, h4⟩
  obtain ⟨m0, m1, m2, m3, m4, m5, m6⟩ := op_cells7 (h4.get (List.mem_cons_self ..))
  refine ⟨_, rfl, m2, ?_⟩
  simp only [Act.put, List.setIfInBounds_toArray, List.set_cons_zero, List.set_cons_succ]
  have H4 := Lib.hid (h4.drop (K' := K) fun p hp => List.mem_cons_of_mem _ hp)
  clear h3 h4 hw2
  refine ⟨rfl, ?_⟩
  go_simp
  refine ⟨rfl, ?_⟩
  go_simp
  dsimp only [OnlyN, Exit.then, wpTail, Exit.inBlock]
  clear g0 g1 g2 g3 g4 g5 g6 m0 m1 m2 m3 m4 m5 m6 c0 c1 c2 c3 c4 c5 c6
  go_wp2
  go_ret
  exact ⟨rfl, H4.out⟩
set_option maxRecDepth 100000 in
set_option maxHeartbeats 3200000 in
theorem does_crash {w0 w : World} {d r : Nat} {K : List (Nat × Obj)} {S : Dk} (h : Two w0 w d r K S S) (a c b f : Int) (u : Bool) {pa : Option Addr} {n pc : Nat} {picks : List Int} (hp : IsIntsAt w pa picks) (hpf : 0 < n → Safe w0 K pa) (hn : picks.length = n) (hpl : n ≤ 9223372036854775807) (hB : ∀ i, i < S.n → (S.sec i).ver.length ≤ 2000000000000) :
    Calls Try.prog 19 #[.pointer (some ⟨d, 0, none⟩), .pointer (some ⟨r, 0, none⟩), .agg #[.int .i64 5, .int .i64 a, .int .i64 c, .int .i64 b, .int .i64 f, .bool u, (.slice pa n pc)]] w (DoesOut w0 d r K (S.crash picks)) := by
  have hb := h.keep ((Upd.refl [] w).alloc (.cells (opCells 5 a c b f u (.slice pa n pc)) 29)) (Nat.le_refl _) (heap_alloc_new w _)
  obtain ⟨c0, c1, c2, c3, c4, c5, c6⟩ := op_cells7 (heap_alloc_new w (.cells (opCells 5 a c b f u (.slice pa n pc)) 29))
  unfold opCells at c0 c1 c2 c3 c4 c5 c6
  have hsf : ∀ x, 0 < n → Safe w0 (x :: K) pa := fun x h0 b o e => by
    rcases hpf h0 b o e with q | ⟨c, q⟩
    · exact .inl q
    · exact .inr ⟨c, List.mem_cons_of_mem _ q⟩
  have hp1 := hp.up ((Upd.refl [] w).alloc (.cells (opCells 5 a c b f u (.slice pa n pc)) 29)) (by simp)
  have HX := Lib.hid (td_crash (pc := pc) hb hp1 (hsf _) hn hpl hB)
  have HSF := Lib.hid hsf
  have HN := Lib.hid hn
  have HVL := Lib.hid hB
  have HPL := Lib.hid hpl
  have HP := Lib.hid hp
  have HPF := Lib.hid hpf
  have HW := Lib.hid h
  clear h hb hp1 hsf hn hB hpf hpl hp
  go_enter Try.func19, Try.ntmps19
  go_wp2_with fail
  (with_reducible refine HX.out.mono ?_)
  rintro e w1 ⟨rfl, h1⟩
  obtain ⟨g0, g1, g2, g3, g4, g5, g6⟩ := op_cells7 (h1.get (List.mem_cons_self ..))
  have hp1 := Safe.ints HPF.out HN.out HP.out HW.out h1 fun p hp => List.mem_cons_of_mem _ hp
  have HY := Lib.hid (tr_crash (pc := pc) h1 hp1 (HSF.out _) HN.out HPL.out HVL.out)
  clear h1 hp1 c0 c1 c2 c3 c4 c5 c6
  go_wp2_with fail
  (with_reducible refine HY.out.mono ?_)
  rintro e w2 ⟨rfl, h2⟩
  have H2 := Lib.hid (h2.drop (K' := K) fun p hp => List.mem_cons_of_mem _ hp)
  clear h2 g0 g1 g2 g3 g4 g5 g6
  go_wp2
  go_ret
  exact ⟨rfl, H2.out⟩
set_option maxRecDepth 100000 in
set_option maxHeartbeats 3200000 in
theorem does_none {w0 w : World} {d r : Nat} {K : List (Nat × Obj)} {S : Dk} (h : Two w0 w d r K S S) (k a c b f : Int) (u : Bool) (p : Value) (h0 : k ≠ 0) (h1 : k ≠ 1) (h2 : k ≠ 2) (h3 : k ≠ 3) (h4 : k ≠ 4) (h5 : k ≠ 5) :
    Calls Try.prog 19 #[.pointer (some ⟨d, 0, none⟩), .pointer (some ⟨r, 0, none⟩), .agg #[.int .i64 k, .int .i64 a, .int .i64 c, .int .i64 b, .int .i64 f, .bool u, p]] w (DoesOut w0 d r K S) := by
  have H := Lib.hid (h.up ((Upd.refl [] w).alloc (.cells (opCells k a c b f u p) 29)))
  obtain ⟨c0, c1, c2, c3, c4, c5, c6⟩ := op_cells7 (heap_alloc_new w (.cells (opCells k a c b f u p) 29))
  unfold opCells at c0 c1 c2 c3 c4 c5 c6
  have e0 : (k == 0) = false := by simpa using h0
  have e1 : (k == 1) = false := by simpa using h1
  have e2 : (k == 2) = false := by simpa using h2
  have e3 : (k == 3) = false := by simpa using h3
  have e4 : (k == 4) = false := by simpa using h4
  have e5 : (k == 5) = false := by simpa using h5
  clear h h0 h1 h2 h3 h4 h5
  go_enter Try.func19, Try.ntmps19
  go_wp2
  go_ret
  exact ⟨rfl, H.out⟩
theorem does_any {w0 w : World} {d r : Nat} {K : List (Nat × Obj)} {S : Dk} (h : Two w0 w d r K S S) (k a c b f : Int) (u : Bool) {pa : Option Addr} {n pc : Nat} {picks : List Int} (hp : IsIntsAt w pa picks) (hpf : 0 < n → Safe w0 K pa) (hn : picks.length = n) (hpl : n ≤ 9223372036854775807) (hB : ∀ i, i < S.n → (S.sec i).ver.length ≤ 2000000000000) :
    Calls Try.prog 19 #[.pointer (some ⟨d, 0, none⟩), .pointer (some ⟨r, 0, none⟩), .agg #[.int .i64 k, .int .i64 a, .int .i64 c, .int .i64 b, .int .i64 f, .bool u, .slice pa n pc]] w (DoesOut w0 d r K (S.step k a c b f u picks)) := by
  unfold Dk.step
  split
  · rename_i e; subst e; exact does_read h a c b f u _
  split
  · rename_i e; subst e; exact does_write h a c b f u _ hB
  split
  · rename_i e; subst e; exact does_flush h a c b f u _
  split
  · rename_i e; subst e; exact does_fail h a c b f u _
  split
  · rename_i e; subst e; exact does_cut h a c b f u _
  split
  · rename_i e; subst e; exact does_crash h a c b f u hp hpf hn hpl hB
  · exact does_none h k a c b f u _ ‹_› ‹_› ‹_› ‹_› ‹_› ‹_›
end Go.Proofs.Ytpnpjffhkaejgaa
