/-
  PROVED HERE: a step on both disks: a write. Conditions: those that each theorem names.
-/
import Derived.Test.YtpnpjffhkaejgaaDoesD
namespace Go.Proofs.Ytpnpjffhkaejgaa
open Go.RowKit

theorem KRow.safe {w : World} {C B : Nat} {K1 K : List (Nat × Obj)} {v : Value} {l : List Nat} {w1 : World} (hk : KRow C K1 v) (hr : IsRow w1 B v l) (hK : ∀ p ∈ K1, p ∈ K) {a : Option Addr} {n cap : Nat} (ha : v = .slice a n cap) : Safe w K a := fun b o e => by
  subst ha
  subst e
  obtain ⟨c, hc⟩ := hk.1 b (by
    obtain ⟨a', cap', e, _, h, _⟩ := hr.slice
    cases e
    exact (h b o rfl).1)
  exact .inr ⟨c, hK _ hc⟩
theorem IsRow.bytes {w : World} {B n cap : Nat} {a : Option Addr} {l : List Nat} (h : IsRow w B (.slice a n cap) l) : IsBytes w a l := by
  obtain ⟨a', cap', e, hb, _⟩ := h.slice
  cases e
  exact hb
set_option maxRecDepth 100000 in
set_option maxHeartbeats 3200000 in
theorem does_write {w0 w : World} {d r : Nat} {K : List (Nat × Obj)} {S : Dk} (h : Two w0 w d r K S S) (a c b f : Int) (u : Bool) (p : Value) (hB : ∀ i, i < S.n → (S.sec i).ver.length ≤ 2000000000000) :
    Calls Try.prog 19 #[.pointer (some ⟨d, 0, none⟩), .pointer (some ⟨r, 0, none⟩), .agg #[.int .i64 1, .int .i64 a, .int .i64 c, .int .i64 b, .int .i64 f, .bool u, p]] w (DoesOut w0 d r K (S.write a (opData c b f) u).2) := by
  have HVL := Lib.hid hB
  have hb := h.keep ((Upd.refl [] w).alloc (.cells (opCells 1 a c b f u p) 29)) (Nat.le_refl _) (heap_alloc_new w _)
  have HDT := Lib.hid (t_data hb 1 a c b f u p)
  have HLE := Lib.hid (show (opData c b f).length ≤ 5375 by rw [opData_len]; exact opLen_le c b)
  have HB := Lib.hid hb
  obtain ⟨c0, c1, c2, c3, c4, c5, c6⟩ := op_cells7 (heap_alloc_new w (.cells (opCells 1 a c b f u p) 29))
  unfold opCells at c0 c1 c2 c3 c4 c5 c6
  clear h hb hB
  go_enter Try.func19, Try.ntmps19
  go_wp2_with fail
  (with_reducible refine HDT.out.mono ?_)
  rintro e w1 ⟨v1, K1, rfl, r1, k1, h1⟩
  have HDT2 := Lib.hid (t_data h1 1 a c b f u p)
  obtain ⟨c0', c1', c2', c3', c4', c5', c6'⟩ := op_cells7 (h1.get (List.mem_append_right K1 (List.mem_cons_self ..)))
  have R1 := Lib.hid r1
  have HK1 := Lib.hid k1
  have H1 := Lib.hid h1
  clear r1 k1 h1 c0 c1 c2 c3 c4 c5 c6
  go_wp2_with fail
  (with_reducible refine HDT2.out.mono ?_)
  rintro e w2 ⟨v2, K2, rfl, r2, k2, h2⟩
  have r1 := HK1.out.row R1.out H1.out h2 fun p hp => List.mem_append_right _ (List.mem_append_left _ hp)
  obtain ⟨a2, cap2, e2, hy2, _, hp2, hq2⟩ := r2.slice
  obtain ⟨a1, cap1, e1, hy1, _, hp1, hq1⟩ := r1.slice
  have hw1 := td_write (cap := cap1) (h2.up (Upd.drew (Upd.refl [] w2))) a u (hy1.upd (Upd.drew (Upd.refl [] w2)) (by simp)) (HK1.out.safe r1 (fun p hp => List.mem_append_right _ (List.mem_append_left _ hp)) e1) rfl hp1 hq1 HVL.out
  have hs2 := k2.safe (w := w0) (K := K2 ++ (K1 ++ (w.heap.size, Obj.cells (opCells 1 a c b f u p) 29 (0, 0)) :: K)) r2 (fun p hp => List.mem_append_left _ hp) e2
  obtain ⟨e0, S', he⟩ : ∃ e0 S', S.write a (opData c b f) u = (e0, S') := ⟨_, _, rfl⟩
  rw [he] at hw1 ⊢
  dsimp only at hw1 ⊢
  have HW1 := Lib.hid hw1
  have HE := Lib.hid he
  have HS2 := Lib.hid hs2
  have R1' := Lib.hid r1
  have R2 := Lib.hid r2
  have HK2 := Lib.hid k2
  have H2 := Lib.hid h2
  have HC := Lib.hid (And.intro hp2 hq2)
  obtain ⟨d0, d1, d2, d3, d4, d5, d6⟩ := op_cells7 (h2.get (List.mem_append_right K2 (List.mem_append_right K1 (List.mem_cons_self ..))))
  subst e1
  subst e2
  clear r1 r2 k2 h2 hw1 he hs2 hy1 hy2 hp1 hp2 hq1 hq2 c0' c1' c2' c3' c4' c5' c6'
  generalize hn : (opData c b f).length = n at *
  have HN := Lib.hid hn
  clear hn
  have hn63 : n ≤ 9223372036854775807 := by have := HLE.out; omega
  go_wp2_with fail
  refine wp_region_order (fun W' => W'.cell? ⟨w.heap.size, 1, none⟩ = some (.int .i64 a) ∧ W'.cell? ⟨w.heap.size, 5, none⟩ = some (.bool u)) [0, 1, 2, 3, 4, 5, 7, 8, 9, 10, 11, 12] [[6, 13, 14, 15]] 4 rfl (by kernel_rfl) ⟨d1, d5⟩ ?_
  simp only [List.map_cons, List.map_nil, opAt]
  iterate 12
    apply reads_step rfl
    · intro wq hq
      obtain ⟨q1, q2⟩ := hq
      go_simp
      all_goals with_reducible rfl
    simp only [Act.put, List.setIfInBounds_toArray, List.set_cons_zero, List.set_cons_succ]
  refine ⟨?_, trivial⟩
  simp only [List.map_cons, List.map_nil, opAt]
  refine tail_call rfl (exec_call rfl (vs := [.pointer (some ⟨d, 0, none⟩), .int .i64 a, .slice a1 n cap1, .bool u]) rfl (enters_of Try.func13 (by kernel_rfl) rfl)) HW1.out ?_
  rintro e w3 ⟨rfl, h3⟩
  obtain ⟨g0, g1, g2, g3, g4, g5, g6⟩ := op_cells7 (h3.get (List.mem_append_right K2 (List.mem_append_right K1 (List.mem_cons_self ..))))
  refine ⟨_, rfl, ⟨g1, g5⟩, ?_⟩
  simp only [Act.put, List.setIfInBounds_toArray, List.set_cons_zero, List.set_cons_succ]
  have r2 := HK2.out.row R2.out H2.out h3 fun p hp => List.mem_append_left _ hp
  have hy2 := r2.bytes
  have hw2 := tr_write (cap := cap2) h3 a u hy2 HS2.out HN.out (by have := HC.out.1; omega) (by have := HC.out.2; omega) HVL.out
  rw [HE.out] at hw2
  dsimp only at hw2
  refine tail_call rfl (exec_call rfl (vs := [.pointer (some ⟨r, 0, none⟩), .int .i64 a, .slice a2 n cap2, .bool u]) rfl (enters_of Try.func34 (by kernel_rfl) rfl)) hw2 ?_
  rintro e w4 ⟨rfl, h4⟩
  obtain ⟨m0, m1, m2, m3, m4, m5, m6⟩ := op_cells7 (h4.get (List.mem_append_right K2 (List.mem_append_right K1 (List.mem_cons_self ..))))
  refine ⟨_, rfl, ⟨m1, m5⟩, ?_⟩
  simp only [Act.put, List.setIfInBounds_toArray, List.set_cons_zero, List.set_cons_succ]
  have hlow := HB.out.low
  have r1 := HK1.out.row R1.out H1.out h4 fun p hp => List.mem_append_right _ (List.mem_append_left _ hp)
  have HR4 := Lib.hid (HK1.out.rowT (K := K) r1 h4 (fun p hp => List.mem_append_right _ (List.mem_append_left _ hp)) (fun p hp => ⟨List.mem_append_right _ (List.mem_append_right _ (List.mem_cons_of_mem _ hp)), hlow p (List.mem_cons_of_mem _ hp)⟩) (by have := HB.out.size.size; exact this) HN.out)
  clear hlow r1 r2 h3 h4 hw2 hy2
  refine ⟨rfl, ?_⟩
  go_simp
  refine ⟨rfl, ?_⟩
  go_simp
  dsimp only [OnlyN, Exit.then, wpTail, Exit.inBlock]
  clear g0 g1 g2 g3 g4 g5 g6 m0 m1 m2 m3 m4 m5 m6 d0 d1 d2 d3 d4 d5 d6
  go_wp2
  go_loopw [16] (fun i wr => ∃ j : Nat, j ≤ n ∧ i = .int .i64 j ∧ RowT w0 wr d r K S' S' (.slice a1 n cap1) n) (fun i _ => n - (intOf i).toNat)
  case atStart => exact ⟨0, by omega, rfl, HR4.out⟩
  case round =>
    obtain ⟨j, hj, rfl, hU⟩ := hrel
    by_cases hlt : j < n
    · obtain ⟨g, cap, e1, ⟨y, hy⟩, hz, hset⟩ := hU.at hlt
      cases e1
      have HS := Lib.hid hset
      clear hU hset
      go_wp2
      go_roundw
      case rel => exact ⟨j + 1, by omega, by go_num, HS.out _⟩
      case measure => simp [intOf]; omega
    · obtain rfl : j = n := by omega
      have HU := Lib.hid hU
      clear hU
      go_wp2
      go_ret
      refine ⟨rfl, ?_⟩
      rw [HE.out]
      exact HU.out.two
end Go.Proofs.Ytpnpjffhkaejgaa
