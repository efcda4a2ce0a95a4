/-
  PROVED HERE: the document's counts in memory: Many, New, Get, Add, Settle, Undo. Conditions: those that each theorem names.
-/
import Derived.Test.YtgmabhfffgnjjaaCntL
namespace Go.Proofs.Ytgmabhfffgnjjaa
open Go.RowKit

structure IsR (w : World) (b g h : Nat) (s : Ct) : Prop where
  ok : s.Ok
  hd : w.heap[b]? = some (.cells #[.slice (some ⟨g, 0, none⟩) s.now.length s.now.length, .slice (some ⟨h, 0, none⟩) s.now.length s.now.length] 58 (0, 0))
  row : w.heap[g]? = some (.cells (i64s s.now).toArray 3 (0, 0))
  was : w.heap[h]? = some (.cells (i64s s.old).toArray 3 (0, 0))
  ne : g ≠ h
theorem IsR.apart {w : World} {b g h : Nat} {s : Ct} (H : IsR w b g h s) : b ≠ g ∧ b ≠ h := ⟨cne H.hd H.row (by decide), cne H.hd H.was (by decide)⟩
theorem IsR.upd {w w' : World} {b g h : Nat} {s : Ct} {S : List Nat} (H : IsR w b g h s) (u : Upd S w w') (h1 : b ∉ S) (h2 : g ∉ S) (h3 : h ∉ S) : IsR w' b g h s := ⟨H.ok, u.get H.hd h1, u.get H.row h2, u.get H.was h3, H.ne⟩
theorem IsR.stay {w w' : World} {b g h : Nat} {s : Ct} (H : IsR w b g h s) (u : Upd [] w w') : IsR w' b g h s := H.upd u (by simp) (by simp) (by simp)
theorem IsR.head {w : World} {b g h : Nat} {s : Ct} (H : IsR w b g h s) : w.cell? ⟨b, 0, none⟩ = some (.slice (some ⟨g, 0, none⟩) s.now.length s.now.length) ∧ w.cell? ⟨b, 1, none⟩ = some (.slice (some ⟨h, 0, none⟩) s.now.length s.now.length) := by
  obtain ⟨k, _⟩ := cells_of H.hd
  exact ⟨k 0, k 1⟩
theorem rmany_no (n : Int) (h : n < 16 ∨ 1024 < n) (w : World) : Calls Try.prog 17 #[.int .i64 n] w fun e w' => e = .returned (.int .i64 0) ∧ w = w' := by
  rcases h with h | h
  · go_enter Try.func17, Try.ntmps17
    go_wp2
    go_ret
    exact ⟨rfl, rfl⟩
  · have h' : ¬ n < 16 := by omega
    go_enter Try.func17, Try.ntmps17
    go_wp2
    go_ret
    exact ⟨rfl, rfl⟩
set_option maxHeartbeats 800000 in
theorem rmany_yes (n : Nat) (h1 : 16 ≤ n) (h2 : n ≤ 1024) (w : World) : Calls Try.prog 17 #[.int .i64 n] w fun e w' => e = .returned (.int .i64 (manyOf n : Nat)) ∧ w = w' := by
  have h1' : ¬ (n : Int) < 16 := by omega
  have h2' : ¬ 1024 < (n : Int) := by omega
  have hm : 120 * manyOf n < n + 120 ∧ n ≤ 120 * manyOf n := by unfold manyOf; omega
  have HM := Lib.hid hm
  have hm9 : manyOf n ≤ 9 := by unfold manyOf; omega
  clear hm
  go_enter Try.func17, Try.ntmps17
  go_wp2
  go_loop [3] (fun i => ∃ k : Nat, k ≤ manyOf n ∧ i = .int .i64 k) (fun i => manyOf n - (RowKit.intOf i).toNat)
  case atStart => exact ⟨0, by omega, rfl⟩
  case round =>
    obtain ⟨k, hk, rfl⟩ := hrel
    have hmm := HM.out
    by_cases hlt : k < manyOf n
    · have ht : (k : Int) * 120 < (n : Int) := by omega
      go_wp2
      go_round
      case rel => exact ⟨k + 1, by omega, by go_num⟩
      case measure => simp [RowKit.intOf]; omega
    · have e : k = manyOf n := by omega
      have ht : ¬ (k : Int) * 120 < (n : Int) := by omega
      have HE := Lib.hid e
      clear e hlt hmm
      go_wp2
      go_ret
      rw [← HE.out]
      exact ⟨rfl, rfl⟩
theorem rnew_no (n : Int) (h : n < 16 ∨ 1024 < n) (w : World) : Calls Try.prog 16 #[.int .i64 n] w fun e w' => e = .returned (.pointer none) ∧ w = w' := by
  rcases h with h | h
  · go_enter Try.func16, Try.ntmps16
    go_wp2
    go_ret
    exact ⟨rfl, rfl⟩
  · have h' : ¬ n < 16 := by omega
    go_enter Try.func16, Try.ntmps16
    go_wp2
    go_ret
    exact ⟨rfl, rfl⟩
def NewR (w : World) (n : Nat) (e : Ending) (w' : World) : Prop := ∃ b g h, e = .returned (.pointer (some ⟨b, 0, none⟩)) ∧ IsR w' b g h (Ct.new n) ∧ w.heap.size ≤ b ∧ w.heap.size ≤ g ∧ w.heap.size ≤ h
theorem isR_new (w : World) (n : Nat) (h1 : 16 ≤ n) (h2 : n ≤ 1024) (g h : Nat) (hgh : (g = w.heap.size ∧ h = w.heap.size + 1) ∨ (g = w.heap.size + 1 ∧ h = w.heap.size)) :
    IsR (((w.alloc (.cells (i64s (List.replicate n 0)).toArray 3)).alloc (.cells (i64s (List.replicate n 0)).toArray 3)).alloc (.cells #[.slice (some ⟨g, 0, none⟩) n n, .slice (some ⟨h, 0, none⟩) n n] 58)) (w.heap.size + 1 + 1) g h (Ct.new n) := by
  have e1 : (w.alloc (.cells (i64s (List.replicate n 0)).toArray 3)).heap.size = w.heap.size + 1 := World.size_alloc _ _
  have k0 := (((Upd.refl [] _).alloc (.cells (i64s (List.replicate n 0)).toArray 3)).alloc (.cells #[.slice (some ⟨g, 0, none⟩) n n, .slice (some ⟨h, 0, none⟩) n n] 58)).get (heap_alloc_new w (.cells (i64s (List.replicate n 0)).toArray 3)) (by simp)
  have k1 := ((Upd.refl [] _).alloc (.cells #[.slice (some ⟨g, 0, none⟩) n n, .slice (some ⟨h, 0, none⟩) n n] 58)).get (heap_alloc_new (w.alloc (.cells (i64s (List.replicate n 0)).toArray 3)) (.cells (i64s (List.replicate n 0)).toArray 3)) (by simp)
  rw [e1] at k1
  refine ⟨Ct.new_ok h1 h2, ?_, ?_, ?_, by omega⟩
  · have := heap_alloc_new ((w.alloc (.cells (i64s (List.replicate n 0)).toArray 3)).alloc (.cells (i64s (List.replicate n 0)).toArray 3)) (.cells #[.slice (some ⟨g, 0, none⟩) n n, .slice (some ⟨h, 0, none⟩) n n] 58)
    rw [World.size_alloc, e1] at this
    rw [this, Ct.new_len]
  · rcases hgh with ⟨rfl, _⟩ | ⟨rfl, _⟩
    · exact k0
    · exact k1
  · rcases hgh with ⟨_, rfl⟩ | ⟨_, rfl⟩
    · exact k1
    · exact k0
set_option maxRecDepth 100000 in
set_option maxHeartbeats 1600000 in
theorem rnew_yes {w : World} (n : Nat) (h1 : 16 ≤ n) (h2 : n ≤ 1024) : Calls Try.prog 16 #[.int .i64 (n : Nat)] w fun e w' => NewR w n e w' ∧ Upd [] w w' := by
  obtain ⟨i0, hi, hz0, hz1, hz2⟩ := info_parts infoInt
  have hmk : ∀ w, (Instr.makeSlice 32 (.int .i64 (n : Int)) (.int .i64 (n : Int))).run Try.prog w = .ok (.slice (some ⟨w.heap.size, 0, none⟩) n n) (w.alloc (.cells (i64s (List.replicate n 0)).toArray 3)) := fun w => by
    have := run_make (P := Try.prog) w 32 3 i0 _ Try.underlying32 hi hz0 .i64 .i64 (n : Int) (n : Int) (by omega) (by omega) (by rw [hz2]; omega) (by omega)
    rw [Int.toNat_natCast, hz1, Nat.mul_one, show (Value.int IntKind.i64 0).cells = #[Value.int .i64 0] from rfl, i64s_zero] at this
    exact this
  have h1' : ¬ (n : Int) < 16 := by omega
  have h2' : ¬ 1024 < (n : Int) := by omega
  have HA := Lib.hid (isR_new w.drew n h1 h2 w.heap.size (w.heap.size + 1) (.inl ⟨rfl, rfl⟩))
  have HB := Lib.hid (isR_new w.drew n h1 h2 (w.heap.size + 1) w.heap.size (.inr ⟨rfl, rfl⟩))
  clear hi hz0 hz1 hz2
  go_enter Try.func16, Try.ntmps16
  go_wp2
  refine wp_region_order (fun _ => True) [0, 2] [[1, 3, 4, 5, 6], [3, 1, 4, 5, 6]] 5 rfl (by kernel_rfl) trivial ?_
  simp only [List.map_cons, List.map_nil, opAt]
  iterate 2
    apply reads_step rfl
    · intro wq hq
      go_simp
      all_goals with_reducible rfl
    simp only [Act.put, List.setIfInBounds_toArray, List.set_cons_zero, List.set_cons_succ]
  refine ⟨?_, ?_, trivial⟩
  all_goals simp only [List.map_cons, List.map_nil, opAt]
  · iterate 5
      refine ⟨rfl, ?_⟩
      go_simp
    dsimp only [OnlyN, Exit.then, wpTail, Exit.inBlock]
    go_wp2
    go_ret
    exact ⟨⟨_, _, _, rfl, HA.out, by omega, by omega, by omega⟩, (((Upd.drew (Upd.refl [] w)).alloc _).alloc _).alloc _⟩
  · iterate 5
      refine ⟨rfl, ?_⟩
      go_simp
    dsimp only [OnlyN, Exit.then, wpTail, Exit.inBlock]
    go_wp2
    go_ret
    exact ⟨⟨_, _, _, rfl, HB.out, by omega, by omega, by omega⟩, (((Upd.drew (Upd.refl [] w)).alloc _).alloc _).alloc _⟩
theorem rget_any {w : World} {b g h : Nat} {s : Ct} (H : IsR w b g h s) (p : Int) : Calls Try.prog 24 #[.pointer (some ⟨b, 0, none⟩), .int .i64 p] w fun e w' => e = .returned (.int .i64 (s.get p)) ∧ w = w' := by
  obtain ⟨c0, _⟩ := H.head
  have hn := H.ok.hi
  cases hr : s.inR p
  · have HG := Lib.hid (Ct.get_no hr)
    rcases Ct.inR_false hr with hp | hp
    · clear hr
      go_enter Try.func24, Try.ntmps24
      go_wp2
      go_ret
      rw [HG.out]
      exact ⟨rfl, rfl⟩
    · have hp' : ¬ p < 0 := by omega
      clear hr
      go_enter Try.func24, Try.ntmps24
      go_wp2
      go_ret
      rw [HG.out]
      exact ⟨rfl, rfl⟩
  · obtain ⟨i, rfl, hi⟩ := Ct.inR_true hr
    obtain ⟨c1, _⟩ := row_at H.row hi
    have HG := Lib.hid (Ct.get_nat s i)
    have hi' : ¬ s.now.length ≤ i := by omega
    clear hr
    generalize s.now.getD i 0 = x at *
    go_enter Try.func24, Try.ntmps24
    go_wp2
    go_ret
    rw [HG.out]
    exact ⟨rfl, rfl⟩
theorem IsR.added {w w' : World} {b g h i : Nat} {s : Ct} (H : IsR w b g h s) (hi : i < s.now.length) {y : Int} (hf : s.fits i y = true) (he : w' = (w.drew.setCell ⟨g, i, none⟩ (.int .i64 (s.now.getD i 0 + y)))) : IsR w' b g h (s.add i y) ∧ Upd [g] w w' := by
  subst he
  obtain ⟨a1, a2⟩ := H.apart
  have u : Upd [g] w (w.drew.setCell ⟨g, i, none⟩ (.int .i64 (s.now.getD i 0 + y))) := (Upd.drew (Upd.refl [g] w)).setCell (.inl (by simp)) _
  have e : s.add i y = ⟨s.now.set i (s.now.getD i 0 + y), s.old⟩ := by unfold Ct.add; rw [Ct.inR_of hi, hf, Ct.get_nat]; rfl
  have hl := Ct.add_len s i y
  refine ⟨⟨Ct.add_ok H.ok _ _, ?_, ?_, ?_, H.ne⟩, u⟩
  · rw [hl]; exact u.get H.hd (by simpa using a1)
  · rw [e]; exact row_set (show w.drew.heap[g]? = _ from H.row) i _
  · rw [Ct.add_old]; exact u.get H.was (by simpa using H.ne.symm)
set_option maxRecDepth 100000 in
set_option maxHeartbeats 3200000 in
theorem radd_any {w : World} {b g h : Nat} {s : Ct} (H : IsR w b g h s) (p y : Int) : Calls Try.prog 19 #[.pointer (some ⟨b, 0, none⟩), .int .i64 p, .int .i64 y] w fun e w' => e = .returned (.int .i64 (s.addE p y)) ∧ IsR w' b g h (s.add p y) ∧ Upd [g] w w' := by
  obtain ⟨c0, c1⟩ := H.head
  have hn := H.ok.hi
  have HH := Lib.hid H
  cases hr : s.inR p
  · have HE := Lib.hid (show s.addE p y = 2 by unfold Ct.addE; rw [hr]; rfl)
    have HS := Lib.hid (show s.add p y = s by unfold Ct.add; rw [hr]; rfl)
    rcases Ct.inR_false hr with hp | hp
    · clear hr H
      go_enter Try.func19, Try.ntmps19
      go_wp2
      go_ret
      rw [HE.out, HS.out]
      exact ⟨rfl, HH.out, Upd.refl _ _⟩
    · have hp' : ¬ p < 0 := by omega
      clear hr H
      go_enter Try.func19, Try.ntmps19
      go_wp2
      go_ret
      rw [HE.out, HS.out]
      exact ⟨rfl, HH.out, Upd.refl _ _⟩
  · obtain ⟨i, rfl, hi⟩ := Ct.inR_true hr
    obtain ⟨r1, r2⟩ := row_at H.row hi
    obtain ⟨hx0, hx1⟩ := H.ok.now.get i
    have hi' : ¬ s.now.length ≤ i := by omega
    have hg := Ct.get_nat s i
    cases hf : s.fits i y
    · have HE := Lib.hid (show s.addE i y = 21 by unfold Ct.addE; rw [hr, hf]; rfl)
      have HS := Lib.hid (show s.add i y = s by unfold Ct.add; rw [hr, hf]; rfl)
      have hno := Ct.fits_false hf
      rw [hg] at hno
      clear hr hf hg H
      generalize s.now.getD i 0 = x at *
      by_cases h1 : 1000 < y
      · clear hno
        go_enter Try.func19, Try.ntmps19
        go_wp2
        go_ret
        rw [HE.out, HS.out]
        exact ⟨rfl, HH.out, Upd.refl _ _⟩
      · by_cases h2 : y < -1000
        · clear hno
          go_enter Try.func19, Try.ntmps19
          go_wp2
          go_ret
          rw [HE.out, HS.out]
          exact ⟨rfl, HH.out, Upd.refl _ _⟩
        · by_cases h3 : x + y < 0
          · clear hno
            go_enter Try.func19, Try.ntmps19
            go_wp2
            go_ret
            rw [HE.out, HS.out]
            exact ⟨rfl, HH.out, Upd.refl _ _⟩
          · have h4 : 1000 < x + y := by omega
            clear hno
            go_enter Try.func19, Try.ntmps19
            go_wp2
            go_ret
            rw [HE.out, HS.out]
            exact ⟨rfl, HH.out, Upd.refl _ _⟩
    · have HE := Lib.hid (show s.addE i y = 0 by unfold Ct.addE; rw [hr, hf]; rfl)
      have hyes := Ct.fits_true hf
      rw [hg] at hyes
      have HADD := Lib.hid (fun w' he => H.added (w' := w') hi hf he)
      obtain ⟨a1, a2⟩ := H.apart
      clear hr hf hg H
      generalize hx : s.now.getD i 0 = x at *
      obtain ⟨hy0, hy1⟩ := hyes
      have h1 : ¬ 1000 < y := by omega
      have h2 : ¬ y < -1000 := by omega
      have h3 : ¬ x + y < 0 := by omega
      have h4 : ¬ 1000 < x + y := by omega
      have hw : IntKind.i64.wrap (x + y) = x + y := IntWalk.i64_in _ (by omega)
      clear hx
      go_enter Try.func19, Try.ntmps19
      go_wp2
      refine wp_region_still_tail 14 (by kernel_rfl) (by kernel_rfl) ?_
      simp only [List.take_succ_cons, List.take_zero, List.drop_succ_cons, List.drop_zero]
      change wpStill _ _ w.drew (fun a' => wpList _ _ _ _ a' w.drew) _ _
      iterate 14 still_step
      refine wpStill_nil ?_
      go_wp2
      go_ret
      obtain ⟨q1, q2⟩ := HADD.out _ rfl
      rw [HE.out]
      exact ⟨rfl, q1, q2⟩
end Go.Proofs.Ytgmabhfffgnjjaa
