/-
  PROVED HERE: how the counts of the program lie in memory; may, Many, New, Get, Add and Settle of package counts. Conditions: those that each theorem names.
-/
import Derived.Test.YtgmabhfffgnjjaaCntP
import Derived.Test.YtgmabhfffgnjjaaIMap
import Derived.StillTail
import Derived.StillTactics
namespace Go.Proofs.Ytgmabhfffgnjjaa
open Go.RowKit

/-- What the map holds: of those that were changed, what they were. -/
def WasOf (s : Ct) (M : Int → Option Value) : Prop :=
  (∀ x v, M x = some v → ∃ i : Nat, x = i ∧ i < s.now.length ∧ v = .int .i64 (s.old.getD i 0)) ∧ ∀ i : Nat, i < s.now.length → M (i : Int) = none → s.old.getD i 0 = s.now.getD i 0
structure IsC (w : World) (b g m : Nat) (s : Ct) : Prop where
  ok : s.Ok
  hd : w.heap[b]? = some (.cells #[.slice (some ⟨g, 0, none⟩) s.now.length s.now.length, .map (some m)] 46 (0, 0))
  row : w.heap[g]? = some (.cells (i64s s.now).toArray 3 (0, 0))
  map : ∃ M, IMap Try.prog 3 w m M ∧ WasOf s M
theorem cne {w : World} {a b : Nat} {cs cs' : Array Value} {t t' : TypeId} (ha : w.heap[a]? = some (.cells cs t (0, 0))) (hb : w.heap[b]? = some (.cells cs' t' (0, 0))) (h : t ≠ t') : a ≠ b := fun e => by
  subst e; rw [ha] at hb; simp at hb; exact h hb.2
theorem IsC.apart {w : World} {b g m : Nat} {s : Ct} (h : IsC w b g m s) : b ≠ g ∧ b ≠ m ∧ g ≠ m := by
  obtain ⟨M, hM, _⟩ := h.map
  obtain ⟨es, ck, hb⟩ := hM.block
  exact ⟨cne h.hd h.row (by decide), (fun e => by have := h.hd; rw [e, hb] at this; cases this), (fun e => by have := h.row; rw [e, hb] at this; cases this)⟩
theorem IsC.upd {w w' : World} {b g m : Nat} {s : Ct} {S : List Nat} (h : IsC w b g m s) (u : Upd S w w') (h1 : b ∉ S) (h2 : g ∉ S) (h3 : m ∉ S) : IsC w' b g m s := by
  obtain ⟨M, hM, hW⟩ := h.map
  exact ⟨h.ok, u.get h.hd h1, u.get h.row h2, M, hM.upd u h3, hW⟩
theorem IsC.stay {w w' : World} {b g m : Nat} {s : Ct} (h : IsC w b g m s) (u : Upd [] w w') : IsC w' b g m s := h.upd u (by simp) (by simp) (by simp)
theorem IsC.head {w : World} {b g m : Nat} {s : Ct} (h : IsC w b g m s) : w.cell? ⟨b, 0, none⟩ = some (.slice (some ⟨g, 0, none⟩) s.now.length s.now.length) ∧ w.cell? ⟨b, 1, none⟩ = some (.map (some m)) := by
  obtain ⟨k, _⟩ := cells_of h.hd
  exact ⟨k 0, k 1⟩
theorem row_at {w : World} {g : Nat} {l : List Int} (h : w.heap[g]? = some (.cells (i64s l).toArray 3 (0, 0))) {i : Nat} (hi : i < l.length) : w.cell? ⟨g, i, none⟩ = some (.int .i64 (l.getD i 0)) ∧ w.frozen? ⟨g, i, none⟩ = false := by
  refine ⟨?_, (cells_of h).2 i⟩
  rw [(cells_of h).1, List.getElem?_toArray, i64s_get, getD_in l i hi, List.getElem?_eq_getElem hi]; rfl
theorem row_set {w : World} {g : Nat} {l : List Int} (h : w.heap[g]? = some (.cells (i64s l).toArray 3 (0, 0))) (i : Nat) (x : Int) : (w.setCell ⟨g, i, none⟩ (.int .i64 x)).heap[g]? = some (.cells (i64s (l.set i x)).toArray 3 (0, 0)) := by
  rw [heap_setCell_same w g i _ _ _ h]
  congr 2
  simp [i64s, List.map_set]

theorem may_yes (n : Int) (h1 : 16 ≤ n) (h2 : n ≤ 1024) (w : World) : Calls Try.prog 27 #[.int .i64 n] w fun e w' => e = .returned (.bool true) ∧ w = w' := by
  go_enter Try.func27, Try.ntmps27
  go_wp2
  go_ret
  exact ⟨rfl, rfl⟩
theorem may_no (n : Int) (h : n < 16 ∨ 1024 < n) (w : World) : Calls Try.prog 27 #[.int .i64 n] w fun e w' => e = .returned (.bool false) ∧ w = w' := by
  rcases h with h | h
  · have h' : ¬ 16 ≤ n := by omega
    go_enter Try.func27, Try.ntmps27
    go_wp2
    go_ret
    exact ⟨rfl, rfl⟩
  · have h' : 16 ≤ n := by omega
    have h'' : ¬ n ≤ 1024 := by omega
    go_enter Try.func27, Try.ntmps27
    go_wp2
    go_ret
    exact ⟨rfl, rfl⟩
theorem many_yes (n : Nat) (h1 : 16 ≤ n) (h2 : n ≤ 1024) (w : World) : Calls Try.prog 13 #[.int .i64 n] w fun e w' => e = .returned (.int .i64 (manyOf n : Nat)) ∧ w = w' := by
  have HM := Lib.hid (fun w => may_yes (n : Int) (by omega) (by omega) w)
  have he : ((n : Int) + 120 - 1) / 120 = (manyOf n : Nat) := by unfold manyOf; omega
  have HE := Lib.hid he
  clear he
  go_enter Try.func13, Try.ntmps13
  go_wp2_with (go_at_call 27; refine (HM.out _).mono ?_; rintro e w' ⟨rfl, rfl⟩)
  go_ret
  rw [← HE.out]
  exact ⟨rfl, rfl⟩
theorem many_no (n : Int) (h : n < 16 ∨ 1024 < n) (w : World) : Calls Try.prog 13 #[.int .i64 n] w fun e w' => e = .returned (.int .i64 0) ∧ w = w' := by
  have HM := Lib.hid (fun w => may_no n h w)
  clear h
  go_enter Try.func13, Try.ntmps13
  go_wp2_with (go_at_call 27; refine (HM.out _).mono ?_; rintro e w' ⟨rfl, rfl⟩)
  go_ret
  exact ⟨rfl, rfl⟩
theorem cnew_no (n : Int) (h : n < 16 ∨ 1024 < n) (w : World) : Calls Try.prog 6 #[.int .i64 n] w fun e w' => e = .returned (.tuple #[.pointer none, .int .i64 1]) ∧ w = w' := by
  have HM := Lib.hid (fun w => may_no n h w)
  clear h
  go_enter Try.func6, Try.ntmps6
  go_wp2_with (go_at_call 27; refine (HM.out _).mono ?_; rintro e w' ⟨rfl, rfl⟩)
  go_ret2
  exact ⟨rfl, rfl⟩
/-- New counts, in blocks of their own. -/
def NewC (w : World) (n : Nat) (e : Ending) (w' : World) : Prop := ∃ b g m, e = .returned (.tuple #[.pointer (some ⟨b, 0, none⟩), .int .i64 0]) ∧ IsC w' b g m (Ct.new n) ∧ w.heap.size ≤ b ∧ w.heap.size ≤ g ∧ w.heap.size ≤ m
theorem i64s_zero (n : Nat) : madeCells #[Value.int .i64 0] n = (i64s (List.replicate n 0)).toArray := by
  apply Array.ext'
  rw [toList_madeCells_one]
  simp [i64s]
theorem isC_new (w : World) (n : Nat) (h1 : 16 ≤ n) (h2 : n ≤ 1024) :
    IsC (((w.alloc (.cells (i64s (List.replicate n 0)).toArray 3)).alloc (.map #[] 0)).alloc (.cells #[.slice (some ⟨w.heap.size, 0, none⟩) n n, .map (some (w.heap.size + 1))] 46)) (w.heap.size + 1 + 1) w.heap.size (w.heap.size + 1) (Ct.new n) := by
  have e1 : (w.alloc (.cells (i64s (List.replicate n 0)).toArray 3)).heap.size = w.heap.size + 1 := World.size_alloc _ _
  refine ⟨Ct.new_ok h1 h2, ?_, ?_, fun _ => none, ?_, ?_⟩
  · have := heap_alloc_new ((w.alloc (.cells (i64s (List.replicate n 0)).toArray 3)).alloc (.map #[] 0)) (.cells #[.slice (some ⟨w.heap.size, 0, none⟩) n n, .map (some (w.heap.size + 1))] 46)
    rw [World.size_alloc, e1] at this
    rw [this, Ct.new_len]
  · exact (((Upd.refl [] _).alloc _).alloc _).get (heap_alloc_new w _) (by simp)
  · have := (IMap.made (w.alloc (.cells (i64s (List.replicate n 0)).toArray 3)) Try.prog 3).upd ((Upd.refl [] _).alloc (.cells #[.slice (some ⟨w.heap.size, 0, none⟩) n n, .map (some (w.heap.size + 1))] 46)) (by simp)
    rw [e1] at this
    exact this
  · exact ⟨(fun x v h => by cases h), fun i _ _ => rfl⟩
set_option maxRecDepth 100000 in
set_option maxHeartbeats 1600000 in
theorem cnew_yes {w : World} (n : Nat) (h1 : 16 ≤ n) (h2 : n ≤ 1024) : Calls Try.prog 6 #[.int .i64 (n : Nat)] w fun e w' => NewC w n e w' ∧ Upd [] w w' := by
  obtain ⟨i0, hi, hz0, hz1, hz2⟩ := info_parts infoInt
  have hmk := run_make (P := Try.prog) w 32 3 i0 _ Try.underlying32 hi hz0 .i64 .i64 (n : Int) (n : Int) (by omega) (by omega) (by rw [hz2]; omega) (by omega)
  rw [Int.toNat_natCast, hz1, Nat.mul_one, show (Value.int IntKind.i64 0).cells = #[Value.int .i64 0] from rfl, i64s_zero] at hmk
  have hmm := @run_makeMap Try.prog
  have HM := Lib.hid (fun w => may_yes (n : Int) (by omega) (by omega) w)
  have HC := Lib.hid (isC_new w n h1 h2)
  clear hi hz0 hz1 hz2
  go_enter Try.func6, Try.ntmps6
  go_wp2_with (go_at_call 27; refine (HM.out _).mono ?_; rintro e w' ⟨rfl, rfl⟩)
  go_ret2
  exact ⟨⟨_, _, _, rfl, HC.out, by omega, by omega, by omega⟩, (((Upd.refl [] w).alloc _).alloc _).alloc _⟩

theorem cget_any {w : World} {b g m : Nat} {s : Ct} (h : IsC w b g m s) (p : Int) : Calls Try.prog 10 #[.pointer (some ⟨b, 0, none⟩), .int .i64 p] w fun e w' => e = .returned (.int .i64 (s.get p)) ∧ w = w' := by
  obtain ⟨c0, _⟩ := h.head
  have hn := h.ok.hi
  cases hr : s.inR p
  · have HG := Lib.hid (Ct.get_no hr)
    rcases Ct.inR_false hr with hp | hp
    · clear hr
      go_enter Try.func10, Try.ntmps10
      go_wp2
      go_ret
      rw [HG.out]
      exact ⟨rfl, rfl⟩
    · have hp' : ¬ p < 0 := by omega
      clear hr
      go_enter Try.func10, Try.ntmps10
      go_wp2
      go_ret
      rw [HG.out]
      exact ⟨rfl, rfl⟩
  · obtain ⟨i, rfl, hi⟩ := Ct.inR_true hr
    obtain ⟨c1, _⟩ := row_at h.row hi
    have HG := Lib.hid (Ct.get_nat s i)
    have hi' : ¬ s.now.length ≤ i := by omega
    clear hr
    generalize s.now.getD i 0 = x at *
    go_enter Try.func10, Try.ntmps10
    go_wp2
    go_ret
    rw [HG.out]
    exact ⟨rfl, rfl⟩
theorem csettle_any {w : World} {b g m : Nat} {s : Ct} (h : IsC w b g m s) : Calls Try.prog 9 #[.pointer (some ⟨b, 0, none⟩)] w fun e w' => e = .returned (.tuple #[]) ∧ IsC w' b g m s.settle ∧ Upd [g, m] w w' := by
  obtain ⟨_, c1⟩ := h.head
  obtain ⟨M, hM, _⟩ := h.map
  have HM := Lib.hid hM
  have H := Lib.hid h
  clear h hM
  go_enter Try.func9, Try.ntmps9
  go_wp2_with (refine wpList_iclear (k := 3) rfl _ rfl rfl Try.underlying44 HM.out ?_; intro w1 hm1 hu1 hs1; have M1 := Lib.hid hm1; have U1 := Lib.hid hu1; clear hm1 hu1 hs1)
  go_end0
  obtain ⟨a1, a2, a3⟩ := H.out.apart
  exact ⟨rfl, ⟨Ct.settle_ok H.out.ok, U1.out.get H.out.hd (by simpa using a2), U1.out.get H.out.row (by simpa using a3), _, M1.out, (fun x v h => by cases h), fun i _ _ => rfl⟩, U1.out.mono (by simp)⟩
/-- A count has turned, and the map holds what it was. -/
theorem IsC.added {w w1 : World} {b g m i : Nat} {s : Ct} (h : IsC w b g m s) {M : Int → Option Value} (hi : i < s.now.length) {y : Int} (hf : s.fits i y = true) (hm : IMap Try.prog 3 w1 m M) (hW : WasOf s M) (hs : M (i : Int) ≠ none) (u : Upd [m] w w1) :
    IsC (w1.setCell ⟨g, i, none⟩ (.int .i64 (s.now.getD i 0 + y))) b g m (s.add i y) ∧ Upd [g, m] w (w1.setCell ⟨g, i, none⟩ (.int .i64 (s.now.getD i 0 + y))) := by
  obtain ⟨a1, a2, a3⟩ := h.apart
  have u2 : Upd [g] w1 (w1.setCell ⟨g, i, none⟩ (.int .i64 (s.now.getD i 0 + y))) := (Upd.refl [g] w1).setCell (.inl (by simp)) _
  have e : s.add i y = ⟨s.now.set i (s.now.getD i 0 + y), s.old⟩ := by unfold Ct.add; rw [Ct.inR_of hi, hf, Ct.get_nat]; rfl
  have hl := Ct.add_len s i y
  refine ⟨⟨Ct.add_ok h.ok _ _, ?_, ?_, M, hm.upd u2 (by simpa using a3.symm), fun x v hx => ?_, fun j hj hn => ?_⟩, (u.mono (by simp)).trans (u2.mono (by simp))⟩
  · rw [hl]; exact u2.get (u.get h.hd (by simpa using a2)) (by simpa using a1)
  · rw [e]; exact row_set (u.get h.row (by simpa using a3)) i _
  · rw [Ct.add_old, hl]; exact hW.1 x v hx
  · rw [hl] at hj
    have hji : j ≠ i := fun e => hs (by rw [← e]; exact hn)
    rw [e]
    show s.old.getD j 0 = (s.now.set _ _).getD j 0
    rw [getD_set _ _ _ _ hi, if_neg hji]
    exact hW.2 j hj hn
theorem zeroI (w : World) : (zeroValue 3).run Try.prog w = .ok (.int .i64 0) w := by kernel_rfl
set_option maxRecDepth 100000 in
set_option maxHeartbeats 3200000 in
theorem cadd_any {w : World} {b g m : Nat} {s : Ct} (h : IsC w b g m s) (p y : Int) : Calls Try.prog 8 #[.pointer (some ⟨b, 0, none⟩), .int .i64 p, .int .i64 y] w fun e w' => e = .returned (.int .i64 (s.addE p y)) ∧ IsC w' b g m (s.add p y) ∧ Upd [g, m] w w' := by
  obtain ⟨c0, c1⟩ := h.head
  have hn := h.ok.hi
  have H := Lib.hid h
  cases hr : s.inR p
  · have HE := Lib.hid (show s.addE p y = 2 by unfold Ct.addE; rw [hr]; rfl)
    have HS := Lib.hid (show s.add p y = s by unfold Ct.add; rw [hr]; rfl)
    rcases Ct.inR_false hr with hp | hp
    · clear hr h
      go_enter Try.func8, Try.ntmps8
      go_wp2
      go_ret
      rw [HE.out, HS.out]
      exact ⟨rfl, H.out, Upd.refl _ _⟩
    · have hp' : ¬ p < 0 := by omega
      clear hr h
      go_enter Try.func8, Try.ntmps8
      go_wp2
      go_ret
      rw [HE.out, HS.out]
      exact ⟨rfl, H.out, Upd.refl _ _⟩
  · obtain ⟨i, rfl, hi⟩ := Ct.inR_true hr
    obtain ⟨r1, r2⟩ := row_at h.row hi
    have hbd := h.ok.now.get i
    have hi' : ¬ s.now.length ≤ i := by omega
    have hg := Ct.get_nat s i
    cases hf : s.fits i y
    · have HE := Lib.hid (show s.addE i y = 21 by unfold Ct.addE; rw [hr, hf]; rfl)
      have HS := Lib.hid (show s.add i y = s by unfold Ct.add; rw [hr, hf]; rfl)
      have hno := Ct.fits_false hf
      rw [hg] at hno
      clear hr hf hg h
      generalize s.now.getD i 0 = x at *
      obtain ⟨hx0, hx1⟩ := hbd
      by_cases h1 : 1000 - x < y
      · go_enter Try.func8, Try.ntmps8
        go_wp2
        go_ret
        rw [HE.out, HS.out]
        exact ⟨rfl, H.out, Upd.refl _ _⟩
      · have h2 : y < -x := by omega
        clear hno
        go_enter Try.func8, Try.ntmps8
        go_wp2
        go_ret
        rw [HE.out, HS.out]
        exact ⟨rfl, H.out, Upd.refl _ _⟩
    · have HE := Lib.hid (show s.addE i y = 0 by unfold Ct.addE; rw [hr, hf]; rfl)
      obtain ⟨M, hM, hW⟩ := h.map
      have hyes := Ct.fits_true hf
      rw [hg] at hyes
      have HF := Lib.hid hf
      have HMM := Lib.hid hM
      have HW := Lib.hid hW
      obtain ⟨a1, a2, a3⟩ := h.apart
      have HADD := Lib.hid (fun (M' : Int → Option Value) (w1 : World) hm hW hs u => h.added (w1 := w1) (M := M') hi hf hm hW hs u)
      have hlk := fun wz (hz : IMap Try.prog 3 wz m M) => hz.look (t := 44) true Try.underlying3 Try.underlying44 (zeroI wz) (x := (i : Int)) (WalkArith.wf_i64 (by omega))
      have hlk0 := hlk w hM
      have hwas := hW.1 (i : Int)
      have HROW := Lib.hid h.row
      have HHD := Lib.hid h.hd
      clear hr hf hg h hM hW hlk
      obtain ⟨hx0, hx1⟩ := hbd
      obtain ⟨hy0, hy1⟩ := hyes
      have h1 : ¬ 1000 - s.now.getD i 0 < y := by omega
      have h2 : ¬ y < - s.now.getD i 0 := by omega
      cases hMi : M (i : Int) with
      | some u =>
        have HMi := Lib.hid (show M (i : Int) ≠ none by rw [hMi]; simp)
        rw [hMi] at hlk0
        simp only [if_true, Option.getD_some, Option.isSome_some] at hlk0
        clear hwas hMi
        generalize s.now.getD i 0 = x at *
        go_enter Try.func8, Try.ntmps8
        go_wp2
        go_ret
        obtain ⟨q1, q2⟩ := HADD.out M w HMM.out HW.out HMi.out (Upd.refl _ _)
        rw [HE.out]
        exact ⟨rfl, q1, q2⟩
      | none =>
        have HMi := Lib.hid hMi
        rw [hMi] at hlk0
        simp only [if_true, Option.getD_none, Option.isSome_none] at hlk0
        have HOLD := Lib.hid (HW.out.2 i hi hMi)
        have HBND := Lib.hid (fun x v (hx : M x = some v) => (show 0 ≤ x ∧ x < (1024 : Nat) by obtain ⟨j, rfl, hj, _⟩ := HW.out.1 x v hx; omega))
        clear hwas hMi
        obtain ⟨x, hx⟩ : ∃ x, s.now.getD i 0 = x := ⟨_, rfl⟩
        have HX := Lib.hid hx
        rw [hx] at hx0 hx1 hy0 hy1 h1 h2 r1
        clear hx
        go_enter Try.func8, Try.ntmps8
        go_wp2
        refine wp_region_still_tail 12 (by kernel_rfl) (by kernel_rfl) ?_
        simp only [List.take_succ_cons, List.take_zero, List.drop_succ_cons, List.drop_zero]
        change wpStill _ _ w.drew (fun a' => wpList _ _ _ _ a' w.drew) _ _
        iterate 12 still_step
        refine wpStill_nil ?_
        refine wpList_istore (k := 3) rfl (.tmp 56) (.tmp 57) (.tmp 64) rfl rfl (i : Int) rfl (.int .i64 x) rfl Try.underlying3 Try.underlying44 (WalkArith.wf_i64 (by omega)) (show IMap Try.prog 3 w.drew m M from HMM.out.upd (S := []) (Upd.drew (Upd.refl [] w)) (by simp)) 1024 (by decide) HBND.out ?_
        intro w1 hm1 hu1 hs1
        have u1 : Upd [m] w w1 := (Upd.drew (Upd.refl [m] w)).trans hu1
        have M1 := Lib.hid hm1
        have U1 := Lib.hid u1
        have hr1 := u1.get HROW.out (by simpa using a3)
        obtain ⟨r3, r4⟩ := row_at hr1 hi
        rw [HX.out] at r3
        have hh1 := u1.get HHD.out (by simpa using a2)
        have c3 := (cells_of hh1).1 0
        simp only [List.getElem?_toArray, List.getElem?_cons_zero] at c3
        clear hm1 hu1 hs1 u1 hr1 hh1
        refine wpList_nil ?_
        go_wp2
        go_ret
        obtain ⟨q1, q2⟩ := HADD.out _ w1 M1.out ⟨fun z v hz => by
          dsimp only at hz
          by_cases e : z = (i : Int)
          · rw [if_pos e] at hz
            exact ⟨i, e, hi, by rw [← Option.some.inj hz, HOLD.out, HX.out]⟩
          · rw [if_neg e] at hz
            exact HW.out.1 z v hz, fun j hj hn => by
          dsimp only at hn
          by_cases e : (j : Int) = (i : Int)
          · rw [if_pos e] at hn; cases hn
          · rw [if_neg e] at hn
            exact HW.out.2 j hj hn⟩ (by simp) U1.out
        rw [HX.out] at q1 q2
        rw [HE.out]
        exact ⟨rfl, q1, q2⟩
end Go.Proofs.Ytgmabhfffgnjjaa
