/-
  PROVED HERE: the statements' comparing of two catalogues. Conditions: they can be read.
-/
import Derived.Test.YtkahpkmofeglgaaDoorCatW
import Derived.Test.YtkahpkmofeglgaaDoorLawImage
namespace Go.Proofs.YtkahpkmofeglgaaDoor
open Go.RowKit

theorem eqVol (x0 x1 x2 x3 x4 x5 y0 y1 y2 y3 y4 y5 : Int) (w : World) : (Op.equalIn 10000 129 (.agg #[.int .i64 x0, .int .i64 x1, .int .i64 x2, .int .i64 x3, .int .i64 x4, .int .i64 x5]) (.agg #[.int .i64 y0, .int .i64 y1, .int .i64 y2, .int .i64 y3, .int .i64 y4, .int .i64 y5])).run Tryd.prog w =
    .ok (decide ((⟨x0, x1, x2, x3, x4, x5⟩ : Vol) = ⟨y0, y1, y2, y3, y4, y5⟩)) w := by
  have u3 := Tryd.underlying3
  have a3 := Tryd.isAgg3
  have z3 := Tryd.sizeOf3
  have hS : Tryd.prog.underlying 129 = some (.struct (Tryd.prog.fieldsOf 129)) := by kernel_rfl
  have hp : Tryd.prog.stoodInHeld 129 = false := by kernel_rfl
  rw [show (10000 : Nat) = 9999 + 1 from rfl, run_equalIn_agg w 9999 129 _ _ hS hp]
  simp only [Program.fieldsOf, Tryd.underlying129]
  go_simp
  have e : decide ((⟨x0, x1, x2, x3, x4, x5⟩ : Vol) = ⟨y0, y1, y2, y3, y4, y5⟩) = (decide (x0 = y0) && (decide (x1 = y1) && (decide (x2 = y2) && (decide (x3 = y3) && (decide (x4 = y4) && decide (x5 = y5)))))) := by
    simp only [Vol.mk.injEq, Bool.decide_and]
  try rw [e]
  exact ite_and (ite_and (ite_and (ite_and (ite_and ite_last))))
theorem catDec {c d : Cat} : decide (c = d) = (decide (c.next = d.next) && (decide (c.stack = d.stack) && decide (c.vols = d.vols))) := by
  obtain ⟨n, s, v⟩ := c
  obtain ⟨n', s', v'⟩ := d
  simp only [Cat.mk.injEq, Bool.decide_and]
theorem vals_cells {w : World} {b o : Nat} {i s z q r m : Int} (hc : ∀ j u, (Vol.vals ⟨i, s, z, q, r, m⟩)[j]? = some u → w.cell? ⟨b, o + j, none⟩ = some u) :
    w.cell? ⟨b, o, none⟩ = some (.int .i64 i) ∧ w.cell? ⟨b, o + 1, none⟩ = some (.int .i64 s) ∧ w.cell? ⟨b, o + 2, none⟩ = some (.int .i64 z) ∧ w.cell? ⟨b, o + 3, none⟩ = some (.int .i64 q) ∧ w.cell? ⟨b, o + 4, none⟩ = some (.int .i64 r) ∧ w.cell? ⟨b, o + 5, none⟩ = some (.int .i64 m) :=
  ⟨hc 0 _ rfl, hc 1 _ rfl, hc 2 _ rfl, hc 3 _ rfl, hc 4 _ rfl, hc 5 _ rfl⟩
set_option maxRecDepth 100000 in
set_option maxHeartbeats 3200000 in
theorem cats_any {w : World} {a a' b b' : Option Addr} {c d : Cat} {cap cap' dap dap' : Nat} (ha : IsVols w a c.vols) (ha' : IsInts w a' c.stack) (hb : IsVols w b d.vols) (hb' : IsInts w b' d.stack)
    (hl : c.vols.length ≤ 9223372036854775807) (hl' : c.stack.length ≤ 9223372036854775807) (hm : d.vols.length ≤ 9223372036854775807) (hm' : d.stack.length ≤ 9223372036854775807) :
    Calls Tryd.prog 40 #[catV c (.slice a c.vols.length cap) (.slice a' c.stack.length cap'), catV d (.slice b d.vols.length dap) (.slice b' d.stack.length dap')] w fun e w' => e = .returned (.bool (decide (c = d))) ∧ Upd [] w w' := by
  rw [catDec]
  obtain ⟨nx, st, vs⟩ := c
  obtain ⟨nx', st', vs'⟩ := d
  simp only at ha ha' hb hb' hl hl' hm hm' ⊢
  unfold catV
  simp only
  have hu := ((Upd.refl [] w).alloc (.cells #[.int .i64 nx, .slice a vs.length cap, .slice a' st.length cap'] 75)).alloc (.cells #[.int .i64 nx', .slice b vs'.length dap, .slice b' st'.length dap'] 75)
  have HU := Lib.hid hu
  have HS := Lib.hid (ints_any (cap := cap') (cap' := dap') (ha'.upd hu (by simp)) (hb'.upd hu (by simp)) hl' hm')
  have hx0 := ((Upd.refl [] _).alloc (.cells #[.int .i64 nx', .slice b vs'.length dap, .slice b' st'.length dap'] 75)).get (heap_alloc_new w (.cells #[.int .i64 nx, .slice a vs.length cap, .slice a' st.length cap'] 75)) (by simp)
  have hx1 := heap_alloc_new (w.alloc (.cells #[.int .i64 nx, .slice a vs.length cap, .slice a' st.length cap'] 75)) (.cells #[.int .i64 nx', .slice b vs'.length dap, .slice b' st'.length dap'] 75)
  rw [show (w.alloc (.cells #[.int .i64 nx, .slice a vs.length cap, .slice a' st.length cap'] 75)).heap.size = w.heap.size + 1 by simp] at hx1
  have HX0 := Lib.hid hx0
  have HX1 := Lib.hid hx1
  have HA : Hid (∀ w', Upd [] w w' → IsVols w' a vs) := fun w' u => ha.upd u (by simp)
  have HB : Hid (∀ w', Upd [] w w' → IsVols w' b vs') := fun w' u => hb.upd u (by simp)
  clear ha ha' hb hb' hu hx0 hx1
  by_cases h1 : nx = nx'
  rotate_left
  · have k1 : (nx != nx') = true := by simpa using h1
    have HD := Lib.hid (show (decide (nx = nx') && (decide (st = st') && decide (vs = vs'))) = false by rw [decide_eq_false h1, Bool.false_and])
    clear h1
    go_enter Tryd.func40, Tryd.ntmps40
    go_wp2
    go_ret
    rw [HD.out]
    exact ⟨rfl, HU.out⟩
  subst h1
  rw [decide_eq_true rfl, Bool.true_and]
  by_cases h2 : st = st'
  rotate_left
  · have HD := Lib.hid (show (decide (st = st') && decide (vs = vs')) = false by rw [decide_eq_false h2, Bool.false_and])
    rw [decide_eq_false h2] at HS
    clear h2
    go_enter Tryd.func40, Tryd.ntmps40
    go_wp2_with fail
    refine HS.out.mono ?_
    rintro e w1 ⟨rfl, u1⟩
    have U1 := Lib.hid (HU.out.trans u1)
    clear u1
    go_wp2
    go_ret
    rw [HD.out]
    exact ⟨rfl, U1.out⟩
  rw [decide_eq_true h2] at HS ⊢
  rw [Bool.true_and]
  clear h2
  by_cases h3 : vs.length = vs'.length
  rotate_left
  · have k1 : ((vs.length : Int) != (vs'.length : Int)) = true := by rw [bne_iff_ne]; omega
    have HD := Lib.hid (show decide (vs = vs') = false from decide_eq_false fun e => h3 (by rw [e]))
    clear h3
    go_enter Tryd.func40, Tryd.ntmps40
    go_wp2_with fail
    refine HS.out.mono ?_
    rintro e w1 ⟨rfl, u1⟩
    have U1 := Lib.hid (HU.out.trans u1)
    obtain ⟨_, q1, _⟩ := cells3 (u1.get HX0.out (by simp))
    obtain ⟨_, r1, _⟩ := cells3 (u1.get HX1.out (by simp))
    clear u1
    go_wp2
    go_ret
    rw [HD.out]
    exact ⟨rfl, U1.out⟩
  rw [← h3] at HS HU HX0 HX1 ⊢
  have H3 := Lib.hid h3
  clear h3
  go_enter Tryd.func40, Tryd.ntmps40
  go_wp2_with fail
  refine HS.out.mono ?_
  rintro e w1 ⟨rfl, u1⟩
  have U1 := Lib.hid (HU.out.trans u1)
  have HY0 := Lib.hid (u1.get HX0.out (by simp))
  have HY1 := Lib.hid (u1.get HX1.out (by simp))
  clear u1 HX0 HX1 HS HU
  obtain ⟨_, q1, _⟩ := cells3 HY0.out
  obtain ⟨_, r1, _⟩ := cells3 HY1.out
  go_wp2
  go_loopw [5] (fun i wr => ∃ k : Nat, k ≤ vs.length ∧ i = .int .i64 k ∧ (∀ j (_ : j < k) (h1 : j < vs.length) (h2 : j < vs'.length), vs[j] = vs'[j]) ∧ Upd [] w1 wr) (fun i _ => vs.length - (intOf i).toNat)
  case atStart => exact ⟨0, by omega, rfl, fun j hj => absurd hj (by omega), Upd.refl _ _⟩
  case round =>
    obtain ⟨k, hk, rfl, hin, hU⟩ := hrel
    have HIN := Lib.hid hin
    have HU := Lib.hid hU
    clear hin hU q1 r1
    obtain ⟨_, q1, _⟩ := cells3 (HU.out.get HY0.out (by simp))
    obtain ⟨_, r1, _⟩ := cells3 (HU.out.get HY1.out (by simp))
    by_cases hlt7 : k < vs.length
    · have hlt8 : k < vs'.length := by have := H3.out; omega
      obtain ⟨p, o, rfl, hc⟩ := HA.out _ (U1.out.trans HU.out) k hlt7
      obtain ⟨p', o', rfl, hc'⟩ := HB.out _ (U1.out.trans HU.out) k hlt8
      have HNE := Lib.hid (show ¬ vs[k] = vs'[k] → decide (vs = vs') = false from fun h => decide_eq_false fun e => h (by subst e; rfl))
      generalize hx : vs[k] = x at hc HNE
      generalize hy : vs'[k] = y at hc' HNE
      have HXE := Lib.hid hx
      have HYE := Lib.hid hy
      clear hx hy
      obtain ⟨i, s, z, q, r, m⟩ := x
      obtain ⟨i', s', z', q', r', m'⟩ := y
      obtain ⟨e0, e1, e2, e3, e4, e5⟩ := vals_cells hc
      obtain ⟨f0, f1, f2, f3, f4, f5⟩ := vals_cells hc'
      have heq := eqVol i s z q r m i' s' z' q' r' m'
      have hki : (k : Int) < (vs.length : Int) := by omega
      clear hc hc'
      by_cases h : (⟨i, s, z, q, r, m⟩ : Vol) = ⟨i', s', z', q', r', m'⟩
      · rw [decide_eq_true h] at heq
        have HE := Lib.hid h
        clear h HNE
        go_wp2_with fail
        go_quiet (fail)
        go_wp2
        go_roundw
        case rel =>
          refine ⟨k + 1, by omega, by go_num, fun j hj h1 h2 => ?_, HU.out.trans ⟨rfl, rfl, rfl, Nat.le_refl _, fun _ _ _ => rfl⟩⟩
          by_cases e : j = k
          · subst e; rw [HXE.out, HYE.out]; exact HE.out
          · exact HIN.out j (by omega) h1 h2
        case measure => simp [intOf]; omega
      · rw [decide_eq_false h] at heq
        have HD := Lib.hid (HNE.out h)
        clear h HNE
        go_wp2_with fail
        go_quiet (fail)
        go_wp2
        go_ret
        rw [HD.out]
        exact ⟨rfl, U1.out.trans (HU.out.trans ⟨rfl, rfl, rfl, Nat.le_refl _, fun _ _ _ => rfl⟩)⟩
    · obtain rfl : k = vs.length := by omega
      have HD := Lib.hid (show decide (vs = vs') = true from decide_eq_true (List.ext_getElem H3.out fun j h1 h2 => HIN.out j h1 h1 h2))
      go_wp2
      go_ret
      rw [HD.out]
      exact ⟨rfl, U1.out.trans HU.out⟩
end Go.Proofs.YtkahpkmofeglgaaDoor
