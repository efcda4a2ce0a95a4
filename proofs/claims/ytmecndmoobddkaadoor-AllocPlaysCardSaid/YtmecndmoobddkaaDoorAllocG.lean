/-
  PROVED HERE: one step of a script is played on an allocator; what the runs of free pages are like; what a script argument's cells hold. Conditions: the block is the allocator's, whole; the table of math/bits lies as its text lays it.
-/
import Derived.Test.YtmecndmoobddkaaDoorAllocF
namespace Go.Proofs.YtmecndmoobddkaaDoor
open Go.RowKit

def St.step (s : St) (kind page : Int) : St :=
  if kind = 0 then s.mark page else if kind = 1 then s.take else if kind = 2 then s.drop page else if kind = 3 then s.settle else if kind = 4 then s.undo else s
theorem IsA.step_of {w' : World} {b : Nat} {s s' : St} (h : IsA w' b s') (e : s' = s) : IsA w' b s := by subst e; exact h
set_option maxHeartbeats 800000 in
theorem play_any {b : Nat} {s : St} {k p : Int} {w : World} (h : IsA w b s) (hT : Tab w) :
    Calls Tryd.prog 27 #[pt b, .agg #[.int .i64 k, .int .i64 p]] w fun e w' => e = .returned (.tuple #[]) ∧ IsA w' b (s.step k p) ∧ Upd [b] w w' := by
  have H := Lib.hid h
  have HT := Lib.hid hT
  have hb := lt_of_block h.1
  clear h hT
  have u0 : ∀ o, Upd [b] w (w.alloc o) := fun o => (Upd.refl _ _).alloc o
  have U0 := Lib.hid u0
  have H0 : Hid (∀ o, IsA (w.alloc o) b s) := fun o => H.out.upd ((Upd.refl [] _).alloc o) (by simp)
  have HT0 : Hid (∀ o, Tab (w.alloc o)) := fun o => HT.out.upd ((Upd.refl [] _).alloc o) (by simp)
  clear u0
  by_cases k0 : k = 0
  · subst k0
    go_enter Tryd.func27, Tryd.ntmps27
    go_wp2_with fail
    refine (mark_any (H0.out _)).mono ?_
    rintro e w1 ⟨rfl, h1, u1⟩
    go_wp2
    go_end0
    exact ⟨rfl, h1.step_of (by simp [St.step]), (U0.out _).trans u1⟩
  · by_cases k1 : k = 1
    · subst k1
      go_enter Tryd.func27, Tryd.ntmps27
      go_wp2_with fail
      refine (take_any (H0.out _) (HT0.out _)).mono ?_
      rintro e w1 ⟨rfl, h1, u1⟩
      go_wp2
      go_end0
      exact ⟨rfl, h1.step_of (by simp [St.step]), (U0.out _).trans u1⟩
    · by_cases k2 : k = 2
      · subst k2
        go_enter Tryd.func27, Tryd.ntmps27
        go_wp2_with fail
        refine (drop_any (H0.out _)).mono ?_
        rintro e w1 ⟨rfl, h1, u1⟩
        go_wp2
        go_end0
        exact ⟨rfl, h1.step_of (by simp [St.step]), (U0.out _).trans u1⟩
      · by_cases k3 : k = 3
        · subst k3
          go_enter Tryd.func27, Tryd.ntmps27
          go_wp2_with fail
          refine (settle_any (H0.out _)).mono ?_
          rintro e w1 ⟨rfl, h1, u1⟩
          go_wp2
          go_end0
          exact ⟨rfl, h1.step_of (by simp [St.step]), (U0.out _).trans u1⟩
        · by_cases k4 : k = 4
          · subst k4
            go_enter Tryd.func27, Tryd.ntmps27
            go_wp2_with fail
            refine (undo_any (H0.out _)).mono ?_
            rintro e w1 ⟨rfl, h1, u1⟩
            go_wp2
            go_end0
            exact ⟨rfl, h1.step_of (by simp [St.step]), (U0.out _).trans u1⟩
          · have HS := Lib.hid (show s = s.step k p by simp [St.step, k0, k1, k2, k3, k4])
            have e0 : (k == 0) = false := by simpa using k0
            have e1 : (k == 1) = false := by simpa using k1
            have e2 : (k == 2) = false := by simpa using k2
            have e3 : (k == 3) = false := by simpa using k3
            have e4 : (k == 4) = false := by simpa using k4
            clear k0 k1 k2 k3 k4
            go_enter Tryd.func27, Tryd.ntmps27
            go_wp2
            go_end0
            exact ⟨rfl, (H0.out _).step_of HS.out, U0.out _⟩
theorem St.step_ok {s : St} (h : s.ok) (k p : Int) : (s.step k p).ok := by
  unfold St.step
  split
  · exact St.mark_ok h p
  · split
    · exact St.take_ok h
    · split
      · exact St.drop_ok h p
      · split
        · exact St.settle_ok h
        · split
          · exact St.undo_ok h
          · exact h

/-- A script: what its cells hold. -/
def IsOps (w : World) (v : Value) (l : List (Int × Int)) : Prop :=
  ∃ a cap, v = .slice a l.length cap ∧ l.length ≤ 9223372036854775807 ∧ ∀ i (h : i < l.length), ∃ b o, a = some ⟨b, o, none⟩ ∧ w.cell? ⟨b, o + i * 2, none⟩ = some (.int .i64 l[i].1) ∧ w.cell? ⟨b, o + i * 2 + 1, none⟩ = some (.int .i64 l[i].2)
theorem IsOps.upd {w w' : World} {v : Value} {l : List (Int × Int)} (h : IsOps w v l) (u : Upd [] w w') : IsOps w' v l := by
  obtain ⟨a, cap, hv, hl, hc⟩ := h
  refine ⟨a, cap, hv, hl, fun i hi => ?_⟩
  obtain ⟨b, o, ha, h1, h2⟩ := hc i hi
  have hb := World.block_lt_of_cell? _ _ h1
  exact ⟨b, o, ha, by rw [← h1]; exact World.cell?_of_block (u.block b hb (by simp)), by rw [← h2]; exact World.cell?_of_block (u.block b hb (by simp))⟩
def St.plays (s : St) (l : List (Int × Int)) : St := l.foldl (fun s x => s.step x.1 x.2) s
theorem St.plays_snoc (s : St) (l : List (Int × Int)) (i : Nat) (h : i < l.length) : s.plays (l.take (i + 1)) = (s.plays (l.take i)).step l[i].1 l[i].2 := by
  rw [List.take_succ_eq_append_getElem h, St.plays, List.foldl_append]; rfl

theorem run_start (f : Nat → Bool) (m : Nat) (h : f m = true) : ∃ a, a ≤ m ∧ (a = 0 ∨ f (a - 1) = false) ∧ ∀ q, a ≤ q → q ≤ m → f q = true := by
  induction m with
  | zero => exact ⟨0, Nat.le_refl _, .inl rfl, fun q _ h2 => by rw [show q = 0 by omega]; exact h⟩
  | succ m ih =>
    cases hm : f m
    · exact ⟨m + 1, Nat.le_refl _, .inr hm, fun q h1 h2 => by rw [show q = m + 1 by omega]; exact h⟩
    · obtain ⟨a, h1, h2, h3⟩ := ih hm
      refine ⟨a, by omega, h2, fun q g1 g2 => ?_⟩
      by_cases e : q = m + 1
      · rw [e]; exact h
      · exact h3 q g1 (by omega)
/-- What is said of one run, with what stands ahead of it. -/
def RunOk (f : Nat → Bool) (p : Nat) (a d : Nat) : Prop := 1 ≤ d ∧ a + d ≤ p ∧ (∀ q, a ≤ q → q < a + d → f q = true) ∧ (a = 0 ∨ f (a - 1) = false) ∧ (a + d = p ∨ f (a + d) = false)
def RunsOk (f : Nat → Bool) (p : Nat) (l : List (Nat × Nat)) : Prop :=
  (∀ i (h : i < l.length), RunOk f p l[i].1 l[i].2) ∧ (∀ i j (h : i < l.length) (_ : j < i), l[j].1 + l[j].2 < l[i].1)
theorem runs_spec (f : Nat → Bool) (p : Nat) : RunsOk f p (runs f p) := by
  induction p using Nat.strongRecOn with
  | _ p ih =>
    cases p with
    | zero => exact ⟨fun i h => absurd h (by simp [runs]), fun i j h _ => absurd h (by simp [runs])⟩
    | succ m =>
      cases hm : f m
      · obtain ⟨h1, h2⟩ := ih m (by omega)
        rw [runs_skip f m hm]
        refine ⟨fun i h => ?_, h2⟩
        obtain ⟨a1, a2, a3, a4, a5⟩ := h1 i h
        refine ⟨a1, by omega, a3, a4, ?_⟩
        rcases a5 with a5 | a5
        · exact .inr (by rw [a5]; exact hm)
        · exact .inr a5
      · obtain ⟨a, g1, g2, g3⟩ := run_start f m hm
        have hr := runs_run f a (m + 1 - a) g2 (fun q q1 q2 => g3 q q1 (by omega))
        rw [show a + (m + 1 - a) = m + 1 by omega, if_neg (by omega)] at hr
        obtain ⟨h1, h2⟩ := ih a (by omega)
        have hend : ∀ i (h : i < (runs f a).length), (runs f a)[i].1 + (runs f a)[i].2 < a ∧ f ((runs f a)[i].1 + (runs f a)[i].2) = false := by
          intro i h
          obtain ⟨a1, a2, a3, a4, a5⟩ := h1 i h
          have hlt : (runs f a)[i].1 + (runs f a)[i].2 < a := by
            rcases Nat.lt_or_ge ((runs f a)[i].1 + (runs f a)[i].2) a with e | e
            · exact e
            · have hq := a3 (a - 1) (by omega) (by omega)
              rcases g2 with g2 | g2
              · omega
              · rw [g2] at hq; cases hq
          refine ⟨hlt, ?_⟩
          rcases a5 with a5 | a5
          · omega
          · exact a5
        rw [hr]
        refine ⟨fun i h => ?_, fun i j h hj => ?_⟩
        · by_cases e : i < (runs f a).length
          · rw [List.getElem_append_left e]
            obtain ⟨a1, a2, a3, a4, a5⟩ := h1 i e
            exact ⟨a1, by omega, a3, a4, .inr (hend i e).2⟩
          · simp only [List.length_append, List.length_cons, List.length_nil] at h
            obtain rfl : i = (runs f a).length := by omega
            rw [List.getElem_append_right (Nat.le_refl _)]
            simp only [Nat.sub_self, List.getElem_cons_zero]
            exact ⟨by omega, by omega, fun q q1 q2 => g3 q q1 (by omega), g2, .inl (by omega)⟩
        · by_cases e : i < (runs f a).length
          · rw [List.getElem_append_left e, List.getElem_append_left (by omega)]
            exact h2 i j e hj
          · simp only [List.length_append, List.length_cons, List.length_nil] at h
            obtain rfl : i = (runs f a).length := by omega
            rw [List.getElem_append_right (Nat.le_refl _), List.getElem_append_left hj]
            simp only [Nat.sub_self, List.getElem_cons_zero]
            exact (hend j hj).1
theorem cnt_run (F a d : Nat) (h : ∀ q, a ≤ q → q < a + d → F.testBit q = true) : cnt F (a + d) = cnt F a + d := by
  induction d with
  | zero => rfl
  | succ d ih =>
    rw [← Nat.add_assoc]
    show cnt F (a + d) + _ = _
    rw [ih fun q h1 h2 => h q h1 (by omega), h (a + d) (by omega) (by omega)]
    simp; omega
theorem runs_sum (F p : Nat) : ((runs F.testBit p).map (·.2)).sum = cnt F p := by
  induction p using Nat.strongRecOn with
  | _ p ih =>
    cases p with
    | zero => rfl
    | succ m =>
      cases hm : F.testBit m
      · rw [runs_skip _ m hm, ih m (by omega)]
        show _ = cnt F m + _
        rw [hm]; simp
      · obtain ⟨a, g1, g2, g3⟩ := run_start F.testBit m hm
        have hr := runs_run F.testBit a (m + 1 - a) g2 (fun q q1 q2 => g3 q q1 (by omega))
        have hc := cnt_run F a (m + 1 - a) (fun q q1 q2 => g3 q q1 (by omega))
        rw [show a + (m + 1 - a) = m + 1 by omega] at hr hc
        rw [if_neg (by omega)] at hr
        rw [hr, List.map_append, List.sum_append, ih a (by omega), hc]
        simp
end Go.Proofs.YtmecndmoobddkaaDoor
