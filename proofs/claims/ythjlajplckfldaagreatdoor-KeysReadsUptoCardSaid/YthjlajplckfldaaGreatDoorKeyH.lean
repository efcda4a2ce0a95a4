/-
  PROVED HERE: the laws' own function that holds two lists of pairs side by side. Conditions: those that each theorem names.
-/
import Derived.Test.YthjlajplckfldaaGreatDoorKeyG
namespace Go.Proofs.YthjlajplckfldaaGreatDoor
open Go.RowKit Go.Shelf
theorem take_eq {a b : List Pr} (hn : a.length = b.length) {k : Nat} (hk : k < a.length) (h : a.take k = b.take k) : (a[k] = b[k]'(hn ▸ hk) → a.take (k + 1) = b.take (k + 1)) ∧ (a[k] ≠ b[k]'(hn ▸ hk) → decide (a = b) = false) := by
  refine ⟨fun e => ?_, fun e => decide_eq_false fun hab => e (by subst hab; rfl)⟩
  rw [List.take_succ_eq_append_getElem hk, List.take_succ_eq_append_getElem (hn ▸ hk), h, e]
set_option maxRecDepth 100000 in
set_option maxHeartbeats 4000000 in
theorem same_any {w : World} {v u : Value} {a b : List Pr} (ha : IsPrsA w v a) (hb : IsPrsA w u b) (hl : a.length ≤ 4611686018427387904) : Calls Tryz.prog 12 #[v, u] w fun e w' => e = .returned (.bool (decide (a = b))) ∧ Below w.heap.size w w' := by
  obtain ⟨p, cap, rfl⟩ : ∃ p cap, v = .slice p a.length cap := ha.slice
  obtain ⟨q, cbp, rfl⟩ : ∃ p cap, u = .slice p b.length cap := hb.slice
  have HA := Lib.hid ha
  have HB := Lib.hid hb
  have HL := Lib.hid hl
  clear ha hb hl
  by_cases hn : a.length = b.length
  · have HN := Lib.hid hn
    generalize hnb : b.length = nb at *
    subst hn
    have HNB := Lib.hid hnb
    clear hnb
    go_enter Tryz.func12, Tryz.ntmps12
    go_wp2_with fail
    go_loopw [5] (fun i wr => ∃ k : Nat, k ≤ a.length ∧ i = .int .i64 k ∧ a.take k = b.take k ∧ Below w.heap.size w wr) (fun i _ => a.length - (intOf i).toNat)
    case atStart => exact ⟨0, Nat.zero_le _, rfl, rfl, Below.refl _ _⟩
    case round =>
      obtain ⟨k, hk, rfl, hT, hW⟩ := hrel
      have HT := Lib.hid hT
      have HW := Lib.hid hW
      have hl := HL.out
      clear hT hW
      by_cases hkl : k < a.length
      · have hkb : k < b.length := by have := HNB.out; omega
        obtain ⟨-, g, o, rfl, hg, hc1, hc2, hcc⟩ := HA.out.at hkl
        obtain ⟨-, g', o', rfl, hg', hc1', hc2', hcc'⟩ := HB.out.at hkb
        have hte := take_eq (HNB.out.symm) hkl HT.out
        obtain ⟨ak, av, hak⟩ : ∃ x y, a[k] = (x, y) := ⟨_, _, rfl⟩
        obtain ⟨bk, bv, hbk⟩ : ∃ x y, b[k] = (x, y) := ⟨_, _, rfl⟩
        rw [hak] at hcc hte
        rw [hbk] at hcc' hte
        have HTE := Lib.hid hte
        have HCC := Lib.hid (fun W hW => (⟨by have := hcc W hW 0 _ rfl; rwa [Nat.add_zero] at this, hcc W hW 1 _ rfl⟩ : W.cell? ⟨g, o + k * 2, none⟩ = some (.string (txt ak)) ∧ W.cell? ⟨g, o + k * 2 + 1, none⟩ = some (.string (txt av))))
        have HCC' := Lib.hid (fun W hW => (⟨by have := hcc' W hW 0 _ rfl; rwa [Nat.add_zero] at this, hcc' W hW 1 _ rfl⟩ : W.cell? ⟨g', o' + k * 2, none⟩ = some (.string (txt bk)) ∧ W.cell? ⟨g', o' + k * 2 + 1, none⟩ = some (.string (txt bv))))
        obtain ⟨q1, q2⟩ := HCC.out wr HW.out
        obtain ⟨q3, q4⟩ := HCC'.out wr HW.out
        clear hcc hcc' hte hak hbk
        rcases Bool.eq_false_or_eq_true (ak == bk) with hx | hx
        · rcases Bool.eq_false_or_eq_true (av == bv) with hy | hy
          · have HE := Lib.hid (HTE.out.1 (by rw [beq_iff_eq.1 hx, beq_iff_eq.1 hy]))
            go_wp2_with fail
            go_quiet (fail)
            go_wp2
            go_roundw
            case rel => exact ⟨k + 1, hkl, by simp, HE.out, below_drewN HW.out nq⟩
            case measure => simp [intOf]; omega
          · have HE := Lib.hid (HTE.out.2 (by intro e; cases e; rw [beq_self_eq_true] at hy; cases hy))
            go_wp2_with fail
            go_quiet (fail)
            go_wp2
            go_ret
            exact ⟨by rw [HE.out]; rfl, below_drewN HW.out nq⟩
        · have HE := Lib.hid (HTE.out.2 (by intro e; cases e; rw [beq_self_eq_true] at hx; cases hx))
          go_wp2_with fail
          go_quiet (fail)
          go_wp2
          go_ret
          exact ⟨by rw [HE.out]; rfl, below_drewN HW.out nq⟩
      · obtain rfl : k = a.length := by omega
        have HE := Lib.hid (show decide (a = b) = true by
          have h := HT.out
          rw [List.take_length, ← HNB.out, List.take_length] at h
          exact decide_eq_true h)
        go_wp2_with fail
        go_ret
        exact ⟨by rw [HE.out]; rfl, HW.out⟩
  · have hn' : decide ((a.length : Int) = (b.length : Int)) = false := decide_eq_false (by omega)
    have HE := Lib.hid (show decide (a = b) = false from decide_eq_false fun e => hn (by rw [e]))
    go_enter Tryz.func12, Tryz.ntmps12
    go_wp2_with fail
    go_ret
    exact ⟨by rw [HE.out]; rfl, Below.refl _ _⟩
end Go.Proofs.YthjlajplckfldaaGreatDoor
