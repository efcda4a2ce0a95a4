/-
  PROVED HERE: what the functions of the reference's allocator do to its blocks (New, Runs). Conditions: its blocks are its own.
-/
import Derived.Test.YtmecndmoobddkaaDoorRefD
import Derived.Laws.MakeOwn
namespace Go.Proofs.YtmecndmoobddkaaDoor
open Go.RowKit

theorem info_of {P : Program} {t : TypeId} {z : Value} {a b : Nat} (h : (P.info? t).map (fun i => (i.zero, i.size, i.bytes)) = some (some z, a, b)) : ∃ i, P.info? t = some i ∧ i.zero = some z ∧ i.size = a ∧ i.bytes = b := info_parts h
theorem made_zero (n : Nat) (q : Nat) (hq : q < n) : (madeCells #[.int .i64 0] n)[q]? = some (.int .i64 0) := by
  unfold madeCells
  rw [Array.getElem?_map, Array.getElem?_range]
  simp [hq, Nat.mod_one]
theorem run_make_ints (n : Nat) (h : n ≤ 1024) (w : World) : (Instr.makeSlice 50 (.int .i64 n) (.int .i64 n)).run Tryd.prog w = .ok (.slice (some ⟨w.heap.size, 0, none⟩) n n) (w.alloc (.cells (madeCells #[.int .i64 0] n) 3)) := by
  obtain ⟨i, hi, hz, hs, hb⟩ := info_of infoInt
  have := run_make (P := Tryd.prog) w 50 3 i (.int .i64 0) Tryd.underlying50 hi hz .i64 .i64 n n (by omega) (Int.le_refl _) (by rw [hb]; omega) (by omega)
  rw [this, hs]
  simp [Value.cells]
theorem St.new_clean (n : Nat) : (St.new n).clean := ⟨fun q hq => by simp [St.new] at hq, fun q hq => by simp [St.new] at hq⟩
theorem new_pst (n q : Nat) (hq : q < n) : pst (2 ^ n - 1) 0 q = 0 := by
  unfold pst; rw [Nat.testBit_two_pow_sub_one]; simp [hq]

set_option maxHeartbeats 400000 in
theorem rnew_no {n : Int} {w : World} (h : n < 1 ∨ 1024 < n) :
    Calls Tryd.prog 14 #[.int .i64 n] w fun e w' => e = .returned (.pointer none) ∧ w' = w := by
  rcases h with h | h
  · go_enter Tryd.func14, Tryd.ntmps14
    go_wp2
    go_ret
    exact ⟨rfl, rfl⟩
  · have h' : ¬ n < 1 := by omega
    go_enter Tryd.func14, Tryd.ntmps14
    go_wp2
    go_ret
    exact ⟨rfl, rfl⟩
theorem rnew_made {n : Nat} {w : World} {a b : Nat} (h1 : 1 ≤ n) (h2 : n ≤ 1024) (hab : (a = w.heap.size ∧ b = w.heap.size + 1) ∨ (a = w.heap.size + 1 ∧ b = w.heap.size)) :
    IsR (((w.alloc (.cells (madeCells #[.int .i64 0] n) 3)).alloc (.cells (madeCells #[.int .i64 0] n) 3)).alloc (.cells #[.slice (some ⟨a, 0, none⟩) n n, .slice (some ⟨b, 0, none⟩) n n] 52)).drew (w.heap.size + 1 + 1) a b (St.new n) := by
  have hold : ∀ k, (k = w.heap.size ∨ k = w.heap.size + 1) → (((w.alloc (.cells (madeCells #[.int .i64 0] n) 3)).alloc (.cells (madeCells #[.int .i64 0] n) 3)).alloc (.cells #[.slice (some ⟨a, 0, none⟩) n n, .slice (some ⟨b, 0, none⟩) n n] 52)).drew.heap[k]? = some (.cells (madeCells #[.int .i64 0] n) 3 (0, 0)) := by
    intro k hk
    show ((((w.heap.push _).push _).push _)[k]?) = _
    simp only [Array.getElem?_push, Array.size_push]
    rcases hk with rfl | rfl
    · rw [if_neg (by omega), if_neg (by omega), if_pos rfl]
    · rw [if_neg (by omega), if_pos rfl]
  have hz : ∀ k F, (k = w.heap.size ∨ k = w.heap.size + 1) → (∀ q, q < n → pst F 0 q = 0) → Holds (((w.alloc (.cells (madeCells #[.int .i64 0] n) 3)).alloc (.cells (madeCells #[.int .i64 0] n) 3)).alloc (.cells #[.slice (some ⟨a, 0, none⟩) n n, .slice (some ⟨b, 0, none⟩) n n] 52)).drew k n (pst F 0) := by
    intro k F hk hF
    exact ⟨_, hold k hk, by rw [size_madeCells]; omega, fun q hq => by rw [made_zero n q hq, hF q hq]⟩
  refine ⟨⟨n, n, Nat.le_refl _, Nat.le_refl _, ?_⟩, hz a _ (by omega) (fun q hq => new_pst n q hq), hz b _ (by omega) (fun q hq => new_pst n q hq), by omega, by omega, by omega, St.new_ok h1 h2, St.new_clean n⟩
  show ((((w.heap.push _).push _).push _)[w.heap.size + 1 + 1]?) = _
  simp only [Array.getElem?_push, Array.size_push, if_true]
  rfl
set_option maxHeartbeats 800000 in
theorem rnew_yes {n : Nat} {w : World} (h1 : 1 ≤ n) (h2 : n ≤ 1024) :
    Calls Tryd.prog 14 #[.int .i64 n] w fun e w' => ∃ r g1 g2, e = .returned (pt r) ∧ IsR w' r g1 g2 (St.new n) ∧ w.heap.size ≤ r ∧ w.heap.size ≤ g1 ∧ w.heap.size ≤ g2 ∧ Upd [] w w' := by
  have h1' : ¬ ((n : Int) < 1) := by omega
  have hmk := run_make_ints n h2
  go_enter Tryd.func14, Tryd.ntmps14
  go_wp2
  go_region
  all_goals
    go_wp2
    go_ret
    first
      | exact ⟨_, _, _, rfl, rnew_made h1 h2 (.inl ⟨rfl, rfl⟩), by omega, by omega, by omega, (((Upd.refl _ _).alloc _).alloc _).alloc _ |>.drew⟩
      | exact ⟨_, _, _, rfl, rnew_made h1 h2 (.inr ⟨rfl, rfl⟩), by omega, by omega, by omega, (((Upd.refl _ _).alloc _).alloc _).alloc _ |>.drew⟩

theorem IsEnts.bump {w : World} {B : Nat} {v : Value} {l : List (Nat × Nat)} {a d : Nat} (h : IsEnts w B v (l ++ [(a, d)])) :
    ∃ g c, v = .slice (some ⟨g, 0, none⟩) (l.length + 1) c ∧ B ≤ g ∧ l.length + 1 ≤ 9223372036854775807 ∧ w.cell? ⟨g, l.length * 2 + 1, none⟩ = some (.int .i64 (d : Int)) ∧ w.frozen? ⟨g, l.length * 2 + 1, none⟩ = false ∧
      IsEnts (w.setCell ⟨g, l.length * 2 + 1, none⟩ (.int .i64 ((d : Int) + 1))) B v (l ++ [(a, d + 1)]) := by
  rw [show ((d : Int) + 1) = ((d + 1 : Nat) : Int) by omega]
  obtain ⟨hlen, h2⟩ := h
  rcases h2 with ⟨rfl, h0⟩ | ⟨g, cap, cur, rfl, hg, hb, hn, hc, hcs, ht⟩
  · simp at h0
  · simp only [List.length_append, List.length_cons, List.length_nil, Nat.zero_add] at *
    have hx : (l.length * 2 + 1) < cur.size := by rw [hcs]; omega
    have hcell : cur[l.length * 2 + 1]? = some (.int .i64 (d : Int)) := by
      have h3 := (ents_at (l ++ [(a, d)]) l.length (by simp)).2
      rw [← ht, List.getElem?_take_of_lt (by omega)] at h3
      rw [List.getElem_append_right (Nat.le_refl _)] at h3
      simpa using h3
    refine ⟨g, cap, rfl, hg, by unfold maxLen at hc; omega, by rw [(cells_of hb).1]; exact hcell, (cells_of hb).2 _, ?_⟩
    refine ⟨by rw [ents_len], .inr ⟨g, cap, _, by simp, hg, heap_setCell_same w g _ _ _ _ hb, by simpa using hn, hc, by simpa using hcs, ?_⟩⟩
    have hsplit : ∀ y, ents (l ++ [(a, y)]) = ents l ++ [.int .i64 (a : Int), .int .i64 (y : Int)] := fun y => by rw [ents_append]; rfl
    rw [hsplit] at ht ⊢
    apply List.ext_getElem?
    intro j
    simp only [List.length_append, List.length_cons, List.length_nil, Nat.zero_add]
    rw [Array.toList_setIfInBounds]
    have htj : (cur.toList.take ((l.length + 1) * 2))[j]? = (ents l ++ [Value.int .i64 (a : Int), .int .i64 (d : Int)])[j]? := by rw [ht]
    by_cases hj : j < (l.length + 1) * 2
    · rw [List.getElem?_take_of_lt hj] at htj ⊢
      rw [List.getElem?_set]
      by_cases e : l.length * 2 + 1 = j
      · subst e
        rw [if_pos rfl, if_pos (by simpa using hx), List.getElem?_append_right (by rw [ents_len]; omega), ents_len]
        simp
      · rw [if_neg e, htj]
        by_cases e2 : j < l.length * 2
        · rw [List.getElem?_append_left (by rw [ents_len]; exact e2), List.getElem?_append_left (by rw [ents_len]; exact e2)]
        · rw [List.getElem?_append_right (by rw [ents_len]; omega), List.getElem?_append_right (by rw [ents_len]; omega), ents_len, show j - l.length * 2 = 0 by omega]
          rfl
    · rw [List.getElem?_eq_none (by simp; omega), List.getElem?_eq_none (by simp [ents_len]; omega)]
/-- A run that has come to the page before: the last of the runs. -/
theorem runs_last (f : Nat → Bool) (p : Nat) (h : 0 < p) (hf : f (p - 1) = true) : ∃ l a d, runs f p = l ++ [(a, d)] := by
  obtain ⟨m, rfl⟩ : ∃ m, p = m + 1 := ⟨p - 1, by omega⟩
  obtain ⟨a, g1, g2, g3⟩ := run_start f m hf
  have hr := runs_run f a (m + 1 - a) g2 (fun q q1 q2 => g3 q q1 (by omega))
  rw [show a + (m + 1 - a) = m + 1 by omega, if_neg (by omega)] at hr
  exact ⟨_, _, _, hr⟩
set_option maxHeartbeats 1600000 in
theorem rruns_any {r g1 g2 : Nat} {s : St} {w : World} (h : IsR w r g1 g2 s) :
    Calls Tryd.prog 26 #[pt r] w fun e w' => ∃ v, e = .returned v ∧ IsEnts w' w.heap.size v s.runs ∧ Upd [] w w' := by
  obtain ⟨c1, c2, k1, k2, ho⟩ := h.obj
  have h10 := h.ok.2.1
  have H := Lib.hid h
  have hr := lt_of_block ho
  have hg1 := h.now.lt
  have HO := Lib.hid ho
  obtain ⟨i0, hi, hz0, hz1, hz2⟩ := info_parts infoEntry
  have HI := Lib.hid hi
  clear h ho hi
  go_enter Tryd.func26, Tryd.ntmps26
  go_wp2
  go_loopw [3, 4] (fun v i wr => ∃ k : Nat, k ≤ s.n ∧ i = .int .i64 k ∧ IsEnts wr w.heap.size v (runs s.F.testBit k) ∧ Upd [] w wr) (fun _ i _ => s.n - (intOf i).toNat)
  case atStart => exact ⟨0, by omega, rfl, IsEnts.nil _ _, Upd.refl _ _⟩
  case round =>
    obtain ⟨k, hk, rfl, hv, hU⟩ := hrel
    have ho1 := hU.get HO.out (by simp)
    have c0 := (cells_of ho1).1 0
    simp only [List.getElem?_toArray, List.getElem?_cons_zero] at c0
    have hh := H.out.now.upd hU (by simp)
    have HU := Lib.hid hU
    have HH := Lib.hid hh
    have HV := Lib.hid hv
    have hsz := hU.size
    clear hU hh ho1 hv
    by_cases hlt : k < s.n
    · have hc := HH.out.cell hlt
      have hb := pst_free s.F s.D k
      have hb' : (pst s.F s.D k != 0) = !s.F.testBit k := by rw [← hb]; rfl
      have hlen := runs_len s.F.testBit k
      cases hf : s.F.testBit k
      · rw [hf] at hb'
        have HR := Lib.hid (runs_skip s.F.testBit k hf)
        clear hb hf
        go_wp2
        go_roundw
        case rel => exact ⟨k + 1, by omega, by go_num, by rw [HR.out]; exact HV.out, HU.out⟩
        case measure => simp [intOf]; omega
      · rw [hf] at hb'
        have hstep : runs s.F.testBit (k + 1) = if k ≠ 0 ∧ s.F.testBit (k - 1) = true then Go.Proofs.YtmecndmoobddkaaDoor.bump (runs s.F.testBit k) else runs s.F.testBit k ++ [(k, 1)] := by
          show (if s.F.testBit k then _ else _) = _
          rw [hf]; rfl
        by_cases hprev : k ≠ 0 ∧ s.F.testBit (k - 1) = true
        · rw [if_pos hprev] at hstep
          obtain ⟨hk0, hpf⟩ := hprev
          have hk1 : (0 : Int) < k := by omega
          have hcp := HH.out.cell (q := k - 1) (by omega)
          have hbp := pst_free s.F s.D (k - 1)
          rw [hpf] at hbp
          obtain ⟨l, a, d, hrl⟩ := runs_last s.F.testBit k (by omega) hpf
          have hvl := HV.out
          rw [hrl] at hvl hstep
          rw [bump_snoc] at hstep
          obtain ⟨g, c, rfl, hg, hl63, hce, hfz, hnew⟩ := hvl.bump
          have hd : d ≤ 1024 := by
            have := (runs_spec s.F.testBit k).1 l.length (by rw [hrl]; simp)
            obtain ⟨_, a2, _⟩ := this
            simp only [hrl] at a2
            rw [List.getElem_append_right (Nat.le_refl _)] at a2
            simp at a2
            omega
          have HS := Lib.hid hstep
          have HNew := Lib.hid hnew
          have hl1 : ((l.length : Int) + 1 - 1).toNat = l.length := by omega
          clear hb hf hstep hpf hrl hvl hnew
          go_wp2
          go_roundw
          case rel => exact ⟨k + 1, by omega, by go_num, by rw [HS.out]; exact HNew.out, HU.out.setCell (.inr hg) _⟩
          case measure => simp [intOf]; omega
        · rw [if_neg hprev] at hstep
          have HS := Lib.hid hstep
          have hown : ∀ {v' : Value} {w1 : World}, w1.ownsRow w.heap.size 32 2 v' ((runs s.F.testBit k).length + 1) (ents (runs s.F.testBit k) ++ [.int .i64 (k : Int), .int .i64 1]) → IsEnts w1 w.heap.size v' (runs s.F.testBit k ++ [(k, 1)]) := by
            intro v' w1 h
            unfold IsEnts
            rw [ents_append, List.length_append]
            exact h
          have HOwn := @hown
          clear hown hstep hf
          by_cases k0 : k = 0
          · subst k0
            clear hprev
            go_wp2_with (at_builtin; refine wpList_append_own _ rfl (.tmp 14) (.tmp 17) 28 rfl w.heap.size 32 i0 _ 2 16 Tryd.underlying28 HI.out hz0 hz1 hz2 rfl (by decide) _ _ _ rfl (HV.out.alloc _) ⟨_, 0, none⟩ 1 1 [.int .i64 0, .int .i64 1] rfl rfl ?c1 ?c2 ?c3 ?c4 ?c5 ?_)
            case c1 => exact news_at _ _ _
            case c2 => simp [Value.oneCell']
            case c3 => unfold maxLen; omega
            case c4 => omega
            case c5 => simp; omega
            intro v' w1 hown hgr _
            have HU1 := Lib.hid ((HU.out.alloc _).step (Upd.of_grown hgr) fun x hx => .inr (ownsRow_block HV.out x hx))
            have HV1 := Lib.hid (HOwn hown)
            clear hown hgr HV HOwn
            go_wp2
            go_roundw
            case rel => exact ⟨0 + 1, by omega, by go_num, by rw [HS.out]; exact HV1.out, HU1.out⟩
            case measure => simp [intOf]; omega
          · have hpf : s.F.testBit (k - 1) = false := by
              cases h : s.F.testBit (k - 1)
              · rfl
              · exact absurd ⟨k0, h⟩ hprev
            have hk1 : (0 : Int) < k := by omega
            have hcp := HH.out.cell (q := k - 1) (by omega)
            have hbp := pst_free s.F s.D (k - 1)
            rw [hpf] at hbp
            clear hprev hpf k0
            go_wp2_with (at_builtin; refine wpList_append_own _ rfl (.tmp 14) (.tmp 17) 28 rfl w.heap.size 32 i0 _ 2 16 Tryd.underlying28 HI.out hz0 hz1 hz2 rfl (by decide) _ _ _ rfl (HV.out.alloc _) ⟨_, 0, none⟩ 1 1 [.int .i64 (k : Int), .int .i64 1] rfl rfl ?c1 ?c2 ?c3 ?c4 ?c5 ?_)
            case c1 => exact news_at _ _ _
            case c2 => simp [Value.oneCell']
            case c3 => unfold maxLen; omega
            case c4 => omega
            case c5 => simp; omega
            intro v' w1 hown hgr _
            have HU1 := Lib.hid ((HU.out.alloc _).step (Upd.of_grown hgr) fun x hx => .inr (ownsRow_block HV.out x hx))
            have HV1 := Lib.hid (HOwn hown)
            clear hown hgr HV HOwn
            go_wp2
            go_roundw
            case rel => exact ⟨k + 1, by omega, by go_num, by rw [HS.out]; exact HV1.out, HU1.out⟩
            case measure => simp [intOf]; omega
    · obtain rfl : k = s.n := by omega
      go_wp2
      go_ret
      exact ⟨_, rfl, HV.out, HU.out⟩
end Go.Proofs.YtmecndmoobddkaaDoor
