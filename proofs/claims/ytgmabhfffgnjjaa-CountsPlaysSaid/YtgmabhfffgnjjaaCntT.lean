/-
  PROVED HERE: the document's counts in memory: Load, Touched; the statements' comparing of two lists of numbers. Conditions: those that each theorem names.
-/
import Derived.Test.YtgmabhfffgnjjaaCntS
namespace Go.Proofs.Ytgmabhfffgnjjaa
open Go.RowKit

theorem IsR.put1 {w : World} {b g h j k q : Nat} {s : Ct} {l : List Int} (H : IsR w b g h s) (hl : inK l) (hq : 120 * j + k = q) (hqn : q < s.now.length) :
    IsR (w.drew.setCell ⟨g, q, none⟩ (.int .i64 (l.getD k 0))) b g h ⟨s.now.set q (l.getD k 0), s.old⟩ ∧ IsR ((w.drew.setCell ⟨g, q, none⟩ (.int .i64 (l.getD k 0))).drew.setCell ⟨h, q, none⟩ (.int .i64 (l.getD k 0))) b g h (s.put1 j l k) ∧
      Upd [g, h] w ((w.drew.setCell ⟨g, q, none⟩ (.int .i64 (l.getD k 0))).drew.setCell ⟨h, q, none⟩ (.int .i64 (l.getD k 0))) := by
  obtain ⟨h1, u1⟩ := H.setNow hqn (hl.get k)
  obtain ⟨h2, u2⟩ := h1.setWas (i := q) (by simpa using hqn) (hl.get k)
  refine ⟨h1, ?_, (u1.mono (by simp)).trans (u2.mono (by simp))⟩
  have e : s.put1 j l k = ⟨s.now.set q (l.getD k 0), s.old.set q (l.getD k 0)⟩ := by unfold Ct.put1; rw [hq, if_pos hqn]
  rw [e]
  exact h2
theorem rload_no {w : World} {b g h : Nat} {s : Ct} (H : IsR w b g h s) {p : Int} (hp : s.inM p = false) (v : Value) : Calls Try.prog 20 #[.pointer (some ⟨b, 0, none⟩), .int .i64 p, v] w fun e w' => e = .returned (.int .i64 2) ∧ w = w' := by
  obtain ⟨c0, _⟩ := H.head
  have HMY := Lib.hid (fun w => rmany_yes s.now.length H.ok.lo H.ok.hi w)
  have hn := H.ok.hi
  rcases Ct.inM_false hp with h1 | h1
  · clear hp H
    go_enter Try.func20, Try.ntmps20
    go_wp2
    go_ret
    exact ⟨rfl, rfl⟩
  · have h2 : ¬ p < 0 := by omega
    clear hp H
    go_enter Try.func20, Try.ntmps20
    go_wp2_with (go_at_call 17; (with_reducible refine (HMY.out _).mono ?_); rintro e w' ⟨rfl, rfl⟩)
    go_ret
    exact ⟨rfl, rfl⟩
set_option maxRecDepth 100000 in
set_option maxHeartbeats 6400000 in
theorem rload_yes {w : World} {b g h : Nat} {s : Ct} (H : IsR w b g h s) {j : Nat} (hj : j < manyOf s.now.length) {a : Option Addr} {by_ : List Nat} {cap : Nat} (hb : IsBytes w a by_) (hm : by_.length ≤ 9223372036854775807) :
    Calls Try.prog 20 #[.pointer (some ⟨b, 0, none⟩), .int .i64 (j : Nat), .slice a by_.length cap] w fun e w' => e = .returned (.int .i64 (s.load j by_).1) ∧ IsR w' b g h (s.load j by_).2 ∧ Upd [g, h] w w' := by
  obtain ⟨c0, _⟩ := H.head
  have HMY := Lib.hid (fun w => rmany_yes s.now.length H.ok.lo H.ok.hi w)
  have hn := H.ok.hi
  have hj9 : j ≤ 8 := by unfold manyOf at hj; omega
  have hj' : ¬ manyOf s.now.length ≤ j := by omega
  have hin := Ct.inM_of hj
  have hG := rgetCounts_any (cap := cap) hb hm
  rw [← getCounts_ref hb.1] at hG
  have HG := Lib.hid hG
  have HH := Lib.hid H
  clear hG
  cases hg : getCounts by_ with
  | none =>
    have HR := Lib.hid (show s.load j by_ = (14, s) by unfold Ct.load; rw [if_pos hin, hg])
    rw [hg] at HG
    clear H hb hin hg
    go_enter Try.func20, Try.ntmps20
    go_wp2_with (first
      | (go_at_call 17; (with_reducible refine (HMY.out _).mono ?_); rintro e w' ⟨rfl, rfl⟩)
      | (go_at_call 33; (with_reducible refine HG.out.mono ?_); rintro e w1 ⟨⟨v, rfl, _⟩, u1⟩; have U1 := Lib.hid u1; clear u1; simp only [Option.isSome_none]))
    go_ret
    rw [HR.out]
    exact ⟨rfl, HH.out.stay U1.out, U1.out.mono (by simp)⟩
  | some l =>
    obtain ⟨hl, hk⟩ := getCounts_in hg
    have HL := Lib.hid hl
    have HK := Lib.hid hk
    have HNO := Lib.hid (fun (hr : s.room j l = false) => (show s.load j by_ = (14, s) by unfold Ct.load; rw [if_pos hin, hg]; simp only [Int.toNat_natCast]; rw [hr]; rfl))
    have HYE := Lib.hid (fun (hr : s.room j l = true) => (show s.load j by_ = (0, s.full j l) by unfold Ct.load; rw [if_pos hin, hg]; simp only [Int.toNat_natCast]; rw [hr]; rfl))
    rw [hg] at HG
    clear H hb hin hg hl hk
    go_enter Try.func20, Try.ntmps20
    go_wp2_with (first
      | (go_at_call 17; (with_reducible refine (HMY.out _).mono ?_); rintro e w' ⟨rfl, rfl⟩)
      | (go_at_call 33; (with_reducible refine HG.out.mono ?_); rintro e w1 ⟨⟨v, rfl, hv⟩, u1⟩; have U1 := Lib.hid u1; rw [Option.getD_some] at hv; have hlow := hv.low; obtain ⟨av, cv, rfl, hvi, hvb, hvc, hvm⟩ := hv.slice; rw [HL.out] at hvc ⊢; have HVI := Lib.hid hvi; have HVB := Lib.hid hvb; have HLOW := Lib.hid hlow; clear u1 hv hvi hvb hlow; simp only [Option.isSome_some]))
    have H1 := Lib.hid (HH.out.stay U1.out)
    have c1 := H1.out.head.1
    clear c0
    go_loop [9] (fun i => ∃ k : Nat, k ≤ 120 ∧ i = .int .i64 k ∧ ∀ q, q < k → s.room1 j l q = true) (fun i => 120 - (RowKit.intOf i).toNat)
    case atStart => exact ⟨0, by decide, rfl, fun q hq => absurd hq (by omega)⟩
    case round =>
      obtain ⟨k, hk, rfl, hro⟩ := hrel
      have HRO := Lib.hid hro
      clear hro
      by_cases hlt : k < 120
      · have hkl : k < l.length := by have := HL.out; omega
        obtain ⟨bv, ov, rfl, hcell⟩ := HVI.out k hkl
        have hx := HK.out _ (List.getElem_mem hkl)
        have hr1 : s.room1 j l k = (decide (l[k] ≤ 0) || decide (120 * j + k < s.now.length)) := by unfold Ct.room1; rw [getD_in _ _ hkl]
        have HR1 := Lib.hid hr1
        generalize l[k] = x at hcell hx HR1
        obtain ⟨hx0, hx1⟩ := hx
        have hx2 : ¬ 1000 < x := by omega
        have hx4 : ¬ x < 0 := by omega
        clear hr1
        by_cases hxz : x ≤ 0
        · have hx3 : ¬ 0 < x := by omega
          go_wp2
          go_round
          case rel =>
            refine ⟨k + 1, by omega, by go_num, fun q hq => ?_⟩
            by_cases e : q = k
            · subst e; rw [HR1.out, decide_eq_true hxz]; rfl
            · exact HRO.out q (by omega)
          case measure => simp [RowKit.intOf]; omega
        · have hx3 : 0 < x := by omega
          by_cases hfit : 120 * j + k < s.now.length
          · have hf2 : ¬ (s.now.length : Int) ≤ (j : Int) * 120 + (k : Int) := by omega
            go_wp2
            go_round
            case rel =>
              refine ⟨k + 1, by omega, by go_num, fun q hq => ?_⟩
              by_cases e : q = k
              · subst e; rw [HR1.out, decide_eq_true hfit, Bool.or_true]
              · exact HRO.out q (by omega)
            case measure => simp [RowKit.intOf]; omega
          · have hf2 : (s.now.length : Int) ≤ (j : Int) * 120 + (k : Int) := by omega
            have HBAD := Lib.hid (HNO.out (Ct.room_not hlt (by rw [HR1.out, decide_eq_false hxz, decide_eq_false hfit]; rfl)))
            go_wp2
            go_ret
            rw [HBAD.out]
            exact ⟨rfl, H1.out, U1.out.mono (by simp)⟩
      · obtain rfl : k = 120 := by omega
        have HROOM := Lib.hid (HYE.out (Ct.room_of HRO.out))
        clear hlt c1
        go_wp2
        go_loopw [10] (fun i wr => ∃ k : Nat, k ≤ 120 ∧ i = .int .i64 k ∧ IsR wr b g h (s.put j l k) ∧ Upd [g, h] w1 wr) (fun i _ => 120 - (RowKit.intOf i).toNat)
        case atStart => exact ⟨0, by decide, rfl, H1.out, Upd.refl _ _⟩
        case round =>
          obtain ⟨k, hk, rfl, hC, hU⟩ := hrel
          have HC := Lib.hid hC
          have HU := Lib.hid hU
          have hpl := Ct.put_len s j l k
          obtain ⟨d0, d1⟩ := hC.head
          rw [hpl] at d0 d1
          have HPL := Lib.hid hpl
          clear hC hU hpl
          by_cases hlt : k < 120
          · have hkl : k < l.length := by have := HL.out; omega
            obtain ⟨bv, ov, rfl, hcell⟩ := HVI.out k hkl
            have hne : bv ∉ [g, h] := by
              have h1 := HLOW.out bv (HVB.out _ _ rfl)
              have h2 := lt_of_block HH.out.row
              have h3 := lt_of_block HH.out.was
              simp only [List.mem_cons, List.not_mem_nil, or_false]
              omega
            have hbg : bv ≠ g := by simp only [List.mem_cons, List.not_mem_nil, or_false, not_or] at hne; exact hne.1
            have hcell2 : wr.cell? ⟨bv, ov + k, none⟩ = some (.int .i64 l[k]) := by rw [← hcell]; exact World.cell?_of_block (HU.out.block bv (World.block_lt_of_cell? _ _ hcell) hne)
            have hgd := getD_in l k hkl
            rw [← hgd] at hcell2
            clear hcell hne hgd
            obtain ⟨q, hq⟩ : ∃ q, 120 * j + k = q := ⟨_, rfl⟩
            have HQ := Lib.hid hq
            have he : (j : Int) * 120 + (k : Int) = (q : Int) := by omega
            have HE0 := Lib.hid he
            by_cases hqn : q < s.now.length
            · obtain ⟨a1, a2⟩ := HC.out.apart
              have a3 := HC.out.ne
              obtain ⟨r1, r2⟩ := row_at HC.out.row (i := q) (by rw [HPL.out]; exact hqn)
              obtain ⟨s1, s2⟩ := row_at HC.out.was (i := q) (by rw [HC.out.ok.len, HPL.out]; exact hqn)
              have HP1 := Lib.hid (HC.out.put1 HK.out HQ.out (by rw [HPL.out]; exact hqn))
              have hw1 : IntKind.i64.wrap ((j : Int) * 120) = (j : Int) * 120 := IntWalk.i64_in _ (by omega)
              have hw2 : IntKind.i64.wrap ((j : Int) * 120 + (k : Int)) = (q : Int) := by rw [he]; exact IntWalk.i64_in _ (by omega)
              have hw3 : IntKind.i64.wrap (q : Int) = (q : Int) := IntWalk.i64_in _ (by omega)
              clear hq
              generalize l.getD k 0 = x at *
              generalize (s.put j l k).now.getD q 0 = y at *
              generalize (s.put j l k).old.getD q 0 = z at *
              go_wp2
              refine wp_region_still_tail 12 (by kernel_rfl) (by kernel_rfl) ?_
              simp only [List.take_succ_cons, List.take_zero, List.drop_succ_cons, List.drop_zero]
              change wpStill _ _ wr.drew (fun a' => wpList _ _ _ _ a' wr.drew) _ _
              iterate 12 still_step
              refine wpStill_nil ?_
              go_wp2
              refine wp_region_still_tail 12 (by kernel_rfl) (by kernel_rfl) ?_
              simp only [List.take_succ_cons, List.take_zero, List.drop_succ_cons, List.drop_zero]
              change wpStill _ _ (wr.setCell ⟨g, q, none⟩ (.int .i64 x)).drew.drew (fun a' => wpList _ _ _ _ a' (wr.setCell ⟨g, q, none⟩ (.int .i64 x)).drew.drew) _ _
              iterate 12 still_step
              refine wpStill_nil ?_
              go_wp2
              go_roundw
              case rel => exact ⟨k + 1, by omega, by go_num, HP1.out.2.1, HU.out.trans HP1.out.2.2⟩
              case measure => simp [RowKit.intOf]; omega
            · have hqn' : ¬ (q : Int) < (s.now.length : Int) := by omega
              have hput : s.put j l k = s.full j l := Ct.full_of s j l (by omega) hk
              have HF := Lib.hid hput
              clear hput hq
              go_wp2
              go_ret
              rw [HROOM.out]
              dsimp only
              rw [← HF.out]
              exact ⟨rfl, HC.out, (U1.out.mono (by simp)).trans HU.out⟩
          · have hfin : IsR wr b g h (s.full j l) := by rw [← Ct.full_eq s j l (show k = 120 by omega)]; exact HC.out
            obtain rfl : k = 120 := by omega
            have HF := Lib.hid hfin
            clear hfin d0 d1 hlt
            go_wp2
            go_ret
            rw [HROOM.out]
            dsimp only
            exact ⟨rfl, HF.out, (U1.out.mono (by simp)).trans HU.out⟩
theorem rload_any {w : World} {b g h : Nat} {s : Ct} (H : IsR w b g h s) (p : Int) {a : Option Addr} {by_ : List Nat} {cap : Nat} (hb : IsBytes w a by_) (hm : by_.length ≤ 9223372036854775807) :
    Calls Try.prog 20 #[.pointer (some ⟨b, 0, none⟩), .int .i64 p, .slice a by_.length cap] w fun e w' => e = .returned (.int .i64 (s.load p by_).1) ∧ IsR w' b g h (s.load p by_).2 ∧ Upd [g, h] w w' := by
  cases hp : s.inM p
  · have e : s.load p by_ = (2, s) := by unfold Ct.load; rw [hp]; rfl
    rw [e]
    exact (rload_no H hp _).mono fun e w' ⟨h1, h2⟩ => by subst h2; exact ⟨h1, H, Upd.refl _ _⟩
  · obtain ⟨j, rfl, hj⟩ := Ct.inM_true hp
    exact rload_yes H hj hb hm
theorem Ct.dirty1_in {s : Ct} {i k : Nat} (h : 120 * i + k < s.now.length) : s.dirty1 i k = !decide (s.now.getD (120 * i + k) 0 = s.old.getD (120 * i + k) 0) := by unfold Ct.dirty1; rw [decide_eq_true h, Bool.true_and]
theorem Ct.dirty1_out {s : Ct} {i k : Nat} (h : s.now.length ≤ 120 * i + k) : s.dirty1 i k = false := by unfold Ct.dirty1; rw [decide_eq_false (by omega), Bool.false_and]
theorem any_range (f : Nat → Bool) (q n : Nat) (hq : q ≤ n) (h : ∀ k, q ≤ k → k < n → f k = false) : (List.range q).any f = (List.range n).any f := by
  rw [Bool.eq_iff_iff, List.any_eq_true, List.any_eq_true]
  constructor
  · rintro ⟨k, hk, hf⟩
    exact ⟨k, List.mem_range.2 (by have := List.mem_range.1 hk; omega), hf⟩
  · rintro ⟨k, hk, hf⟩
    rcases Nat.lt_or_ge k q with h1 | h1
    · exact ⟨k, List.mem_range.2 h1, hf⟩
    · rw [h k h1 (List.mem_range.1 hk)] at hf; cases hf
set_option maxRecDepth 100000 in
set_option maxHeartbeats 6400000 in
theorem rtouched_any {w : World} {b g h : Nat} {s : Ct} (H : IsR w b g h s) : Calls Try.prog 26 #[.pointer (some ⟨b, 0, none⟩)] w fun e w' => TouchOut w.heap.size s.touchedI e w' ∧ Upd [] w w' := by
  have HMY := Lib.hid (fun w => rmany_yes s.now.length H.ok.lo H.ok.hi w)
  have hn := H.ok.hi
  have hm9 : manyOf s.now.length ≤ 9 := by unfold manyOf; omega
  have HH := Lib.hid H
  have hT : ∀ i, ((List.range (i + 1)).filter s.dirty).map (fun k : Nat => (k : Int)) = ((List.range i).filter s.dirty).map (fun k : Nat => (k : Int)) ++ (if s.dirty i then [(i : Int)] else []) := fun i => by
    rw [List.range_succ, List.filter_append, List.map_append]
    congr 1
    cases hd : s.dirty i <;> simp [hd]
  have HT := Lib.hid hT
  clear hT H
  go_enter Try.func26, Try.ntmps26
  go_wp2
  go_loopw [3, 4] (fun v i wr => ∃ j : Nat, j ≤ manyOf s.now.length ∧ i = .int .i64 j ∧ IntsOut wr w.heap.size v (((List.range j).filter s.dirty).map fun k : Nat => (k : Int)) ∧ Upd [] w wr) (fun _ i _ => manyOf s.now.length - (RowKit.intOf i).toNat)
  case atStart => exact ⟨0, by omega, rfl, by simpa using IntsOut.nil _ _, Upd.refl _ _⟩
  case round =>
    obtain ⟨j, hj, rfl, hV, hU⟩ := hrel
    have HV := Lib.hid hV
    have HU := Lib.hid hU
    have HR := Lib.hid (HH.out.stay hU)
    obtain ⟨c0, c1⟩ := HR.out.head
    have hsz := hU.size
    clear hV hU
    by_cases hlt : j < manyOf s.now.length
    · have HTJ := Lib.hid (HT.out j)
      go_wp2_with (go_at_call 17; (with_reducible refine (HMY.out _).mono ?_); rintro e w' ⟨rfl, rfl⟩)
      have HLOW := Lib.hid HV.out.low
      have HV0 := Lib.hid HV.out
      have HLE : Hid ((((List.range j).filter s.dirty).map fun k : Nat => (k : Int)).length ≤ 10000000000000) := by
        have : (((List.range j).filter s.dirty).map fun k : Nat => (k : Int)).length ≤ 10000000000000 := by
          rw [List.length_map]
          have := List.length_filter_le s.dirty (List.range j)
          rw [List.length_range] at this
          omega
        exact this
      obtain ⟨W0, HW0⟩ : ∃ x, x = wr := ⟨_, rfl⟩
      have HWW := Lib.hid HW0
      have HU0 : Hid (Upd [] w W0) := by rw [HW0]; exact HU
      have HVW : Hid (IntsOut W0 w.heap.size u3 (((List.range j).filter s.dirty).map fun k : Nat => (k : Int))) := by rw [HW0]; exact HV
      clear HW0 c0 c1
      go_loopw [5, 6] (fun is i wr => ∃ q r : Nat, q ≤ 120 ∧ r = 120 * j + q ∧ i = .int .i64 r ∧ is = .bool ((List.range q).any (s.dirty1 j)) ∧ Upd [] W0 wr) (fun _ i _ => 120 * (j + 1) - (RowKit.intOf i).toNat)
      case atStart => exact ⟨0, 120 * j, by omega, by omega, by rw [show ((120 * j : Nat) : Int) = (j : Int) * 120 by omega], rfl, by rw [HWW.out]; exact Upd.refl _ _⟩
      case round =>
        obtain ⟨q, r, hq, hr, rfl, rfl, hU2⟩ := hrel
        have HU2 := Lib.hid hU2
        have HR2 := Lib.hid (HH.out.stay (HU0.out.trans hU2))
        have HRR := Lib.hid hr
        obtain ⟨c0, c1⟩ := HR2.out.head
        have hr9 : r ≤ 2000 := by omega
        have hsz2 := hU2.size
        clear hU2
        by_cases hin : q < 120 ∧ r < s.now.length
        · obtain ⟨hq2, hrn⟩ := hin
          have ht : (r : Int) < ((j : Int) + 1) * 120 := by omega
          obtain ⟨r1, _⟩ := row_at HR2.out.row hrn
          obtain ⟨r2, _⟩ := row_at HR2.out.was (i := r) (by rw [HR2.out.ok.len]; exact hrn)
          have hst : (List.range (q + 1)).any (s.dirty1 j) = ((List.range q).any (s.dirty1 j) || !decide (s.now.getD r 0 = s.old.getD r 0)) := by
            have e := Ct.dirty1_in (s := s) (i := j) (k := q) (by omega)
            rw [← hr] at e
            rw [List.range_succ, List.any_append, List.any_cons, List.any_nil, Bool.or_false, e]
          have HST := Lib.hid hst
          clear hst hr
          generalize s.now.getD r 0 = x at *
          generalize s.old.getD r 0 = y at *
          cases hB : (List.range q).any (s.dirty1 j)
          · rw [hB] at HST
            by_cases hxy : x = y
            · subst hxy
              have HN : Hid ((List.range (q + 1)).any (s.dirty1 j) = false) := by
                have : (List.range (q + 1)).any (s.dirty1 j) = false := by rw [HST.out]; simp
                exact this
              clear HST hB
              go_wp2
              go_quiet (fail)
              go_wp2
              go_roundw
              case rel => exact ⟨q + 1, r + 1, by omega, by have := HRR.out; omega, by go_num, by rw [HN.out], HU2.out.drewN _⟩
              case measure => have := HRR.out; simp [RowKit.intOf]; omega
            · have e1 : (x != y) = true := by simpa using hxy
              have HN : Hid ((List.range (q + 1)).any (s.dirty1 j) = true) := by
                have : (List.range (q + 1)).any (s.dirty1 j) = true := by rw [HST.out]; simp [hxy]
                exact this
              clear HST hB hxy
              go_wp2
              go_quiet (fail)
              go_wp2
              go_roundw
              case rel => exact ⟨q + 1, r + 1, by omega, by have := HRR.out; omega, by go_num, by rw [HN.out], HU2.out.drewN _⟩
              case measure => have := HRR.out; simp [RowKit.intOf]; omega
          · rw [hB] at HST
            have HN : Hid ((List.range (q + 1)).any (s.dirty1 j) = true) := by
              have : (List.range (q + 1)).any (s.dirty1 j) = true := by rw [HST.out]; rfl
              exact this
            clear HST hB
            go_wp2
            go_quiet (fail)
            go_wp2
            go_roundw
            case rel => exact ⟨q + 1, r + 1, by omega, by have := HRR.out; omega, by go_num, by rw [HN.out], HU2.out.drewN _⟩
            case measure => have := HRR.out; simp [RowKit.intOf]; omega
        · have hd : (List.range q).any (s.dirty1 j) = s.dirty j := any_range _ _ _ hq fun k hk hk2 => Ct.dirty1_out (by omega)
          have HD := Lib.hid hd
          clear hd
          generalize (List.range q).any (s.dirty1 j) = B at *
          have HTJ2 : Hid (((List.range (j + 1)).filter s.dirty).map (fun k : Nat => (k : Int)) = ((List.range j).filter s.dirty).map (fun k : Nat => (k : Int)) ++ (if B then [(j : Int)] else [])) := by
            have := HTJ.out
            rw [← HD.out] at this
            exact this
          have HVX := Lib.hid (HVW.out.upd HU2.out (by simp))
          have HSZ := Lib.hid HU0.out.size
          cases B
          · have HT3 := Lib.hid HTJ2.out
            simp only [Bool.false_eq_true, if_false, List.append_nil] at HT3
            clear HTJ2
            by_cases hq2 : q < 120
            · have ht : (r : Int) < ((j : Int) + 1) * 120 := by omega
              have ht2 : ¬ r < s.now.length := by omega
              clear hin hr
              go_wp2
              go_roundw
              case rel => exact ⟨j + 1, by omega, by go_num, by rw [HT3.out]; exact HVX.out, HU0.out.trans HU2.out⟩
              case measure => simp [RowKit.intOf]; omega
            · have ht : ¬ (r : Int) < ((j : Int) + 1) * 120 := by omega
              clear hin hr
              go_wp2
              go_roundw
              case rel => exact ⟨j + 1, by omega, by go_num, by rw [HT3.out]; exact HVX.out, HU0.out.trans HU2.out⟩
              case measure => simp [RowKit.intOf]; omega
          · have HT3 := Lib.hid HTJ2.out
            simp only [if_true] at HT3
            clear HTJ2
            have HFIN : Hid (∀ v7 w7, IntsOut w7 w.heap.size v7 (((List.range j).filter s.dirty).map (fun k : Nat => (k : Int)) ++ [(j : Int)]) → Mine u3 (wr.alloc (.cells #[.int .i64 (j : Int)] 3)) v7 w7 → IntsOut w7 w.heap.size v7 (((List.range (j + 1)).filter s.dirty).map fun k : Nat => (k : Int)) ∧ Upd [] w w7) := fun v7 w7 h1 h2 => ⟨by rw [HT3.out]; exact h1, ((HU0.out.trans HU2.out).alloc _).step h2.upd fun x hx => .inr (HVX.out.low x hx).1⟩
            by_cases hq2 : q < 120
            · have ht : (r : Int) < ((j : Int) + 1) * 120 := by omega
              have ht2 : ¬ r < s.now.length := by omega
              clear hin hr
              go_wp2_with (at_builtin; refine wpList_pushi rfl (.tmp 54) (.tmp 56) rfl rfl (HVX.out.upd ((Upd.refl [] _).alloc _) (by simp)) wr.heap.size 1 (j : Int) rfl (news_at _ _ _ 0 _ rfl) HLE.out (by have := HSZ.out; simp; omega) ?_; intro v' w7 hn7 hx7; have HN7 := Lib.hid (HFIN.out _ _ hn7 hx7); clear hn7 hx7)
              go_roundw
              case rel => exact ⟨j + 1, by omega, by go_num, HN7.out.1, HN7.out.2⟩
              case measure => simp [RowKit.intOf]; omega
            · have ht : ¬ (r : Int) < ((j : Int) + 1) * 120 := by omega
              clear hin hr
              go_wp2_with (at_builtin; refine wpList_pushi rfl (.tmp 54) (.tmp 56) rfl rfl (HVX.out.upd ((Upd.refl [] _).alloc _) (by simp)) wr.heap.size 1 (j : Int) rfl (news_at _ _ _ 0 _ rfl) HLE.out (by have := HSZ.out; simp; omega) ?_; intro v' w7 hn7 hx7; have HN7 := Lib.hid (HFIN.out _ _ hn7 hx7); clear hn7 hx7)
              go_roundw
              case rel => exact ⟨j + 1, by omega, by go_num, HN7.out.1, HN7.out.2⟩
              case measure => simp [RowKit.intOf]; omega
    · have e : manyOf s.now.length = j := by omega
      have HE := Lib.hid e
      have ht : ¬ j < manyOf s.now.length := hlt
      clear e
      go_wp2_with (go_at_call 17; (with_reducible refine (HMY.out _).mono ?_); rintro e w' ⟨rfl, rfl⟩)
      go_ret
      exact ⟨⟨_, rfl, by unfold Ct.touchedI Ct.touched; rw [HE.out]; exact HV.out⟩, HU.out⟩
theorem nums_same {w : World} {a a' : Option Addr} {l : List Int} {cap cap' : Nat} (hb : IsInts w a l) (hb' : IsInts w a' l) (hl : l.length ≤ 9223372036854775807) :
    Calls Try.prog 25 #[.slice a l.length cap, .slice a' l.length cap'] w fun e w' => e = .returned (.bool true) ∧ Upd [] w w' := by
  have HB := Lib.hid hb
  have HB' := Lib.hid hb'
  clear hb hb'
  go_enter Try.func25, Try.ntmps25
  go_wp2
  go_loopw [5] (fun i wr => ∃ j : Nat, j ≤ l.length ∧ i = .int .i64 j ∧ Upd [] w wr) (fun i _ => l.length - (RowKit.intOf i).toNat)
  case atStart => exact ⟨0, by omega, rfl, Upd.refl _ _⟩
  case round =>
    obtain ⟨j, hj, rfl, hU⟩ := hrel
    have HU := Lib.hid hU
    clear hU
    by_cases hlt : j < l.length
    · obtain ⟨b, o, rfl, hc⟩ := (HB.out.upd HU.out (by simp)) _ hlt
      obtain ⟨b', o', rfl, hc'⟩ := (HB'.out.upd HU.out (by simp)) j hlt
      generalize l[j] = x at *
      go_wp2
      go_region
      go_wp2
      go_roundw
      case rel => exact ⟨j + 1, by omega, by go_num, HU.out.drew⟩
      case measure => simp [RowKit.intOf]; omega
    · obtain rfl : j = l.length := by omega
      go_wp2
      go_ret
      exact ⟨rfl, HU.out⟩
end Go.Proofs.Ytgmabhfffgnjjaa
