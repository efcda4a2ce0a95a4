/-
  PROVED HERE: the document's counts in memory: Settle, Undo, the counts of a page, Body. Conditions: those that each theorem names.
-/
import Derived.Test.YtgmabhfffgnjjaaCntR
namespace Go.Proofs.Ytgmabhfffgnjjaa
open Go.RowKit

theorem IsR.setWas {w : World} {b g h i : Nat} {t : Ct} (H : IsR w b g h t) (hi : i < t.now.length) {x : Int} (hx : 0 ≤ x ∧ x ≤ 1000) : IsR (w.drew.setCell ⟨h, i, none⟩ (.int .i64 x)) b g h ⟨t.now, t.old.set i x⟩ ∧ Upd [h] w (w.drew.setCell ⟨h, i, none⟩ (.int .i64 x)) := by
  obtain ⟨a1, a2⟩ := H.apart
  have u : Upd [h] w (w.drew.setCell ⟨h, i, none⟩ (.int .i64 x)) := (Upd.drew (Upd.refl [h] w)).setCell (.inl (by simp)) _
  exact ⟨⟨⟨by simp [H.ok.len], H.ok.lo, H.ok.hi, H.ok.now, H.ok.old.set i hx⟩, u.get H.hd (by simpa using a2), u.get H.row (by simpa using H.ne), row_set (show w.drew.heap[h]? = _ from H.was) i x, H.ne⟩, u⟩
theorem IsR.setNow {w : World} {b g h i : Nat} {t : Ct} (H : IsR w b g h t) (hi : i < t.now.length) {x : Int} (hx : 0 ≤ x ∧ x ≤ 1000) : IsR (w.drew.setCell ⟨g, i, none⟩ (.int .i64 x)) b g h ⟨t.now.set i x, t.old⟩ ∧ Upd [g] w (w.drew.setCell ⟨g, i, none⟩ (.int .i64 x)) := by
  obtain ⟨a1, a2⟩ := H.apart
  have u : Upd [g] w (w.drew.setCell ⟨g, i, none⟩ (.int .i64 x)) := (Upd.drew (Upd.refl [g] w)).setCell (.inl (by simp)) _
  refine ⟨⟨⟨by simp [H.ok.len], by simp [H.ok.lo], by simp [H.ok.hi], H.ok.now.set i hx, H.ok.old⟩, ?_, row_set (show w.drew.heap[g]? = _ from H.row) i x, u.get H.was (by simpa using H.ne.symm), H.ne⟩, u⟩
  show _ = some (Obj.cells #[.slice (some ⟨g, 0, none⟩) (t.now.set i x).length (t.now.set i x).length, .slice (some ⟨h, 0, none⟩) (t.now.set i x).length (t.now.set i x).length] _ _)
  rw [List.length_set]
  exact u.get H.hd (by simpa using a1)
theorem settled_step {s t : Ct} {k : Nat} (h2 : t.now = s.now) (h3 : ∀ i, t.old.getD i 0 = if i < k then s.now.getD i 0 else s.old.getD i 0) (hl : t.old.length = t.now.length) (hk : k < t.now.length) : ∀ i, (t.old.set k (t.now.getD k 0)).getD i 0 = if i < k + 1 then s.now.getD i 0 else s.old.getD i 0 := fun i => by
  rw [getD_set _ _ _ _ (by omega), h3, h2]
  by_cases e : i = k
  · rw [if_pos e, if_pos (by omega), e]
  · rw [if_neg e]
    by_cases e2 : i < k
    · rw [if_pos e2, if_pos (by omega)]
    · rw [if_neg e2, if_neg (by omega)]
set_option maxRecDepth 100000 in
set_option maxHeartbeats 1600000 in
theorem rsettle_any {w : World} {b g h : Nat} {s : Ct} (H : IsR w b g h s) : Calls Try.prog 21 #[.pointer (some ⟨b, 0, none⟩)] w fun e w' => e = .returned (.tuple #[]) ∧ IsR w' b g h s.settle ∧ Upd [h] w w' := by
  have HH := Lib.hid H
  have hn := H.ok.hi
  clear H
  go_enter Try.func21, Try.ntmps21
  go_wp2
  go_loopw [2] (fun i wr => ∃ (k : Nat) (t : Ct), k ≤ s.now.length ∧ i = .int .i64 k ∧ IsR wr b g h t ∧ t.now = s.now ∧ (∀ i, t.old.getD i 0 = if i < k then s.now.getD i 0 else s.old.getD i 0) ∧ Upd [h] w wr) (fun i _ => s.now.length - (RowKit.intOf i).toNat)
  case atStart => exact ⟨0, s, by omega, rfl, HH.out, rfl, fun i => by rw [if_neg (by omega)], Upd.refl _ _⟩
  case round =>
    obtain ⟨k, t, hk, rfl, hR, h2, h3, hU⟩ := hrel
    obtain ⟨c0, c1⟩ := hR.head
    have HR := Lib.hid hR
    have HU := Lib.hid hU
    have hl : t.now.length = s.now.length := by rw [h2]
    have HL := Lib.hid hl
    have ht9 := hR.ok.hi
    by_cases hlt : k < t.now.length
    · obtain ⟨r1, _⟩ := row_at hR.row hlt
      obtain ⟨r3, r4⟩ := row_at hR.was (i := k) (by rw [hR.ok.len]; exact hlt)
      have HS := Lib.hid (settled_step h2 h3 hR.ok.len hlt)
      have HST := Lib.hid (hR.setWas hlt (hR.ok.now.get k))
      have H2 := Lib.hid h2
      clear hR hU h2 h3 hl
      generalize t.now.getD k 0 = x at *
      go_wp2
      refine wp_region_still_tail 12 (by kernel_rfl) (by kernel_rfl) ?_
      simp only [List.take_succ_cons, List.take_zero, List.drop_succ_cons, List.drop_zero]
      change wpStill _ _ wr.drew (fun a' => wpList _ _ _ _ a' wr.drew) _ _
      iterate 12 still_step
      refine wpStill_nil ?_
      go_wp2
      go_roundw
      case rel => exact ⟨k + 1, ⟨t.now, t.old.set k x⟩, by have := HL.out; omega, by go_num, HST.out.1, H2.out, HS.out, HU.out.trans HST.out.2⟩
      case measure => have := HL.out; simp [RowKit.intOf]; omega
    · have hfin : t = s.settle := by
        obtain ⟨tn, to⟩ := t
        simp only at h2 h3 hlt
        subst h2
        have : to = s.now := ext_getD hR.ok.len fun i hi => by
          have hi2 : i < s.now.length := by have := hR.ok.len; simp only at this; omega
          rw [h3, if_pos (by omega)]
        rw [this]; rfl
      have HF := Lib.hid hfin
      have hk2 : ¬ k < t.now.length := hlt
      clear hR hU h2 h3 hl hfin
      go_wp2
      go_end0
      exact ⟨rfl, by rw [← HF.out]; exact HR.out, HU.out⟩
theorem undone_step {s t : Ct} {k : Nat} (h2 : t.old = s.old) (h3 : ∀ i, t.now.getD i 0 = if i < k then s.old.getD i 0 else s.now.getD i 0) (hk : k < t.now.length) : ∀ i, (t.now.set k (t.old.getD k 0)).getD i 0 = if i < k + 1 then s.old.getD i 0 else s.now.getD i 0 := fun i => by
  rw [getD_set _ _ _ _ hk, h3, h2]
  by_cases e : i = k
  · rw [if_pos e, if_pos (by omega), e]
  · rw [if_neg e]
    by_cases e2 : i < k
    · rw [if_pos e2, if_pos (by omega)]
    · rw [if_neg e2, if_neg (by omega)]
set_option maxRecDepth 100000 in
set_option maxHeartbeats 1600000 in
theorem rundo_any {w : World} {b g h : Nat} {s : Ct} (H : IsR w b g h s) : Calls Try.prog 22 #[.pointer (some ⟨b, 0, none⟩)] w fun e w' => e = .returned (.tuple #[]) ∧ IsR w' b g h s.undo ∧ Upd [g] w w' := by
  have HH := Lib.hid H
  have hn := H.ok.hi
  have HSL := Lib.hid H.ok.len
  clear H
  go_enter Try.func22, Try.ntmps22
  go_wp2
  go_loopw [2] (fun i wr => ∃ (k : Nat) (t : Ct), k ≤ s.now.length ∧ i = .int .i64 k ∧ IsR wr b g h t ∧ t.old = s.old ∧ (∀ i, t.now.getD i 0 = if i < k then s.old.getD i 0 else s.now.getD i 0) ∧ Upd [g] w wr) (fun i _ => s.now.length - (RowKit.intOf i).toNat)
  case atStart => exact ⟨0, s, by omega, rfl, HH.out, rfl, fun i => by rw [if_neg (by omega)], Upd.refl _ _⟩
  case round =>
    obtain ⟨k, t, hk, rfl, hR, h2, h3, hU⟩ := hrel
    obtain ⟨c0, c1⟩ := hR.head
    have HR := Lib.hid hR
    have HU := Lib.hid hU
    have hl : t.now.length = s.now.length := by rw [← hR.ok.len, h2, HSL.out]
    have HL := Lib.hid hl
    have ht9 := hR.ok.hi
    by_cases hlt : k < t.now.length
    · obtain ⟨r1, r2⟩ := row_at hR.row hlt
      obtain ⟨r3, _⟩ := row_at hR.was (i := k) (by rw [hR.ok.len]; exact hlt)
      have HS := Lib.hid (undone_step h2 h3 hlt)
      have HST := Lib.hid (hR.setNow hlt (hR.ok.old.get k))
      have H2 := Lib.hid h2
      clear hR hU h2 h3 hl
      generalize t.old.getD k 0 = x at *
      generalize t.now.getD k 0 = y at *
      go_wp2
      refine wp_region_still_tail 12 (by kernel_rfl) (by kernel_rfl) ?_
      simp only [List.take_succ_cons, List.take_zero, List.drop_succ_cons, List.drop_zero]
      change wpStill _ _ wr.drew (fun a' => wpList _ _ _ _ a' wr.drew) _ _
      iterate 12 still_step
      refine wpStill_nil ?_
      go_wp2
      go_roundw
      case rel => exact ⟨k + 1, ⟨t.now.set k x, t.old⟩, by have := HL.out; omega, by go_num, HST.out.1, H2.out, HS.out, HU.out.trans HST.out.2⟩
      case measure => have := HL.out; simp [RowKit.intOf]; omega
    · have hfin : t = s.undo := by
        obtain ⟨tn, to⟩ := t
        simp only at h2 h3 hlt hl
        subst h2
        have : tn = s.old := ext_getD (hl.trans HSL.out.symm) fun i hi => by
          rw [h3, if_pos (by omega)]
        rw [this]; rfl
      have HF := Lib.hid hfin
      have hk2 : ¬ k < t.now.length := hlt
      clear hR hU h2 h3 hl hfin
      go_wp2
      go_end0
      exact ⟨rfl, by rw [← HF.out]; exact HR.out, HU.out⟩
theorem Ct.page_take (s : Ct) (j q : Nat) (hq : q < 120) : (s.page j).take (q + 1) = (s.page j).take q ++ [s.now.getD (120 * j + q) 0] := by
  rw [List.take_succ_eq_append_getElem (by rw [Ct.page_len]; exact hq), ← getD_in _ _ (by rw [Ct.page_len]; exact hq), Ct.page_get _ _ _ hq]
/-- Numbers in a slice of the call's own. -/
def ListOut (B : Nat) (l : List Int) (e : Ending) (w' : World) : Prop := ∃ v, e = .returned v ∧ IntsOut w' B v l
set_option maxRecDepth 100000 in
set_option maxHeartbeats 1600000 in
theorem rlist_any {w : World} {b g h : Nat} {s : Ct} (H : IsR w b g h s) {j : Nat} (hj : j < manyOf s.now.length) : Calls Try.prog 35 #[.pointer (some ⟨b, 0, none⟩), .int .i64 (j : Nat)] w fun e w' => ListOut w.heap.size (s.page j) e w' ∧ Upd [] w w' := by
  have HH := Lib.hid H
  have hj9 : j ≤ 8 := by have := H.ok.hi; unfold manyOf at hj; omega
  have HPT := Lib.hid (s.page_take j)
  have HPL := Lib.hid (s.page_len j)
  clear H hj
  go_enter Try.func35, Try.ntmps35
  go_wp2
  go_loopw [5, 6] (fun v i wr => ∃ q r : Nat, q ≤ 120 ∧ r = 120 * j + q ∧ i = .int .i64 r ∧ IntsOut wr w.heap.size v ((s.page j).take q) ∧ Mine (.slice none 0 0) w v wr) (fun _ i _ => 120 * (j + 1) - (RowKit.intOf i).toNat)
  case atStart => exact ⟨0, 120 * j, by omega, by omega, by rw [show ((120 * j : Nat) : Int) = (j : Int) * 120 by omega], by simpa using IntsOut.nil _ _, Mine.refl _ _⟩
  case round =>
    obtain ⟨q, r, hq, hr, rfl, hV, hM⟩ := hrel
    have HV := Lib.hid hV
    have HM := Lib.hid hM
    have HU := Lib.hid hM.fresh
    have hsz := hM.fresh.size
    have HRq := Lib.hid hr
    clear hV hM
    by_cases hlt : q < 120
    · have ht : (r : Int) < ((j : Int) + 1) * 120 := by omega
      have hget := rget_any (HH.out.stay HU.out) (r : Int)
      rw [Ct.get_nat, hr] at hget
      have HT := Lib.hid (HPT.out q hlt)
      have HGET := Lib.hid hget
      have HLE := Lib.hid (show ((s.page j).take q).length ≤ 10000000000000 by rw [List.length_take]; omega)
      rw [← hr] at HGET HT
      have hr9 : r ≤ 2000 := by omega
      clear hget hr
      generalize s.now.getD r 0 = x at *
      go_wp2_with (first
        | (go_at_call 24; (with_reducible refine HGET.out.mono ?_); rintro e w6 ⟨rfl, rfl⟩)
        | (at_builtin; refine wpList_pushi rfl (.tmp 16) (.tmp 20) rfl rfl (HV.out.upd ((Upd.refl [] _).alloc _) (by simp)) wr.heap.size 1 x rfl (news_at _ _ _ 0 _ rfl) HLE.out (by simp; omega) ?_; intro v' w7 hn7 hx7; have HN7 := Lib.hid hn7; have HX7 := Lib.hid hx7; clear hn7 hx7))
      go_roundw
      case rel => exact ⟨q + 1, r + 1, by omega, by have := HRq.out; omega, by go_num, by rw [HT.out]; exact HN7.out, (HM.out.alloc _).trans HX7.out⟩
      case measure => have := HRq.out; simp [RowKit.intOf]; omega
    · have ht : ¬ (r : Int) < ((j : Int) + 1) * 120 := by omega
      have hr9 : r ≤ 2000 := by omega
      have hfull : (s.page j).take q = s.page j := List.take_of_length_le (by rw [HPL.out]; omega)
      have HF := Lib.hid hfull
      clear hr hfull
      go_wp2
      go_ret
      exact ⟨⟨_, rfl, by rw [← HF.out]; exact HV.out⟩, HU.out⟩
/-- Bytes of the call's own. -/
def RetOut (B : Nat) (l : List Nat) (e : Ending) (w' : World) : Prop := ∃ v, e = .returned v ∧ IsRet w' B v l
set_option maxRecDepth 100000 in
set_option maxHeartbeats 1600000 in
theorem rbody_any {w : World} {b g h : Nat} {s : Ct} (H : IsR w b g h s) (p : Int) : Calls Try.prog 23 #[.pointer (some ⟨b, 0, none⟩), .int .i64 p] w fun e w' => RetOut w.heap.size (s.body p) e w' ∧ Upd [] w w' := by
  obtain ⟨c0, _⟩ := H.head
  have HMY := Lib.hid (fun w => rmany_yes s.now.length H.ok.lo H.ok.hi w)
  have hn := H.ok.hi
  cases hp : s.inM p
  · have HB := Lib.hid (show s.body p = [] by unfold Ct.body; rw [hp]; rfl)
    rcases Ct.inM_false hp with h1 | h1
    · clear hp H
      go_enter Try.func23, Try.ntmps23
      go_wp2
      go_ret
      exact ⟨⟨_, rfl, by rw [HB.out]; exact IsRet.nil _ _⟩, Upd.refl _ _⟩
    · have h2 : ¬ p < 0 := by omega
      clear hp H
      go_enter Try.func23, Try.ntmps23
      go_wp2_with (go_at_call 17; (with_reducible refine (HMY.out _).mono ?_); rintro e w' ⟨rfl, rfl⟩)
      go_ret
      exact ⟨⟨_, rfl, by rw [HB.out]; exact IsRet.nil _ _⟩, Upd.refl _ _⟩
  · obtain ⟨j, rfl, hj⟩ := Ct.inM_true hp
    have HB := Lib.hid (show s.body (j : Int) = countBytes (s.page j) by unfold Ct.body; rw [hp]; rfl)
    have hj' : ¬ manyOf s.now.length ≤ j := by omega
    have HLI := Lib.hid (rlist_any H hj)
    have HPP := Lib.hid (Ct.page_put H.ok j)
    have HPL := Lib.hid (s.page_len j)
    clear hp H
    go_enter Try.func23, Try.ntmps23
    go_wp2_with (go_at_call 17; (with_reducible refine (HMY.out _).mono ?_); rintro e w' ⟨rfl, rfl⟩)
    refine HLI.out.mono ?_
    rintro e w1 ⟨⟨v1, rfl, hv1⟩, u1⟩
    obtain ⟨a1, k1, rfl, hi1, _, _, _⟩ := hv1.slice
    have hput := rputCounts_any (cap := k1) hi1 (by rw [HPL.out]; decide)
    rw [HPP.out] at hput
    have HPUT := Lib.hid hput
    have U1 := Lib.hid u1
    clear hv1 hi1 hput u1
    go_wp2_with (go_at_call 34; (with_reducible refine HPUT.out.mono ?_); rintro e w2 ⟨⟨v2, rfl, hv2⟩, u2⟩; have H2 := Lib.hid hv2; have U2 := Lib.hid u2; clear hv2 u2; simp only [Option.isSome_some, if_true])
    go_ret
    exact ⟨⟨_, rfl, by rw [HB.out]; exact H2.out.base U1.out.size⟩, U1.out.trans U2.out⟩
theorem cbody_any {w : World} {b g m : Nat} {s : Ct} (H : IsC w b g m s) (p : Int) : Calls Try.prog 14 #[.pointer (some ⟨b, 0, none⟩), .int .i64 p] w fun e w' => RetOut w.heap.size (s.body p) e w' ∧ Upd [] w w' := by
  cases hp : s.inM p
  · rw [show s.body p = [] by unfold Ct.body; rw [hp]; rfl]
    exact (cbody_no H hp).mono fun e w' ⟨h1, h2⟩ => by subst h2; exact ⟨⟨_, h1, IsRet.nil _ _⟩, Upd.refl _ _⟩
  · obtain ⟨j, rfl, hj⟩ := Ct.inM_true hp
    rw [show s.body (j : Int) = countBytes (s.page j) by unfold Ct.body; rw [hp]; rfl]
    exact (cbody_yes H hj).mono fun e w' ⟨⟨b2, h1, h2, h3⟩, u⟩ => ⟨⟨_, h1, h3.ret h2 (by rw [countBytes_len, Ct.page_len]) (by decide)⟩, u⟩
end Go.Proofs.Ytgmabhfffgnjjaa
