/-
  PROVED HERE: the small functions of a disk: how great it is, a sector's bytes, what is there, what is to fail, is it cut. Conditions: those that each theorem names.
-/
import Derived.Test.YtpnpjffhkaejgaaDoorDiskA
namespace Go.Proofs.YtpnpjffhkaejgaaDoor
open Go.RowKit

theorem dcell {w : World} {d : Nat} {L : DLay} {S : Dk} {c : Bool} {l : Nat} (h : w.heap[d]? = some (.cells (dCells L S c l) 66 (0, 0))) :
    w.cell? ⟨d, 0, none⟩ = some (.slice (some ⟨L.db, 0, none⟩) (256 * S.n) (256 * S.n)) ∧ w.cell? ⟨d, 1, none⟩ = some (.map (some L.mb)) ∧ w.cell? ⟨d, 2, none⟩ = some (.int .i64 (S.fall 0 : Nat)) ∧ w.cell? ⟨d, 3, none⟩ = some (.int .i64 (S.fall 1 : Nat)) ∧
      w.cell? ⟨d, 4, none⟩ = some (.int .i64 (S.fall 2 : Nat)) ∧ w.cell? ⟨d, 5, none⟩ = some (.int .i64 (S.fall 3 : Nat)) ∧ w.cell? ⟨d, 6, none⟩ = some (.bool c) ∧ w.cell? ⟨d, 7, none⟩ = some (.int .i64 (l : Nat)) := by
  obtain ⟨k, _⟩ := cells_of h
  exact ⟨k 0, k 1, k 2, k 3, k 4, k 5, k 6, k 7⟩
theorem size_any {w : World} {d : Nat} {L : DLay} {S : Dk} (h : DHead w d L S) (hn : S.n ≤ 4096) : Calls Tryd.prog 18 #[.pointer (some ⟨d, 0, none⟩)] w fun e w' => e = .returned (.int .i64 (S.n : Nat)) ∧ w = w' := by
  obtain ⟨c, l, hb, _⟩ := h
  obtain ⟨h0, _⟩ := dcell hb
  clear hb
  go_enter Tryd.func18, Tryd.ntmps18
  go_wp2
  go_ret
  exact ⟨rfl, rfl⟩
set_option maxHeartbeats 800000 in
theorem own_any {w : World} {d : Nat} {L : DLay} {S : Dk} (h : DHead w d L S) (hn : S.n ≤ 4096) (i : Nat) (hi : i < S.n) : Calls Tryd.prog 21 #[.pointer (some ⟨d, 0, none⟩), .int .i64 (i : Nat)] w fun e w' => e = .returned (.slice (some ⟨L.db, 256 * i, none⟩) 256 (256 * S.n - 256 * i)) ∧ w = w' := by
  obtain ⟨c, l, hb, _⟩ := h
  obtain ⟨h0, _⟩ := dcell hb
  have b1 : (i : Int) < S.n := by omega
  have hr : ∀ w, (Instr.sliceAt 39 (.slice (some ⟨L.db, 0, none⟩) (256 * S.n) (256 * S.n)) (some (.int .i64 ((i : Int) * 256))) (some (.int .i64 (((i : Int) + 1) * 256))) none).run Tryd.prog w = .ok (.slice (some ⟨L.db, 256 * i, none⟩) 256 (256 * S.n - 256 * i)) w := fun w => by
    have := run_sl_mid (P := Tryd.prog) w Tryd.underlying39 sizeU8 L.db 0 (256 * S.n) (256 * S.n) .i64 .i64 ((i : Int) * 256) (((i : Int) + 1) * 256) (by omega) (by omega) (by omega) (by omega)
    rw [this, show ((i : Int) * 256).toNat = 256 * i by omega, show (((i : Int) + 1) * 256).toNat = 256 * i + 256 by omega, Nat.zero_add, Nat.add_sub_cancel_left]
  clear hb
  go_enter Tryd.func21, Tryd.ntmps21
  go_wp2
  go_ret
  exact ⟨rfl, rfl⟩
set_option maxHeartbeats 800000 in
theorem there_any {w : World} {d : Nat} {L : DLay} {S : Dk} (h : DHead w d L S) (hn : S.n ≤ 4096) (p c : Int) : Calls Tryd.prog 23 #[.pointer (some ⟨d, 0, none⟩), .int .i64 p, .int .i64 c] w fun e w' => e = .returned (.bool (S.there p c)) ∧ w = w' := by
  unfold Dk.there
  by_cases h1 : 0 ≤ p <;> by_cases h2 : 0 < c <;> by_cases h3 : p < S.n <;> by_cases h4 : c ≤ S.n - p <;>
  · go_enter Tryd.func23, Tryd.ntmps23
    go_wp2_with (go_at_call 18; refine (size_any h hn).mono ?_; rintro e w' ⟨rfl, rfl⟩)
    all_goals go_ret
    all_goals exact ⟨by simp_all, rfl⟩
theorem down_any {w : World} {d : Nat} {L : DLay} {S : Dk} (h : DHead w d L S) : Calls Tryd.prog 26 #[.pointer (some ⟨d, 0, none⟩)] w fun e w' => e = .returned (.bool S.down) ∧ w = w' := by
  obtain ⟨c, l, hb, hl, he⟩ := h
  obtain ⟨_, _, _, _, _, _, h6, h7⟩ := dcell hb
  unfold Dk.down
  have HE := Lib.hid he
  clear hb he
  cases c
  · go_enter Tryd.func26, Tryd.ntmps26
    go_wp2
    go_ret
    exact ⟨by have := HE.out; simp at this; simp [← this], rfl⟩
  · by_cases h0 : l = 0
    · subst h0
      go_enter Tryd.func26, Tryd.ntmps26
      go_wp2
      go_ret
      exact ⟨by have := HE.out; simp at this; simp [← this], rfl⟩
    · have k0 : ((l : Int) == 0) = false := by simpa using h0
      have k1 : decide ((l : Int) = 0) = false := by simpa using h0
      go_enter Tryd.func26, Tryd.ntmps26
      go_wp2
      go_ret
      exact ⟨by have := HE.out; simp at this; simp [← this, h0], rfl⟩
theorem dset {w : World} {d : Nat} {L : DLay} {S : Dk} {c : Bool} {l : Nat} (h : w.heap[d]? = some (.cells (dCells L S c l) 66 (0, 0))) (k x : Nat) (hk : k ≤ 3) :
    (w.setCell ⟨d, 2 + k, none⟩ (.int .i64 (x : Nat))).heap[d]? = some (.cells (dCells L { S with fall := setf S.fall k x } c l) 66 (0, 0)) := by
  rw [heap_setCell_same w d (2 + k) _ _ _ h]
  congr 1
  rcases k with _ | _ | _ | _ | k
  · rfl
  · rfl
  · rfl
  · rfl
  · omega
theorem hit_cases (S : Dk) (k : Nat) : (S.fall k = 0 ∧ S.hit k = false) ∨ (S.fall k = 1 ∧ S.hit k = true) ∨ (2 ≤ S.fall k ∧ S.hit k = false) := by
  unfold Dk.hit
  by_cases h0 : S.fall k = 0
  · exact .inl ⟨h0, by simp [h0]⟩
  · by_cases h1 : S.fall k = 1
    · exact .inr (.inl ⟨h1, by simp [h1]⟩)
    · exact .inr (.inr ⟨by omega, by simp [h1]⟩)
theorem tick_zero {S : Dk} {k : Nat} (h : S.fall k = 0) : S.tick k = S := by
  obtain ⟨n, sec, fall, left⟩ := S
  simp only [Dk.tick, Dk.mk.injEq, true_and, and_true]
  funext j
  unfold setf
  split
  · rename_i e; subst e; simp only at h; omega
  · rfl
set_option maxHeartbeats 1600000 in
theorem fails_any {w : World} {d : Nat} {L : DLay} {S : Dk} (h : DHead w d L S) (hf : ∀ k, S.fall k ≤ 1099511627776) (k : Nat) (hk : 1 ≤ k ∧ k ≤ 3) :
    Calls Tryd.prog 24 #[.pointer (some ⟨d, 0, none⟩), .int .i64 (k : Nat)] w fun e w' => e = .returned (.bool (S.hit k)) ∧ DHead w' d L (S.tick k) ∧ Upd [d] w w' := by
  obtain ⟨c, l, hb, hl, he⟩ := h
  have hfk := hf k
  have hcell : w.cell? ⟨d, 2 + k, none⟩ = some (.int .i64 (S.fall k : Nat)) ∧ w.frozen? ⟨d, 2 + k, none⟩ = false := by
    obtain ⟨q1, q2⟩ := cells_of hb
    refine ⟨?_, q2 _⟩
    rw [q1]
    obtain rfl | rfl | rfl : k = 1 ∨ k = 2 ∨ k = 3 := by omega
    · rfl
    · rfl
    · rfl
  obtain ⟨hc, hz⟩ := hcell
  have hset := dset hb k (S.fall k - 1) (by omega)
  have k1 : (k : Int) < 4 := by omega
  rcases hit_cases S k with ⟨h0, hh⟩ | ⟨h0, hh⟩ | ⟨h0, hh⟩
  · rw [h0] at hc
    have HB := Lib.hid hb
    have HT := Lib.hid (tick_zero h0)
    have HH := Lib.hid hh
    have HE := Lib.hid he
    clear hb h0 hh he hset
    go_enter Tryd.func24, Tryd.ntmps24
    go_wp2
    go_ret
    exact ⟨by rw [HH.out]; rfl, by rw [HT.out]; exact ⟨c, l, HB.out, hl, HE.out⟩, Upd.refl _ _⟩
  all_goals
    have HS := Lib.hid hset
    have HH := Lib.hid hh
    have HE := Lib.hid he
    have f1 : 1 ≤ S.fall k := by omega
    have kz : ((S.fall k : Int) == 0) = false := by simpa using (by omega : ¬ S.fall k = 0)
    have kz1 : decide ((S.fall k : Int) = 0) = false := by simpa using (by omega : ¬ S.fall k = 0)
    have kz2 : (((S.fall k : Int) - 1) == 0) = S.hit k := by unfold Dk.hit; rw [Bool.eq_iff_iff]; simp; omega
    have kz3 : decide ((S.fall k : Int) - 1 = 0) = S.hit k := by unfold Dk.hit; rw [Bool.eq_iff_iff]; simp; omega
    have HV := Lib.hid (show ((S.fall k : Int) - 1) = ((S.fall k - 1 : Nat) : Int) by omega)
    clear hb hh he hset h0
    go_enter Tryd.func24, Tryd.ntmps24
    go_upto_region 3 with fail
    go_region
    go_wp2
    go_ret
    rw [HV.out]
    exact ⟨rfl, ⟨c, l, HS.out, hl, HE.out⟩, ((Upd.refl [d] w).setCell (.inl (by simp)) _).drew⟩
theorem IsDisk.ticked {w w' : World} {d : Nat} {L : DLay} {F : Nat → Prop} {S : Dk} (h : IsDisk w d L F S) (u : Upd [d] w w') (k : Nat) (hh : DHead w' d L (S.tick k)) : IsDisk w' d L F (S.tick k) :=
  h.head u rfl rfl ⟨h.ok.n1, h.ok.n2, h.ok.sec, fun j => by
    have := h.ok.fall j
    have := h.ok.fall k
    unfold Dk.tick setf
    simp only
    split <;> omega, h.ok.left⟩ hh
def Dk.fail (S : Dk) (k n : Int) : Int × Dk := if k < 1 ∨ 3 < k ∨ n < 1 ∨ 1099511627776 < n then (1, S) else (0, { S with fall := setf S.fall k.toNat n.toNat })
def Dk.cut (S : Dk) (n : Int) : Int × Dk := if n < 0 ∨ 1099511627776 < n then (1, S) else (0, { S with left := some n.toNat })
set_option maxHeartbeats 1600000 in
theorem fail_any {w : World} {d : Nat} {L : DLay} {F : Nat → Prop} {S : Dk} (h : IsDisk w d L F S) (k n : Int) :
    Calls Tryd.prog 16 #[.pointer (some ⟨d, 0, none⟩), .int .i64 k, .int .i64 n] w fun e w' => e = .returned (.int .i64 (S.fail k n).1) ∧ IsDisk w' d L F (S.fail k n).2 ∧ Upd [d] w w' := by
  have HD := Lib.hid h
  by_cases hbad : k < 1 ∨ 3 < k ∨ n < 1 ∨ 1099511627776 < n
  · have HF := Lib.hid (show S.fail k n = (1, S) by unfold Dk.fail; rw [if_pos hbad])
    clear h
    have hb4 : k < 1 ∨ (1 ≤ k ∧ 3 < k) ∨ (1 ≤ k ∧ k ≤ 3 ∧ n < 1) ∨ (1 ≤ k ∧ k ≤ 3 ∧ 1 ≤ n ∧ 1099511627776 < n) := by omega
    clear hbad
    rcases hb4 with h1 | ⟨h1, h2⟩ | ⟨h1, h2, h3⟩ | ⟨h1, h2, h3, h4⟩
    all_goals
      go_enter Tryd.func16, Tryd.ntmps16
      go_wp2
      go_ret
      rw [HF.out]
      exact ⟨rfl, HD.out, Upd.refl _ _⟩
  · have HF := Lib.hid (show S.fail k n = (0, { S with fall := setf S.fall k.toNat n.toNat }) by unfold Dk.fail; rw [if_neg hbad])
    obtain ⟨c, l, hb, hl, he⟩ := h.hd
    obtain ⟨q, rfl⟩ := Int.eq_ofNat_of_zero_le (show 0 ≤ k by omega)
    obtain ⟨m, rfl⟩ := Int.eq_ofNat_of_zero_le (show 0 ≤ n by omega)
    have b1 : 1 ≤ q := by omega
    have b2 : q ≤ 3 := by omega
    have b3 : 1 ≤ m := by omega
    have b4 : m ≤ 1099511627776 := by omega
    have b5 : (q : Int) < 4 := by omega
    have HS := Lib.hid (dset hb q m b2)
    have HE := Lib.hid he
    have hcell : w.cell? ⟨d, 2 + q, none⟩ = some (.int .i64 (S.fall q : Nat)) ∧ w.frozen? ⟨d, 2 + q, none⟩ = false := by
      obtain ⟨q1, q2⟩ := cells_of hb
      refine ⟨?_, q2 _⟩
      rw [q1]
      obtain rfl | rfl | rfl : q = 1 ∨ q = 2 ∨ q = 3 := by omega
      · rfl
      · rfl
      · rfl
    obtain ⟨hc, hz⟩ := hcell
    clear hbad hb he h
    go_enter Tryd.func16, Tryd.ntmps16
    go_wp2
    go_ret
    rw [HF.out]
    have hu : Upd [d] w (w.setCell ⟨d, 2 + q, none⟩ (.int .i64 (m : Nat))) := (Upd.refl [d] w).setCell (.inl (by simp)) _
    refine ⟨rfl, HD.out.head hu rfl rfl ⟨HD.out.ok.n1, HD.out.ok.n2, HD.out.ok.sec, fun j => ?_, HD.out.ok.left⟩ ⟨c, l, HS.out, hl, HE.out⟩, hu⟩
    have := HD.out.ok.fall j
    simp only [Int.toNat_natCast]
    unfold setf
    split <;> omega
theorem dset67 {w : World} {d : Nat} {L : DLay} {S : Dk} {c : Bool} {l : Nat} (h : w.heap[d]? = some (.cells (dCells L S c l) 66 (0, 0))) (c' : Bool) : (w.setCell ⟨d, 6, none⟩ (.bool c')).heap[d]? = some (.cells (dCells L S c' l) 66 (0, 0)) := by
  rw [heap_setCell_same w d 6 _ _ _ h]; rfl
theorem dset7 {w : World} {d : Nat} {L : DLay} {S : Dk} {c : Bool} {l : Nat} (h : w.heap[d]? = some (.cells (dCells L S c l) 66 (0, 0))) (l' : Nat) : (w.setCell ⟨d, 7, none⟩ (.int .i64 (l' : Nat))).heap[d]? = some (.cells (dCells L S c l') 66 (0, 0)) := by
  rw [heap_setCell_same w d 7 _ _ _ h]; rfl
end Go.Proofs.YtpnpjffhkaejgaaDoor
