/-
  PROVED HERE: layer 4's small living whole: known returns true. Conditions: none.
-/
import Derived.Test.YtpnpjffhkaejgaaGreatDoorSuperF
import Derived.Test.YtpnpjffhkaejgaaGreatDoorDiskFailsP
namespace Go.Proofs.YtpnpjffhkaejgaaGreatDoor
open Go.RowKit

theorem law_start {w w1 w2 : World} {t d n : Nat} {F : Nat → Prop} (h1 : TabOk w1 t) (ht : w.heap.size ≤ t) (u1 : Upd [] w w1) (hd : DiskX w2 d F (Dk.new n)) (hF : ∀ x, F x → w1.heap.size ≤ x) (u2 : Upd [] w1 w2) : LawT w w2 d t F [] (Dk.new n) := by
  have ht2 := h1.upd u2 (by simp)
  refine ⟨w2.heap[t]'ht2.lt, ⟨hd, fun y hy => by have := hF y hy; have := u1.size; omega, fun p hp => ?_, u1.trans u2⟩, ht2, ht, by simp⟩
  rw [List.mem_singleton.1 hp]
  exact ⟨fun e => by have := hF t e; have := h1.lt; omega, Array.getElem?_eq_getElem ht2.lt⟩
theorem getSuper_zeros : getSuper zeros256 = none := by
  have h : soundL zeros256 [80, 83, 85, 80] = false := by
    unfold soundL
    rw [decide_eq_false]
    rintro ⟨_, _, h⟩
    have e : zeros256.take 4 = [0, 0, 0, 0] := rfl
    rw [e] at h
    cases h
  unfold getSuper
  rw [h]
  rfl
theorem hit_zero {S : Dk} (h : S.fall 1 = 0) : S.hit 1 = false := by unfold Dk.hit; rw [h]; rfl
theorem tick_fall1 {S : Dk} (h : S.fall 1 = 0) : (S.tick 1).fall 1 = 0 := by show setf S.fall 1 (S.fall 1 - 1) 1 = 0; rw [setf_same, h]
/-- What Load makes of a disk none of whose reads fails. -/
theorem load_of {S : Dk} (hn : 2 ≤ S.n) (hf : S.fall 1 = 0) : S.load = (if (pickS S.n (pickS S.n bad7 0 (S.sec 0).last) 1 (S.sec 1).last).getD 0 0 < 0 then (superNone, 14) else (pickS S.n (pickS S.n bad7 0 (S.sec 0).last) 1 (S.sec 1).last, 0), (S.tick 1).tick 1) := by
  have r0 := read_one (S := S) (p := 0) (by omega)
  have r1 := read_one (S := S.tick 1) (p := 1) (show 1 < S.n by omega)
  rw [hit_zero hf, if_neg (by decide)] at r0
  rw [hit_zero (tick_fall1 hf), if_neg (by decide)] at r1
  rw [show ((0 : Nat) : Int) = 0 from rfl] at r0
  rw [show ((1 : Nat) : Int) = 1 from rfl] at r1
  unfold Dk.load
  rw [if_neg (by omega), r0]
  dsimp only
  rw [r1]
  dsimp only
  rw [if_pos ⟨rfl, rfl⟩]
  rfl
def ks0 : Dk := ((Dk.new 100).tick 1).tick 1
def ksF : List Nat := frame (superBytes [1, 1, 16, 18, 64, 0, 0])
def ks1 : Dk := (putV (ks0.tick 2) true 1 ksF).did
theorem ks_load0 : (Dk.new 100).load = ((superNone, 14), ks0) := by
  rw [load_of (by decide) rfl]
  have e : ((Dk.new 100).sec 0).last = zeros256 := rfl
  have e1 : ((Dk.new 100).sec 1).last = zeros256 := rfl
  rw [e, e1, pickS_none getSuper_zeros, pickS_none getSuper_zeros]
  rfl
theorem ksF_len : ksF.length = 256 := frame_len (by decide)
theorem ks_save : ks0.save 1 1 16 18 64 0 0 = (0, ks1) := by
  unfold Dk.save
  rw [show okCheck 1 1 16 18 64 0 0 ks0.n = true from by decide, if_pos rfl]
  have := write_one (S := ks0) (p := 1) (by decide) (l := ksF) ksF_len true
  show ks0.write ((1 : Nat) : Int) ksF true = _
  rw [this]
  rfl
theorem ks_sec : (ks1.sec 0).last = zeros256 ∧ (ks1.sec 1).last = ksF ∧ ks1.n = 100 ∧ ks1.fall 1 = 0 := by
  refine ⟨?_, ?_, rfl, rfl⟩
  · show ((putV (ks0.tick 2) true 1 ksF).sec 0).last = _
    rw [putV_sec (by decide)]
    rfl
  · show ((putV (ks0.tick 2) true 1 ksF).sec 1).last = _
    rw [putV_true]
    rfl
def ks2 : Dk := (ks1.tick 1).tick 1
theorem ks_load1 : ks1.load = (([1, 1, 16, 18, 64, 0, 0], 0), ks2) := by
  obtain ⟨h0, h1, h2, h3⟩ := ks_sec
  rw [load_of (by rw [h2]; decide) h3, h0, h1, pickS_none getSuper_zeros, h2]
  have hg : getSuper ksF = some [1, 1, 16, 18, 64, 0, 0] := getSuper_put rfl (by decide)
  have hp : pickS ((100 : Nat) : Int) bad7 1 ksF = [1, 1, 16, 18, 64, 0, 0] := by
    unfold bad7
    rw [pickS_some hg]
    decide
  rw [hp, if_neg (by decide)]
  rfl
theorem ks1_ver : ∀ i, i < ks0.n → (ks0.sec i).ver.length ≤ 2000000000000 := fun _ _ => Nat.zero_le _
set_option maxRecDepth 100000 in
set_option maxHeartbeats 3200000 in
theorem known4_any (w : World) : Calls Tryz.prog 7 #[] w fun e w' => e = .returned (.bool true) ∧ Upd [] w w' := by
  have HNEW := Lib.hid (fun W => (show Calls Tryz.prog 5 #[.int .i64 100] W fun e w' => NewX W.heap.size 100 e w' ∧ Upd [] W w' from x_new 100 (by decide) (by decide)))
  go_enter Tryz.func7, Tryz.ntmps7
  go_wp2_with fail
  (with_reducible refine (new_any w).mono ?_)
  rintro e w1 ⟨t, rfl, ht, ht1, u1⟩
  have HT1 := Lib.hid ht1
  have HTT := Lib.hid ht
  have U1 := Lib.hid u1
  clear ht ht1 u1
  unfold pt
  go_wp2_with fail
  (with_reducible refine (HNEW.out _).mono ?_)
  rintro e w2 ⟨⟨d, F, rfl, hd, hF⟩, u2⟩
  have hL := law_start HT1.out HTT.out U1.out hd hF u2
  have HL := Lib.hid hL
  clear hd hF u2 hL
  have hbs := (show ∀ W, (Instr.build 34 #[(0, .int .i64 1), (1, .int .i64 1), (2, .int .i64 16), (3, .int .i64 18), (4, .int .i64 64)]).run Tryz.prog W = .ok (.agg (supC 1 1 16 18 64 0 0)) W from fun W => run_build W _ _ _ (by kernel_rfl))
  unfold supC at hbs
  have hk := HL.out.keep ((Upd.refl [] _).alloc (.cells (supC 1 1 16 18 64 0 0) 34)) (Nat.le_refl _) (heap_alloc_new _ _)
  have hld := load_any hk
  rw [ks_load0] at hld
  unfold LoadOut pt at hld
  dsimp only at hld
  simp only [superV, superNone, i64s, List.map_cons, List.map_nil] at hld
  have HLD := Lib.hid hld
  clear hk hld
  go_wp2_with fail
  (with_reducible refine HLD.out.mono ?_)
  rintro e w3 ⟨rfl, h3⟩
  have h3a := h3.up ((Upd.refl [] _).alloc (.cells (supC 0 0 0 0 0 0 0) 34))
  have hsv := save_any h3a 1 1 16 18 64 0 0 ks1_ver
  rw [ks_save] at hsv
  unfold pt at hsv
  obtain ⟨c0, c1, c2, c3, c4, c5, c6⟩ := sup_cells (h3a.get (List.mem_cons_self ..))
  have HSV := Lib.hid hsv
  clear hsv h3a h3 hbs
  go_wp2_with fail
  (with_reducible refine HSV.out.mono ?_)
  rintro e w4 ⟨rfl, F4, h4⟩
  have hld := load_any h4
  rw [ks_load1] at hld
  unfold LoadOut pt at hld
  dsimp only at hld
  simp only [superV, i64s, List.map_cons, List.map_nil] at hld
  have HLD1 := Lib.hid hld
  clear hld h4 c0 c1 c2 c3 c4 c5 c6
  go_wp2_with fail
  (with_reducible refine HLD1.out.mono ?_)
  rintro e w5 ⟨rfl, h5⟩
  have hk5 := h5.keep ((Upd.refl [] _).alloc (.cells (supC 1 1 16 18 64 0 0) 34)) (Nat.le_refl _) (heap_alloc_new _ _)
  have HK5 := Lib.hid hk5
  clear h5 hk5
  go_wp2_with fail
  (with_reducible refine (load_nod (some ⟨t, 0, none⟩)).mono ?_)
  rintro e w6 ⟨rfl, u6⟩
  simp only [superV, superNone, i64s, List.map_cons, List.map_nil]
  have U6 := Lib.hid u6
  clear u6
  go_wp2_with fail
  (with_reducible refine (load_not ⟨d, 0, none⟩).mono ?_)
  rintro e w7 ⟨rfl, u7⟩
  simp only [superV, superNone, i64s, List.map_cons, List.map_nil]
  have h8 := HK5.out.up (U6.out.trans (((Upd.refl [] _).alloc (.cells (supC 0 0 0 0 0 0 0) 34)).trans (u7.trans ((Upd.refl [] _).alloc (.cells (supC 0 0 0 0 0 0 0) 34)))))
  have H8 := Lib.hid h8
  have heq := eqSuper 1 1 16 18 64 0 0 1 1 16 18 64 0 0
  rw [decide_eq_true rfl] at heq
  obtain ⟨c0, c1, c2, c3, c4, c5, c6⟩ := sup_cells (h8.get (List.mem_cons_of_mem _ (List.mem_cons_self ..)))
  obtain ⟨d0, d1, d2, d3, d4, d5, d6⟩ := sup_cells (h8.get (List.mem_cons_self ..))
  clear u7 h8
  go_wp2_with fail
  (with_reducible refine (save_nod (some ⟨t, 0, none⟩) 1 1 16 18 64 0 0).mono ?_)
  rintro e w8 ⟨rfl, u8⟩
  have H9 := Lib.hid (H8.out.up u8)
  clear c0 c1 c2 c3 c4 c5 c6 d0 d1 d2 d3 d4 d5 d6 u8
  obtain ⟨c0, c1, c2, c3, c4, c5, c6⟩ := sup_cells (H9.out.get (List.mem_cons_of_mem _ (List.mem_cons_self ..)))
  go_wp2_with fail
  (with_reducible refine (save_not ⟨d, 0, none⟩ 1 1 16 18 64 0 0).mono ?_)
  rintro e w9 ⟨rfl, u9⟩
  have U9 := Lib.hid (H9.out.up u9).all
  clear u9 c0 c1 c2 c3 c4 c5 c6
  go_wp2
  go_ret
  exact ⟨rfl, U9.out⟩
end Go.Proofs.YtpnpjffhkaejgaaGreatDoor
