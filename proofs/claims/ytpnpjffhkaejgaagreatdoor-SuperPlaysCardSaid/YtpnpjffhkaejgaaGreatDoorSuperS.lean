/-
  PROVED HERE: the document's Load of a disk that is too small; a read of the document's disk. Conditions: those that each theorem names.
-/
import Derived.Test.YtpnpjffhkaejgaaGreatDoorSuperR
import Derived.Test.YtpnpjffhkaejgaaGreatDoorSuperF
namespace Go.Proofs.YtpnpjffhkaejgaaGreatDoor
open Go.RowKit

theorem rx_read {w : World} {r : Nat} {F : Nat → Prop} {S : Dk} (h : RefX w r F S) (p c : Int) :
    Calls Tryz.prog 26 #[.pointer (some ⟨r, 0, none⟩), .int .i64 p, .int .i64 c] w fun e w' => ReadOut w.heap.size (S.read p c).1 e w' ∧ RefX w' r F (S.read p c).2 ∧ Upd [r] w w' := by
  obtain ⟨L, h⟩ := h
  exact (rread_any h p c).mono fun e w' ⟨h1, h2, h3⟩ => ⟨h1, ⟨L, h2⟩, h3⟩
/-- Where a reference disk's number of sectors lies. -/
theorem RefX.many {w : World} {r : Nat} {F : Nat → Prop} {S : Dk} (h : RefX w r F S) : ∃ gl rc, ∀ W, Upd [] w W → W.cell? ⟨r, 0, none⟩ = some (.slice (some ⟨gl, 0, none⟩) S.n rc) := by
  obtain ⟨L, hL⟩ := h
  exact ⟨L.gl, L.cap, fun W u => by
    obtain ⟨c0, _⟩ := rcell hL.hd
    rw [← c0]
    exact World.cell?_of_block (u.block r (World.block_lt_of_cell? _ _ c0) (by simp))⟩
/-- What the document's Load holds when a best one was found so far. -/
def outOf (b : List Int) : List Int := if 0 ≤ b.getD 0 0 then b else superNone
def failK (e0 e1 : Int) : Nat → Bool
  | 0 => false
  | 1 => e0 != 0
  | _ => (e0 != 0) || (e1 != 0)
def stK (S : Dk) : Nat → Dk
  | 0 => S
  | 1 => S.tick 1
  | _ => (S.tick 1).tick 1
theorem stK_n (S : Dk) (k : Nat) : (stK S k).n = S.n := by unfold stK; split <;> rfl
theorem bestK_next {n : Int} {l0 l1 lk : List Nat} {k : Nat} (hk : k < 2) (h : (if k = 0 then l0 else l1) = lk) : bestK n l0 l1 (k + 1) = pickS n (bestK n l0 l1 k) k lk := by
  have hk01 : k = 0 ∨ k = 1 := by omega
  rcases hk01 with rfl | rfl
  · obtain rfl : l0 = lk := h
    rfl
  · obtain rfl : l1 = lk := h
    rfl
theorem bestK_len (n : Int) (l0 l1 : List Nat) (k : Nat) : (bestK n l0 l1 k).length = 7 := by
  unfold bestK
  split
  · rfl
  · exact pickS_len rfl
  · exact pickS_len (pickS_len rfl)
theorem failK_next {e0 e1 ek : Int} {k : Nat} (hk : k < 2) (h : (if k = 0 then e0 else e1) = ek) : failK e0 e1 (k + 1) = (failK e0 e1 k || (ek != 0)) := by
  have hk01 : k = 0 ∨ k = 1 := by omega
  rcases hk01 with rfl | rfl
  · obtain rfl : e0 = ek := h
    simp [failK]
  · obtain rfl : e1 = ek := h
    simp [failK]
def RLoadAt (w : World) (r : Nat) (F : Nat → Prop) (b2 b4 : Nat) (S : Dk) (out : List Int) (W : World) : Prop := RefX W r F S ∧ (∃ y0 y1 y2 y3 y4 y5 y6, out = [y0, y1, y2, y3, y4, y5, y6] ∧ W.heap[b4]? = some (.cells (supC y0 y1 y2 y3 y4 y5 y6) 34 (0, 0))) ∧ W.heap[b2]? = some (.cells (supC 0 0 0 0 0 0 0) 34 (0, 0)) ∧ UpdP F w W
set_option maxRecDepth 100000 in
set_option maxHeartbeats 3200000 in
theorem rload_small {w : World} {r : Nat} {F : Nat → Prop} {S : Dk} (h : RefX w r F S) (hn : S.n < 2) :
    Calls Tryz.prog 11 #[.pointer (some ⟨r, 0, none⟩)] w fun e w' => e = .returned (.tuple #[superV S.load.1.1, .int .i64 S.load.1.2]) ∧ RefX w' r F S.load.2 ∧ UpdP F w w' := by
  have hbd := fun w => (show (Instr.build 34 #[]).run Tryz.prog w = .ok (superV superNone) w from run_build w _ _ _ (by kernel_rfl))
  unfold superV superNone i64s at hbd
  simp only [List.map_cons, List.map_nil] at hbd
  have hl : S.load = ((superNone, 1), S) := by unfold Dk.load; rw [if_pos hn]
  rw [hl]
  have ua := (Upd.refl [] w).alloc (.cells (supC 0 0 0 0 0 0 0) 34)
  have HB := Lib.hid (heap_alloc_new w (.cells (supC 0 0 0 0 0 0 0) 34))
  obtain ⟨gl, rc, hcell⟩ := (h.up ua (by simp)).many
  have c0 := hcell _ (Upd.refl [] _)
  have HA := Lib.hid (h.up ua (by simp))
  have HU := Lib.hid ua
  clear ua hl h hcell
  go_enter Tryz.func11, Tryz.ntmps11
  go_wp2
  refine bodyPost_ret (results_block_tmp Tryz.results11 _ _ w.heap.size 7 _ _ _ _ rfl HB.out Tryz.underlying34 rfl (by kernel_rfl) rfl) rfl ⟨rfl, HA.out, HU.out.p (by simp)⟩
set_option maxRecDepth 100000 in
set_option maxHeartbeats 25600000 in
theorem rload_loop {w : World} {r : Nat} {F : Nat → Prop} {S : Dk} (h : RefX w r F S) (hok : S.Ok) (hn : ¬ S.n < 2) :
    Calls Tryz.prog 11 #[.pointer (some ⟨r, 0, none⟩)] w fun e w' => e = .returned (.tuple #[superV S.load.1.1, .int .i64 S.load.1.2]) ∧ RefX w' r F S.load.2 ∧ UpdP F w w' := by
  have hbd := fun w => (show (Instr.build 34 #[]).run Tryz.prog w = .ok (superV superNone) w from run_build w _ _ _ (by kernel_rfl))
  unfold superV superNone i64s at hbd
  simp only [List.map_cons, List.map_nil] at hbd
  obtain ⟨f1, f2⟩ := read_facts hok (p := 0) (by omega)
  obtain ⟨g1, g2⟩ := read_facts (S := S.tick 1) hok.tick1 (p := 1) (show 1 < S.n by omega)
  obtain ⟨l0, e0, he0⟩ : ∃ l0 e0, S.read 0 1 = ((l0, e0), S.tick 1) := ⟨_, _, by rw [← f1]; rfl⟩
  obtain ⟨l1, e1, he1⟩ : ∃ l1 e1, (S.tick 1).read 1 1 = ((l1, e1), (S.tick 1).tick 1) := ⟨_, _, by rw [← g1]; rfl⟩
  rw [show ((0 : Nat) : Int) = 0 from rfl, he0] at f2
  rw [show ((1 : Nat) : Int) = 1 from rfl, he1] at g2
  dsimp only at f2 g2
  have hreads : ∀ k, k < 2 → (stK S k).read k 1 = ((if k = 0 then l0 else l1, if k = 0 then e0 else e1), stK S (k + 1)) := fun k hk => by
    have hk01 : k = 0 ∨ k = 1 := by omega
    rcases hk01 with rfl | rfl
    · exact he0
    · exact he1
  have ua := (Upd.refl [] w).alloc (.cells (supC 0 0 0 0 0 0 0) 34)
  have ua2 := ua.alloc (.cells (supC 0 0 0 0 0 0 0) 34)
  obtain ⟨gl, rc, hcell⟩ := (h.up ua (by simp)).many
  have c0 := hcell _ (Upd.refl [] _)
  have hst : RLoadAt w r F w.heap.size (w.heap.size + 1) (stK S 0) (outOf (bestK S.n l0 l1 0)) ((w.alloc (.cells (supC 0 0 0 0 0 0 0) 34)).alloc (.cells (supC 0 0 0 0 0 0 0) 34)) := by
    refine ⟨h.up ua2 (by simp), ⟨0, 0, 0, 0, 0, 0, 0, rfl, ?_⟩, ?_, ua2.p (by simp)⟩
    · have := heap_alloc_new (w.alloc (.cells (supC 0 0 0 0 0 0 0) 34)) (.cells (supC 0 0 0 0 0 0 0) 34)
      simpa only [World.size_alloc] using this
    · exact ((Upd.refl [] _).alloc _).get (heap_alloc_new w _) (by simp)
  have HFO := Lib.hid (show ∀ x, F x → x < w.heap.size from by obtain ⟨L, hL⟩ := h; exact hL.old)
  have HST := Lib.hid hst
  have HRD := Lib.hid hreads
  have HF2 := Lib.hid f2
  have HG2 := Lib.hid g2
  clear f1 f2 g1 g2 he0 he1 hreads ua ua2 hst h hcell
  go_enter Tryz.func11, Tryz.ntmps11
  go_wp2_with fail
  go_loopw [5, 6, 7] (fun fd fl x W => ∃ (k : Nat) (q : Bool), k ≤ 2 ∧ x = .int .i64 k ∧ fl = .bool (failK e0 e1 k) ∧ fd = .bool q ∧ q = decide (0 ≤ (bestK S.n l0 l1 k).getD 0 0) ∧ RLoadAt w r F w.heap.size (w.heap.size + 1) (stK S k) (outOf (bestK S.n l0 l1 k)) W) (fun _ _ i _ => 2 - (intOf i).toNat)
  case atStart => exact ⟨0, false, by omega, rfl, rfl, rfl, rfl, HST.out⟩
  case round =>
    obtain ⟨k, q, hk, rfl, rfl, rfl, hq, hR, ⟨y0, y1, y2, y3, y4, y5, y6, hy, hb4⟩, hb2, hu⟩ := hrel
    by_cases hk2 : k < 2
    · have hrd := rx_read hR (k : Int) 1
      rw [HRD.out k hk2] at hrd
      obtain ⟨lk, hlk⟩ : ∃ lk, (if k = 0 then l0 else l1) = lk := ⟨_, rfl⟩
      obtain ⟨ek, hek⟩ : ∃ ek, (if k = 0 then e0 else e1) = ek := ⟨_, rfl⟩
      have hf : ek = 0 ∨ ek = 10 := by
        rw [← hek]
        have hk01 : k = 0 ∨ k = 1 := by omega
        rcases hk01 with rfl | rfl
        · exact HF2.out.imp And.left And.left
        · exact HG2.out.imp And.left And.left
      rw [hlk, hek] at hrd
      have HRD1 := Lib.hid hrd
      have HF := Lib.hid hf
      have HLK := Lib.hid hlk
      have HY := Lib.hid hy
      have HQ := Lib.hid hq
      clear hy hq
      have HB4 := Lib.hid hb4
      have HB2 := Lib.hid hb2
      have HU := Lib.hid hu
      have HR := Lib.hid hR
      have hrF : F r := by obtain ⟨L, hL⟩ := hR; exact hL.fr
      have hold : ∀ x, F x → x < w.heap.size := HFO.out
      clear hrd hb4 hb2 hu hR hf
      go_wp2_with fail
      (with_reducible refine HRD1.out.mono ?_)
      rintro e w5 ⟨⟨v5, rfl, r5⟩, h5, u5⟩
      dsimp only at r5 h5
      obtain ⟨a5, cap5, rfl, hb5, hl5, hc5, hm5⟩ := r5.slice
      have hB4 := u5.get HB4.out (by have := hold r hrF; simp; omega)
      have hB2 := u5.get HB2.out (by have := hold r hrF; simp; omega)
      have hgs := rgetSuper_any (cap := cap5) hb5 (by omega)
      rw [← getSuper_ref hb5.1] at hgs
      have HGS := Lib.hid hgs
      have H5 := Lib.hid h5
      have HB45 := Lib.hid hB4
      have HB25 := Lib.hid hB2
      have HU5 := Lib.hid (HU.out.step (u5.p (F := (· = r)) (by simp)) (fun x hx => .inl (by rw [hx]; exact hrF)))
      have HFK := Lib.hid (failK_next hk2 hek)
      have HBK := Lib.hid (bestK_next (n := S.n) hk2 hlk)
      clear hgs h5 hB4 hB2 r5 hb5 hl5 hc5 hm5 u5 hlk hek hold hrF
      obtain ⟨fn, hfn⟩ : ∃ fn, failK e0 e1 (k + 1) = fn := ⟨_, rfl⟩
      have HFN := Lib.hid hfn
      rw [hfn] at HFK
      clear hfn
      go_upto_region 10 with fail
      go_cut [6] (fun v wx => v = .bool fn ∧ wx = w5)
      case first =>
        obtain ⟨fk, hfk⟩ : ∃ fk, failK e0 e1 k = fk := ⟨_, rfl⟩
        rw [hfk] at HFK ⊢
        clear hfk
        rcases HF.out with rfl | rfl
        all_goals
          cases fk
          all_goals
            go_wp2_with fail
            go_meet
            exact ⟨by rw [HFK.out]; rfl, rfl⟩
      case rest =>
      obtain ⟨rfl, rfl⟩ := hcut
      obtain ⟨z0, z1, z2, z3, z4, z5, z6, hz⟩ := list7 (bestK_len S.n l0 l1 k)
      rw [hz] at HBK HY HQ
      clear hz
      have HQ := Lib.hid (show q = decide (0 ≤ z0) from HQ.out)
      obtain ⟨w5, rfl⟩ : ∃ w5 : World, w5 = wc := ⟨_, rfl⟩
      go_wp2_with fail
      (with_reducible refine HGS.out.mono ?_)
      rintro e w6 ⟨rfl, u6⟩
      have hR6 := H5.out.up u6 (by simp)
      have hB46 := u6.get HB45.out (by simp)
      have hB26 := u6.get HB25.out (by simp)
      have hU6 := HU5.out.step (u6.p (F := F) (by simp)) (fun x hx => .inl hx)
      have HR6 := Lib.hid hR6
      have HB46 := Lib.hid hB46
      have HB26 := Lib.hid hB26
      have HU6 := Lib.hid hU6
      clear hR6 hB46 hB26 hU6 u6
      cases hg : getSuper lk with
      | none =>
        have HNX := Lib.hid (HBK.out.trans (pickS_none hg))
        clear hg
        simp only [Option.getD_none, Option.isSome_none, superV, superNone, i64s, List.map_cons, List.map_nil]
        go_wp2_with fail
        go_quiet (fail)
        go_wp2
        go_roundw
        case rel =>
          have hu7 := ((Upd.refl [] w6).alloc (.cells (supC 0 0 0 0 0 0 0) 34)).drewN nq
          exact ⟨k + 1, _, Nat.succ_le_of_lt hk2, by go_num, by rw [HFN.out], rfl, by rw [HNX.out]; exact HQ.out, HR6.out.up hu7 (by simp), ⟨y0, y1, y2, y3, y4, y5, y6, by rw [HNX.out]; exact HY.out, hu7.get HB46.out (by simp)⟩, hu7.get HB26.out (by simp), HU6.out.step (hu7.p (F := F) (by simp)) (fun x hx => .inl hx)⟩
        case measure => simp [intOf]; omega
      | some s =>
        obtain ⟨hs7, hso⟩ := getSuper_7 hg
        obtain ⟨s0, s1, s2, s3, s4, s5, s6, rfl⟩ := list7 hs7
        have hps := pickS_some (n := S.n) (i := k) (y0 := z0) (y1 := z1) (y2 := z2) (y3 := z3) (y4 := z4) (y5 := z5) (y6 := z6) hg
        rw [← HBK.out] at hps
        obtain ⟨r0, _, _, _, _, _, _⟩ := okSuper_7 hso
        obtain ⟨gl2, rc2, hcell2⟩ := (HR6.out.up ((Upd.refl [] _).alloc (.cells (supC s0 s1 s2 s3 s4 s5 s6) 34)) (by simp)).many
        have hb10 := heap_alloc_new w6 (.cells (supC s0 s1 s2 s3 s4 s5 s6) 34)
        have hb4 := ((Upd.refl [] w6).alloc (.cells (supC s0 s1 s2 s3 s4 s5 s6) 34)).get HB46.out (by simp)
        have HS := Lib.hid (fun W (u : Upd [] (w6.alloc (.cells (supC s0 s1 s2 s3 s4 s5 s6) 34)) W) => (⟨sup_cells (u.get hb10 (by simp)), (sup_cells (u.get hb4 (by simp))).1, by have q := hcell2 W u; rwa [stK_n] at q⟩ : _ ∧ _ ∧ _))
        have hoc : okCheck s0 s1 s2 s3 s4 s5 s6 S.n = fitsOn s2 s3 s4 s5 S.n := by unfold okCheck; rw [hso]; rfl
        have HCH := fun W => rcheck_any (w := W) s0 s1 s2 s3 s4 s5 s6 (S.n : Nat)
        rw [hoc] at HCH
        have HS0 := Lib.hid r0.1
        have htm : s0.tmod 2 = s0 % 2 := Int.tmod_eq_emod_of_nonneg r0.1
        clear hcell2 hb10 hb4 hs7 hso hg hoc
        have hzy : (0 ≤ z0 ∧ z0 = y0) ∨ z0 < 0 := by
          have hy := HY.out
          unfold outOf at hy
          simp only [List.getD_cons_zero] at hy
          by_cases hz : 0 ≤ z0
          · rw [if_pos hz] at hy
            simp only [List.cons.injEq] at hy
            exact .inl ⟨hz, hy.1⟩
          · exact .inr (by omega)
        simp only [Option.getD_some, Option.isSome_some, superV, i64s, List.map_cons, List.map_nil]
        cases hf : fitsOn s2 s3 s4 s5 S.n
        · rw [hf] at HCH hps
          unfold errOf at HCH
          have HCH := Lib.hid HCH
          have HNX := Lib.hid (hps.trans (if_neg (by simp)))
          clear hf hps hzy
          go_wp2_with fail
          refine wp_region_quiet_at (fun W => Upd [] (w6.alloc (.cells (supC s0 s1 s2 s3 s4 s5 s6) 34)) W) rfl (by kernel_rfl) (Upd.refl [] _).drew ?_
          iterate 8
            apply qs_val rfl
            · intro W hW
              obtain ⟨⟨d0, d1, d2, d3, d4, d5, d6⟩, dy, dr⟩ := HS.out W hW
              go_simp
              all_goals with_reducible rfl
            simp only [Act.put, List.setIfInBounds_toArray, List.set_cons_zero, List.set_cons_succ]
          refine qs_call (v := .int .i64 1) (f := 21) (args := #[.agg #[.int .i64 s0, .int .i64 s1, .int .i64 s2, .int .i64 s3, .int .i64 s4, .int .i64 s5, .int .i64 s6], .int .i64 (S.n : Nat)]) rfl (fun W hW => by go_simp) (fun W hW => (HCH.out W).mono fun e W' ⟨q1, q2⟩ => ⟨q1, hW.trans q2⟩) ?_
          simp only [Act.put, List.setIfInBounds_toArray, List.set_cons_zero, List.set_cons_succ]
          iterate 3
            apply qs_val rfl
            · intro W hW
              go_simp
              all_goals with_reducible rfl
            simp only [Act.put, List.setIfInBounds_toArray, List.set_cons_zero, List.set_cons_succ]
          iterate 5
            with_reducible refine qs_skip ?_ ?_
            · rfl
            simp only [Act.put, List.setIfInBounds_toArray, List.set_cons_zero, List.set_cons_succ]
          iterate 2
            apply qs_val rfl
            · intro W hW
              go_simp
              all_goals with_reducible rfl
            simp only [Act.put, List.setIfInBounds_toArray, List.set_cons_zero, List.set_cons_succ]
          iterate 9
            with_reducible refine qs_skip ?_ ?_
            · rfl
            simp only [Act.put, List.setIfInBounds_toArray, List.set_cons_zero, List.set_cons_succ]
          iterate 1
            apply qs_val rfl
            · intro W hW
              go_simp
              all_goals with_reducible rfl
            simp only [Act.put, List.setIfInBounds_toArray, List.set_cons_zero, List.set_cons_succ]
          apply wpQuiet_nil
          intro W7 hW7
          have H7 := Lib.hid hW7
          clear hW7
          go_wp2
          go_roundw
          case rel =>
            have hu7 := ((Upd.refl [] w6).alloc (.cells (supC s0 s1 s2 s3 s4 s5 s6) 34)).trans H7.out
            exact ⟨k + 1, _, Nat.succ_le_of_lt hk2, by go_num, by rw [HFN.out], rfl, by rw [HNX.out]; exact HQ.out, HR6.out.up hu7 (by simp), ⟨y0, y1, y2, y3, y4, y5, y6, by rw [HNX.out]; exact HY.out, hu7.get HB46.out (by simp)⟩, hu7.get HB26.out (by simp), HU6.out.step (hu7.p (F := F) (by simp)) (fun x hx => .inl hx)⟩
          case measure => simp [intOf]; omega
        · rw [hf] at HCH hps
          unfold errOf at HCH
          have HCH := Lib.hid HCH
          by_cases hp : s0 % 2 = (k : Int)
          · have hpb : (s0 % 2 == (k : Int)) = true := by simpa using hp
            rcases hzy with ⟨hz0, hzy⟩ | hz0
            · obtain rfl : q = true := HQ.out.trans (decide_eq_true hz0)
              by_cases hy : y0 < s0
              · have HNX := Lib.hid (hps.trans (if_pos (by simp [hp, hzy, hy])))
                clear hf hps hz0 hzy hp
                go_wp2_with fail
                refine wp_region_quiet_at (fun W => Upd [] (w6.alloc (.cells (supC s0 s1 s2 s3 s4 s5 s6) 34)) W) rfl (by kernel_rfl) (Upd.refl [] _).drew ?_
                iterate 8
                  apply qs_val rfl
                  · intro W hW
                    obtain ⟨⟨d0, d1, d2, d3, d4, d5, d6⟩, dy, dr⟩ := HS.out W hW
                    go_simp
                    all_goals with_reducible rfl
                  simp only [Act.put, List.setIfInBounds_toArray, List.set_cons_zero, List.set_cons_succ]
                refine qs_call (v := .int .i64 0) (f := 21) (args := #[.agg #[.int .i64 s0, .int .i64 s1, .int .i64 s2, .int .i64 s3, .int .i64 s4, .int .i64 s5, .int .i64 s6], .int .i64 (S.n : Nat)]) rfl (fun W hW => by go_simp) (fun W hW => (HCH.out W).mono fun e W' ⟨q1, q2⟩ => ⟨q1, hW.trans q2⟩) ?_
                simp only [Act.put, List.setIfInBounds_toArray, List.set_cons_zero, List.set_cons_succ]
                iterate 3
                  apply qs_val rfl
                  · intro W hW
                    go_simp
                    all_goals with_reducible rfl
                  simp only [Act.put, List.setIfInBounds_toArray, List.set_cons_zero, List.set_cons_succ]
                iterate 2
                  apply qs_val rfl
                  · intro W hW
                    obtain ⟨⟨d0, d1, d2, d3, d4, d5, d6⟩, dy, dr⟩ := HS.out W hW
                    go_simp
                    all_goals with_reducible rfl
                  simp only [Act.put, List.setIfInBounds_toArray, List.set_cons_zero, List.set_cons_succ]
                iterate 8
                  apply qs_val rfl
                  · intro W hW
                    go_simp
                    all_goals with_reducible rfl
                  simp only [Act.put, List.setIfInBounds_toArray, List.set_cons_zero, List.set_cons_succ]
                iterate 4
                  apply qs_val rfl
                  · intro W hW
                    obtain ⟨⟨d0, d1, d2, d3, d4, d5, d6⟩, dy, dr⟩ := HS.out W hW
                    go_simp
                    all_goals with_reducible rfl
                  simp only [Act.put, List.setIfInBounds_toArray, List.set_cons_zero, List.set_cons_succ]
                iterate 3
                  apply qs_val rfl
                  · intro W hW
                    go_simp
                    all_goals with_reducible rfl
                  simp only [Act.put, List.setIfInBounds_toArray, List.set_cons_zero, List.set_cons_succ]
                apply wpQuiet_nil
                intro W7 hW7
                have H7 := Lib.hid (((Upd.refl [] w6).alloc (.cells (supC s0 s1 s2 s3 s4 s5 s6) 34)).trans hW7)
                obtain ⟨⟨d0, d1, d2, d3, d4, d5, d6⟩, dy, dr⟩ := HS.out W7 hW7
                clear hW7
                go_wp2_with (refine wpList_store_all rfl 34 (.tmp 4) (.tmp 69) rfl (w.heap.size + 1) _ rfl rfl _ _ (H7.out.get HB46.out (by simp)) infoSuper rfl (by kernel_rfl) ?_; intro w8 hg8 hu8 _; have G8 := Lib.hid hg8; have U8 := Lib.hid hu8; clear hg8 hu8)
                go_roundw
                case rel =>
                  have hu8 := (H7.out.mono (T := [w.heap.size + 1]) (by simp)).trans U8.out
                  exact ⟨k + 1, _, Nat.succ_le_of_lt hk2, by go_num, by rw [HFN.out], rfl, by rw [HNX.out]; simp [HS0.out], HR6.out.up hu8 (by intro x hx hf; rw [List.mem_singleton] at hx; have := HFO.out x hf; omega), ⟨s0, s1, s2, s3, s4, s5, s6, by rw [HNX.out]; exact if_pos HS0.out, G8.out⟩, hu8.get HB26.out (by simp), HU6.out.step (hu8.p (F := fun x => x = w.heap.size + 1) (by simp)) (fun x hx => .inr (by omega))⟩
                case measure => simp [intOf]; omega
              · have HNX := Lib.hid (hps.trans (if_neg (by simp [hzy, hy])))
                have hy' : s0 ≤ y0 := by omega
                clear hf hps hz0 hzy hp hy
                go_wp2_with fail
                refine wp_region_quiet_at (fun W => Upd [] (w6.alloc (.cells (supC s0 s1 s2 s3 s4 s5 s6) 34)) W) rfl (by kernel_rfl) (Upd.refl [] _).drew ?_
                iterate 8
                  apply qs_val rfl
                  · intro W hW
                    obtain ⟨⟨d0, d1, d2, d3, d4, d5, d6⟩, dy, dr⟩ := HS.out W hW
                    go_simp
                    all_goals with_reducible rfl
                  simp only [Act.put, List.setIfInBounds_toArray, List.set_cons_zero, List.set_cons_succ]
                refine qs_call (v := .int .i64 0) (f := 21) (args := #[.agg #[.int .i64 s0, .int .i64 s1, .int .i64 s2, .int .i64 s3, .int .i64 s4, .int .i64 s5, .int .i64 s6], .int .i64 (S.n : Nat)]) rfl (fun W hW => by go_simp) (fun W hW => (HCH.out W).mono fun e W' ⟨q1, q2⟩ => ⟨q1, hW.trans q2⟩) ?_
                simp only [Act.put, List.setIfInBounds_toArray, List.set_cons_zero, List.set_cons_succ]
                iterate 3
                  apply qs_val rfl
                  · intro W hW
                    go_simp
                    all_goals with_reducible rfl
                  simp only [Act.put, List.setIfInBounds_toArray, List.set_cons_zero, List.set_cons_succ]
                iterate 2
                  apply qs_val rfl
                  · intro W hW
                    obtain ⟨⟨d0, d1, d2, d3, d4, d5, d6⟩, dy, dr⟩ := HS.out W hW
                    go_simp
                    all_goals with_reducible rfl
                  simp only [Act.put, List.setIfInBounds_toArray, List.set_cons_zero, List.set_cons_succ]
                iterate 8
                  apply qs_val rfl
                  · intro W hW
                    go_simp
                    all_goals with_reducible rfl
                  simp only [Act.put, List.setIfInBounds_toArray, List.set_cons_zero, List.set_cons_succ]
                iterate 4
                  apply qs_val rfl
                  · intro W hW
                    obtain ⟨⟨d0, d1, d2, d3, d4, d5, d6⟩, dy, dr⟩ := HS.out W hW
                    go_simp
                    all_goals with_reducible rfl
                  simp only [Act.put, List.setIfInBounds_toArray, List.set_cons_zero, List.set_cons_succ]
                iterate 3
                  apply qs_val rfl
                  · intro W hW
                    go_simp
                    all_goals with_reducible rfl
                  simp only [Act.put, List.setIfInBounds_toArray, List.set_cons_zero, List.set_cons_succ]
                apply wpQuiet_nil
                intro W7 hW7
                have H7 := Lib.hid hW7
                clear hW7
                go_wp2
                go_roundw
                case rel =>
                  have hu7 := ((Upd.refl [] w6).alloc (.cells (supC s0 s1 s2 s3 s4 s5 s6) 34)).trans H7.out
                  exact ⟨k + 1, _, Nat.succ_le_of_lt hk2, by go_num, by rw [HFN.out], rfl, by rw [HNX.out]; exact HQ.out, HR6.out.up hu7 (by simp), ⟨y0, y1, y2, y3, y4, y5, y6, by rw [HNX.out]; exact HY.out, hu7.get HB46.out (by simp)⟩, hu7.get HB26.out (by simp), HU6.out.step (hu7.p (F := F) (by simp)) (fun x hx => .inl hx)⟩
                case measure => simp [intOf]; omega
            · obtain rfl : q = false := HQ.out.trans (decide_eq_false (by omega))
              have HNX := Lib.hid (hps.trans (if_pos (by simp [hp]; omega)))
              clear hf hps hz0 hp
              go_wp2_with fail
              refine wp_region_quiet_at (fun W => Upd [] (w6.alloc (.cells (supC s0 s1 s2 s3 s4 s5 s6) 34)) W) rfl (by kernel_rfl) (Upd.refl [] _).drew ?_
              iterate 8
                apply qs_val rfl
                · intro W hW
                  obtain ⟨⟨d0, d1, d2, d3, d4, d5, d6⟩, dy, dr⟩ := HS.out W hW
                  go_simp
                  all_goals with_reducible rfl
                simp only [Act.put, List.setIfInBounds_toArray, List.set_cons_zero, List.set_cons_succ]
              refine qs_call (v := .int .i64 0) (f := 21) (args := #[.agg #[.int .i64 s0, .int .i64 s1, .int .i64 s2, .int .i64 s3, .int .i64 s4, .int .i64 s5, .int .i64 s6], .int .i64 (S.n : Nat)]) rfl (fun W hW => by go_simp) (fun W hW => (HCH.out W).mono fun e W' ⟨q1, q2⟩ => ⟨q1, hW.trans q2⟩) ?_
              simp only [Act.put, List.setIfInBounds_toArray, List.set_cons_zero, List.set_cons_succ]
              iterate 3
                apply qs_val rfl
                · intro W hW
                  go_simp
                  all_goals with_reducible rfl
                simp only [Act.put, List.setIfInBounds_toArray, List.set_cons_zero, List.set_cons_succ]
              iterate 2
                apply qs_val rfl
                · intro W hW
                  obtain ⟨⟨d0, d1, d2, d3, d4, d5, d6⟩, dy, dr⟩ := HS.out W hW
                  go_simp
                  all_goals with_reducible rfl
                simp only [Act.put, List.setIfInBounds_toArray, List.set_cons_zero, List.set_cons_succ]
              iterate 8
                apply qs_val rfl
                · intro W hW
                  go_simp
                  all_goals with_reducible rfl
                simp only [Act.put, List.setIfInBounds_toArray, List.set_cons_zero, List.set_cons_succ]
              iterate 5
                with_reducible refine qs_skip ?_ ?_
                · rfl
                simp only [Act.put, List.setIfInBounds_toArray, List.set_cons_zero, List.set_cons_succ]
              iterate 2
                apply qs_val rfl
                · intro W hW
                  go_simp
                  all_goals with_reducible rfl
                simp only [Act.put, List.setIfInBounds_toArray, List.set_cons_zero, List.set_cons_succ]
              apply wpQuiet_nil
              intro W7 hW7
              have H7 := Lib.hid (((Upd.refl [] w6).alloc (.cells (supC s0 s1 s2 s3 s4 s5 s6) 34)).trans hW7)
              obtain ⟨⟨d0, d1, d2, d3, d4, d5, d6⟩, dy, dr⟩ := HS.out W7 hW7
              clear hW7
              go_wp2_with (refine wpList_store_all rfl 34 (.tmp 4) (.tmp 69) rfl (w.heap.size + 1) _ rfl rfl _ _ (H7.out.get HB46.out (by simp)) infoSuper rfl (by kernel_rfl) ?_; intro w8 hg8 hu8 _; have G8 := Lib.hid hg8; have U8 := Lib.hid hu8; clear hg8 hu8)
              go_roundw
              case rel =>
                have hu8 := (H7.out.mono (T := [w.heap.size + 1]) (by simp)).trans U8.out
                exact ⟨k + 1, _, Nat.succ_le_of_lt hk2, by go_num, by rw [HFN.out], rfl, by rw [HNX.out]; simp [HS0.out], HR6.out.up hu8 (by intro x hx hf; rw [List.mem_singleton] at hx; have := HFO.out x hf; omega), ⟨s0, s1, s2, s3, s4, s5, s6, by rw [HNX.out]; exact if_pos HS0.out, G8.out⟩, hu8.get HB26.out (by simp), HU6.out.step (hu8.p (F := fun x => x = w.heap.size + 1) (by simp)) (fun x hx => .inr (by omega))⟩
              case measure => simp [intOf]; omega
          · have hpb : (s0 % 2 == (k : Int)) = false := by simpa using hp
            have HNX := Lib.hid (hps.trans (if_neg (by simp [hp])))
            clear hf hps hzy hp
            go_wp2_with fail
            refine wp_region_quiet_at (fun W => Upd [] (w6.alloc (.cells (supC s0 s1 s2 s3 s4 s5 s6) 34)) W) rfl (by kernel_rfl) (Upd.refl [] _).drew ?_
            iterate 8
              apply qs_val rfl
              · intro W hW
                obtain ⟨⟨d0, d1, d2, d3, d4, d5, d6⟩, dy, dr⟩ := HS.out W hW
                go_simp
                all_goals with_reducible rfl
              simp only [Act.put, List.setIfInBounds_toArray, List.set_cons_zero, List.set_cons_succ]
            refine qs_call (v := .int .i64 0) (f := 21) (args := #[.agg #[.int .i64 s0, .int .i64 s1, .int .i64 s2, .int .i64 s3, .int .i64 s4, .int .i64 s5, .int .i64 s6], .int .i64 (S.n : Nat)]) rfl (fun W hW => by go_simp) (fun W hW => (HCH.out W).mono fun e W' ⟨q1, q2⟩ => ⟨q1, hW.trans q2⟩) ?_
            simp only [Act.put, List.setIfInBounds_toArray, List.set_cons_zero, List.set_cons_succ]
            iterate 3
              apply qs_val rfl
              · intro W hW
                go_simp
                all_goals with_reducible rfl
              simp only [Act.put, List.setIfInBounds_toArray, List.set_cons_zero, List.set_cons_succ]
            iterate 2
              apply qs_val rfl
              · intro W hW
                obtain ⟨⟨d0, d1, d2, d3, d4, d5, d6⟩, dy, dr⟩ := HS.out W hW
                go_simp
                all_goals with_reducible rfl
              simp only [Act.put, List.setIfInBounds_toArray, List.set_cons_zero, List.set_cons_succ]
            iterate 5
              apply qs_val rfl
              · intro W hW
                go_simp
                all_goals with_reducible rfl
              simp only [Act.put, List.setIfInBounds_toArray, List.set_cons_zero, List.set_cons_succ]
            iterate 9
              with_reducible refine qs_skip ?_ ?_
              · rfl
              simp only [Act.put, List.setIfInBounds_toArray, List.set_cons_zero, List.set_cons_succ]
            iterate 1
              apply qs_val rfl
              · intro W hW
                go_simp
                all_goals with_reducible rfl
              simp only [Act.put, List.setIfInBounds_toArray, List.set_cons_zero, List.set_cons_succ]
            apply wpQuiet_nil
            intro W7 hW7
            have H7 := Lib.hid hW7
            clear hW7
            go_wp2
            go_roundw
            case rel =>
              have hu7 := ((Upd.refl [] w6).alloc (.cells (supC s0 s1 s2 s3 s4 s5 s6) 34)).trans H7.out
              exact ⟨k + 1, _, Nat.succ_le_of_lt hk2, by go_num, by rw [HFN.out], rfl, by rw [HNX.out]; exact HQ.out, HR6.out.up hu7 (by simp), ⟨y0, y1, y2, y3, y4, y5, y6, by rw [HNX.out]; exact HY.out, hu7.get HB46.out (by simp)⟩, hu7.get HB26.out (by simp), HU6.out.step (hu7.p (F := F) (by simp)) (fun x hx => .inl hx)⟩
            case measure => simp [intOf]; omega
    · obtain rfl : k = 2 := by omega
      have he0 : S.read 0 1 = ((l0, e0), S.tick 1) := HRD.out 0 (by omega)
      have he1 : (S.tick 1).read 1 1 = ((l1, e1), (S.tick 1).tick 1) := HRD.out 1 (by omega)
      have hld : S.load = if e0 = 0 ∧ e1 = 0 then (if (bestK S.n l0 l1 2).getD 0 0 < 0 then (superNone, 14) else (bestK S.n l0 l1 2, 0), stK S 2) else ((superNone, 10), stK S 2) := by
        unfold Dk.load
        rw [if_neg hn, he0]
        dsimp only
        rw [he1]
        rfl
      have hff : ∀ x ∈ [w.heap.size], ¬ F x := by
        intro x hx hf
        rw [List.mem_singleton] at hx
        have := HFO.out x hf
        omega
      have HFF := Lib.hid hff
      have HLD := Lib.hid hld
      have HY := Lib.hid hy
      have HB4 := Lib.hid hb4
      have HB2 := Lib.hid hb2
      have HU := Lib.hid hu
      have HR := Lib.hid hR
      clear he0 he1 hld hy hb4 hb2 hu hR hff
      by_cases hee : e0 = 0 ∧ e1 = 0
      · have hfl : failK e0 e1 2 = false := by simp [failK, hee]
        rw [hfl]
        by_cases hq0 : (bestK S.n l0 l1 2).getD 0 0 < 0
        · obtain rfl : q = false := hq.trans (decide_eq_false (by omega))
          have HL2 := Lib.hid (HLD.out.trans ((if_pos hee).trans (congrArg (fun x => (x, stK S 2)) (if_pos hq0))))
          clear hq hee hfl hq0
          go_wp2_with (refine wpList_store_all rfl 34 (.tmp 2) (.tmp 74) rfl w.heap.size _ rfl rfl _ _ HB2.out infoSuper rfl (by kernel_rfl) ?_; intro w6 hg6 hu6 _; have G6 := Lib.hid hg6; have U6 := Lib.hid hu6; clear hg6 hu6)
          rw [HL2.out]
          refine bodyPost_ret (results_block_tmp Tryz.results11 _ _ w.heap.size 7 _ _ _ _ rfl G6.out Tryz.underlying34 rfl (by kernel_rfl) rfl) rfl ⟨rfl, HR.out.up U6.out HFF.out, HU.out.step (U6.out.p (F := fun x => x = w.heap.size) (by simp)) (fun x hx => .inr (by omega))⟩
        · obtain rfl : q = true := hq.trans (decide_eq_true (by omega))
          have hyb : bestK S.n l0 l1 2 = [y0, y1, y2, y3, y4, y5, y6] := by
            rw [← HY.out]
            unfold outOf
            rw [if_pos (by omega)]
          have HL2 := Lib.hid (HLD.out.trans ((if_pos hee).trans (congrArg (fun x => (x, stK S 2)) (if_neg hq0))))
          rw [hyb] at HL2
          obtain ⟨d0, d1, d2, d3, d4, d5, d6⟩ := sup_cells HB4.out
          clear hq hee hfl hq0 hyb
          go_wp2_with (refine wpList_store_all rfl 34 (.tmp 2) (.tmp 75) rfl w.heap.size _ rfl rfl _ _ HB2.out infoSuper rfl (by kernel_rfl) ?_; intro w6 hg6 hu6 _; have G6 := Lib.hid hg6; have U6 := Lib.hid hu6; clear hg6 hu6)
          rw [HL2.out]
          refine bodyPost_ret (results_block_tmp Tryz.results11 _ _ w.heap.size 7 _ _ _ _ rfl G6.out Tryz.underlying34 rfl (by kernel_rfl) rfl) rfl ⟨rfl, HR.out.up U6.out HFF.out, HU.out.step (U6.out.p (F := fun x => x = w.heap.size) (by simp)) (fun x hx => .inr (by omega))⟩
      · have hfl : failK e0 e1 2 = true := by
          unfold failK
          by_cases h0 : e0 = 0
          · have h1 : e1 ≠ 0 := fun h1 => hee ⟨h0, h1⟩
            simp [h1]
          · simp [h0]
        have HL2 := Lib.hid (HLD.out.trans (if_neg hee))
        rw [hfl]
        clear hq hee hfl
        go_wp2_with (refine wpList_store_all rfl 34 (.tmp 2) (.tmp 71) rfl w.heap.size _ rfl rfl _ _ HB2.out infoSuper rfl (by kernel_rfl) ?_; intro w6 hg6 hu6 _; have G6 := Lib.hid hg6; have U6 := Lib.hid hu6; clear hg6 hu6)
        rw [HL2.out]
        refine bodyPost_ret (results_block_tmp Tryz.results11 _ _ w.heap.size 7 _ _ _ _ rfl G6.out Tryz.underlying34 rfl (by kernel_rfl) rfl) rfl ⟨rfl, HR.out.up U6.out HFF.out, HU.out.step (U6.out.p (F := fun x => x = w.heap.size) (by simp)) (fun x hx => .inr (by omega))⟩
end Go.Proofs.YtpnpjffhkaejgaaGreatDoor
