/-
  PROVED HERE: Crash. Conditions: those that each theorem names.
-/
import Derived.Test.YtpnpjffhkaejgaaDoorDiskG
namespace Go.Proofs.YtpnpjffhkaejgaaDoor
open Go.RowKit

theorem crash_cells {w : World} {d : Nat} {L : DLay} {S : Dk} {c : Bool} {l : Nat} (picks : List Int) (h : w.heap[d]? = some (.cells (dCells L S c l) 66 (0, 0))) :
    (((((w.setCell ⟨d, 2, none⟩ (.int .i64 0)).setCell ⟨d, 3, none⟩ (.int .i64 0)).setCell ⟨d, 4, none⟩ (.int .i64 0)).setCell ⟨d, 5, none⟩ (.int .i64 0)).setCell ⟨d, 6, none⟩ (.bool false)).heap[d]? = some (.cells (dCells L (S.crash picks) false l) 66 (0, 0)) :=
  dset67 (dset (dset (dset (dset h 0 0 (by decide)) 1 0 (by decide)) 2 0 (by decide)) 3 0 (by decide)) false
theorem crash_end {w w1 wr w5 : World} {d : Nat} {L : DLay} {F : Nat → Prop} {S : Dk} {picks : List Int} {k : Nat} {c : Bool} {l : Nat} (hD : IsDisk w1 d L F S) (u1 : Upd [] w w1) (hk : min S.dirty.length picks.length = k) (hb : BlkF wr L.db S.n (S.durs picks k)) (hU : Upd [L.db] w1 wr)
    (u5 : Upd [L.mb] wr w5) (hm : IMap Tryd.prog 3 w5 L.mb fun _ => none) (h5 : w5.heap[d]? = some (.cells (dCells L S c l) 66 (0, 0))) (hl : l ≤ 1099511627776) :
    IsDisk (((((w5.setCell ⟨d, 2, none⟩ (.int .i64 0)).setCell ⟨d, 3, none⟩ (.int .i64 0)).setCell ⟨d, 4, none⟩ (.int .i64 0)).setCell ⟨d, 5, none⟩ (.int .i64 0)).setCell ⟨d, 6, none⟩ (.bool false)) d L F (S.crash picks) ∧
      Upd [d, L.db, L.mb] w (((((w5.setCell ⟨d, 2, none⟩ (.int .i64 0)).setCell ⟨d, 3, none⟩ (.int .i64 0)).setCell ⟨d, 4, none⟩ (.int .i64 0)).setCell ⟨d, 5, none⟩ (.int .i64 0)).setCell ⟨d, 6, none⟩ (.bool false)) := by
  obtain ⟨a1, a2, a3⟩ := hD.apart3
  have hc := crash_cells picks h5
  have u6 : Upd [d] w5 (((((w5.setCell ⟨d, 2, none⟩ (.int .i64 0)).setCell ⟨d, 3, none⟩ (.int .i64 0)).setCell ⟨d, 4, none⟩ (.int .i64 0)).setCell ⟨d, 5, none⟩ (.int .i64 0)).setCell ⟨d, 6, none⟩ (.bool false)) :=
    (((((Upd.refl [d] w5).setCell (.inl (by simp)) _).setCell (.inl (by simp)) _).setCell (.inl (by simp)) _).setCell (.inl (by simp)) _).setCell (.inl (by simp)) _
  have uT : Upd [d, L.db, L.mb] w1 _ := ((hU.mono (by simp)).trans (u5.mono (by simp))).trans (u6.mono (by simp))
  refine ⟨hD.cleared (hD.ok.crash picks) (fun _ => rfl) ⟨false, l, hc, hl, rfl⟩ ?_ (hm.upd u6 (by simpa using Ne.symm a2)) uT.size, (u1.mono (by simp)).trans uT⟩
  show BlkF _ L.db S.n fun i => S.durs picks (min S.dirty.length picks.length) i
  rw [hk]
  exact (hb.upd u5 (by simpa using a3)).upd u6 (by simpa using Ne.symm a1)
set_option maxRecDepth 100000 in
set_option maxHeartbeats 3200000 in
theorem crash_any {w : World} {d : Nat} {L : DLay} {F : Nat → Prop} {S : Dk} (h : IsDisk w d L F S) {a : Option Addr} {picks : List Int} {pc : Nat} (hp : IsIntsAt w a picks) (hpf : ∀ b o, a = some ⟨b, o, none⟩ → 0 < picks.length → ¬ F b) (hpl : picks.length ≤ 9223372036854775807)
    (hB : ∀ i, i < S.n → (S.sec i).ver.length ≤ 2000000000000) :
    Calls Tryd.prog 12 #[.pointer (some ⟨d, 0, none⟩), .slice a picks.length pc] w fun e w' => e = .returned (.tuple #[]) ∧ IsDisk w' d L F (S.crash picks) ∧ Upd [d, L.db, L.mb] w w' := by
  have HD := Lib.hid h
  have HP := Lib.hid hp
  have HPF := Lib.hid hpf
  have HPL := Lib.hid hpl
  have HB := Lib.hid hB
  have HDI := Lib.hid (dirty_any h)
  clear h hp hpf hB
  go_enter Tryd.func12, Tryd.ntmps12
  go_wp2_with fail
  refine HDI.out.mono ?_
  rintro e w1 ⟨⟨v, rfl, hrow⟩, u1⟩
  obtain ⟨a', cap, rfl, hcells⟩ := row_nats hrow
  have D1 := Lib.hid (HD.out.up u1 (by simp))
  have U1 := Lib.hid u1
  have HC := Lib.hid hcells
  obtain ⟨N, hN⟩ : ∃ N, S.dirty.length = N := ⟨_, rfl⟩
  have HN := Lib.hid hN
  have hN4 : N ≤ 4096 := by
    have h1 : S.dirty.length ≤ S.n := by
      have := List.length_filter_le (fun i => !(S.sec i).ver.isEmpty) (List.range S.n)
      rwa [List.length_range] at this
    have := HD.out.ok.n2
    omega
  rw [hN]
  clear u1 hrow hcells hN
  go_wp2_with fail
  go_loopw [12] (fun i wr => ∃ k : Nat, k ≤ N ∧ k ≤ picks.length ∧ i = .int .i64 k ∧ BlkF wr L.db S.n (S.durs picks k) ∧ Upd [L.db] w1 wr) (fun i _ => N - (RowKit.intOf i).toNat)
  case atStart => exact ⟨0, by omega, by omega, rfl, D1.out.dur, Upd.refl _ _⟩
  case round =>
    obtain ⟨k, hk, hkp, rfl, hbk, hU⟩ := hrel
    have HBK := Lib.hid hbk
    have HU := Lib.hid hU
    obtain ⟨a1, a2, a3⟩ := D1.out.apart3
    have hm := D1.out.map.upd hU (by simpa using Ne.symm a3)
    have HM := Lib.hid hm
    obtain ⟨c0, l0, hb0, hl0, he0⟩ := D1.out.hd
    have HBr := Lib.hid (hU.get hb0 (by simpa using a1))
    have HDBL : Hid (L.db < w.heap.size) := by
      obtain ⟨_, hdb0, _⟩ := HD.out.dur
      exact lt_of_block hdb0
    obtain ⟨_, q1, _⟩ := dcell HBr.out
    clear hbk hm hb0 hU
    by_cases h1 : k < N
    · obtain ⟨g, rfl, hg, hck⟩ := HC.out k (by rw [HN.out]; exact h1)
      have hmem : S.dirty.getD k 0 ∈ S.dirty := getD_in (by rw [HN.out]; exact h1)
      generalize hi0 : S.dirty.getD k 0 = i at hck hmem
      obtain ⟨hi, hv⟩ := mem_dirty.1 hmem
      have n2 := HD.out.ok.n2
      have hck2 : wr.cell? ⟨g, k, none⟩ = some (.int .i64 (i : Nat)) := by
        rw [← hck]
        exact World.cell?_of_block (HU.out.block g (World.block_lt_of_cell? _ _ hck) (by have := HDBL.out; simp; omega))
      have hlk := HM.out.look (t := 63) false Tryd.underlying3 Tryd.underlying63 (zeroVers wr) (x := (i : Int)) (WalkArith.wf_i64 (by omega))
      rw [mapOf_in hi] at hlk
      simp only [Bool.false_eq_true, if_false] at hlk
      rw [if_neg hv] at hlk
      obtain ⟨csd, hdb0, _⟩ := D1.out.dur
      obtain ⟨cg, hg0, _, _, _, hcg⟩ := D1.out.ver i hi hv
      have hgne : L.g i ≠ L.db := dne hg0 hdb0 (by decide)
      obtain ⟨cs, hgb, hgs, hgl, hgm, hgc⟩ := (D1.out.ver i hi hv).upd (HU.out.p (F := fun y => y = L.db) (by simp)) hgne (fun j hj e => (hcg j hj).2.1 e)
      obtain ⟨m, hm⟩ : ∃ m, (S.sec i).ver.length = m := ⟨_, rfl⟩
      have hm0 : 0 < m := by rw [← hm]; exact List.length_pos_iff.2 hv
      have hmB : m ≤ 2000000000000 := by rw [← hm]; exact HB.out i hi
      have hlk2 : (Instr.lookup 63 (.map (some L.mb)) (.int .i64 (i : Int)) false).run Tryd.prog wr = .ok (.slice (some ⟨L.g i, 0, none⟩) m (L.cap i)) wr := by rw [← hm]; exact hlk
      have HI := Lib.hid hi
      have HV := Lib.hid hv
      have HI0 := Lib.hid hi0
      have HMM := Lib.hid hm
      clear hlk hck hmem hv hg0 hcg hdb0 hi hi0 hgs hm
      by_cases h2 : k < picks.length
      · obtain ⟨pb, po, rfl, hpc⟩ := HP.out k h2
        have hpc2 : wr.cell? ⟨pb, po + k, none⟩ = some (.int .i64 (picks.getD k 0)) := by
          rw [← hpc]
          exact World.cell?_of_block (((U1.out.mono (T := [L.db]) (by simp)).trans HU.out).block pb (World.block_lt_of_cell? _ _ hpc) (by simp; rintro rfl; exact HPF.out _ _ rfl (by omega) HD.out.fdb))
        obtain ⟨p, hpe⟩ : ∃ p, picks.getD k 0 = p := ⟨_, rfl⟩
        rw [hpe] at hpc2
        obtain ⟨s1, s2, s3⟩ := pick_steps p m
        have hqle := pickN_le p m
        obtain ⟨q, hq⟩ : ∃ q, pickN p m = q := ⟨_, rfl⟩
        rw [hq] at s3 hqle
        have HPE := Lib.hid hpe
        have HQ := Lib.hid hq
        clear hpc hpe hq
        generalize hr : p.tmod ((m : Int) + 1) = r at s1 s2 s3
        have hw1 : IntKind.i64.wrap r = r := IntWalk.i64_in _ (by omega)
        have hds : S.durs picks (k + 1) = if q = 0 then S.durs picks k else setf (S.durs picks k) i ((S.sec i).ver.getD (q - 1) []) := by
          show (if pickN (picks.getD k 0) (S.sec (S.dirty.getD k 0)).ver.length = 0 then _ else _) = _
          rw [HI0.out, HPE.out, HMM.out, HQ.out]
        have HDS := Lib.hid hds
        clear hds
        by_cases hq0 : q = 0
        · subst hq0
          go_wp2
          go_roundw
          case rel => exact ⟨k + 1, by omega, by omega, by go_num, by rw [HDS.out, if_pos rfl]; exact HBK.out, HU.out⟩
          case measure => simp [RowKit.intOf]; omega
        · obtain ⟨j, rfl⟩ : ∃ j, q = j + 1 := ⟨q - 1, by omega⟩
          have hj : j < (S.sec i).ver.length := by rw [HMM.out]; omega
          obtain ⟨e1, e2, e3⟩ := hgc j hj
          have hok := (HD.out.ok.sec i HI.out).2 _ (List.getElem_mem hj)
          have HVJ : Hid ((S.sec i).ver.getD j [] = (S.sec i).ver[j]) := by unfold Hid; rw [List.getD_eq_getElem?_getD, List.getElem?_eq_getElem hj]; rfl
          generalize (S.sec i).ver[j] = vj at e3 hok HVJ
          have hcell : wr.cell? ⟨L.g i, j, none⟩ = some (.slice (some ⟨(L.hs i j).1, (L.hs i j).2, none⟩) 256 256) := by rw [(cells_of hgb).1]; exact e1
          have HE3 := Lib.hid e3
          have HOK := Lib.hid hok
          have HOWN := Lib.hid (own_any (w := wr.drew) (show DHead wr.drew d L S from (D1.out.hd.upd HU.out.drew (by simpa using a1))) D1.out.ok.n2 i HI.out)
          have s4 : ((j + 1 : Nat) : Int) - 1 = (j : Nat) := by omega
          have s5 : (0 : Int) < ((j + 1 : Nat) : Int) := by omega
          have hw3 : IntKind.i64.wrap (((j + 1 : Nat) : Int) - 1) = (j : Nat) := by rw [s4]; exact IntWalk.i64_in _ (by omega)
          have s6 : (j : Int) < (m : Int) := by omega
          have hw5 : IntKind.i64.wrap (j : Int) = (j : Int) := IntWalk.i64_in _ (by omega)
          obtain ⟨cur, hcur, hcs, hcp⟩ := HBK.out
          have HCUR := Lib.hid hcur
          have HCS := Lib.hid hcs
          have HCP := Lib.hid hcp
          clear hgb hgl hgc hj e1 e2 e3 hok hcur hcs hcp hq0
          go_upto_region 8 with fail
          refine wp_region_still_tail 8 (by kernel_rfl) (by kernel_rfl) ?_
          simp only [List.take_succ_cons, List.take_zero, List.drop_succ_cons, List.drop_zero]
          change wpStill _ _ wr.drew (fun a' => wpList _ _ _ _ a' wr.drew) _ _
          iterate 2 still_step
          still_call (HOWN.out.mono fun _ _ h => ⟨h.1, h.2.symm⟩)
          iterate 5 still_step
          refine wpStill_nil (wpList_step fun K hK => ?_)
          refine step_copyb rfl (.tmp 44) (.tmp 49) rfl rfl rfl HOK.out.1.symm HE3.out HCUR.out (by rw [HOK.out.1]; omega) (by rw [HOK.out.1]; have := HCS.out; have := HI.out; omega) ?_
          intro w5 hb5 hu5 hs5
          refine hK _ _ (wpList_nil ?_)
          have HB5 := Lib.hid hb5
          have HU5 := Lib.hid hu5
          clear hb5 hu5 hK K
          go_wp2
          go_roundw
          case rel =>
            refine ⟨k + 1, by omega, by omega, by go_num, ?_, HU.out.drew.trans HU5.out⟩
            rw [HDS.out, if_neg (by omega), Nat.add_sub_cancel, HVJ.out]
            exact BlkF.splice HCS.out HCP.out i HI.out _ HOK.out.1 HB5.out
          case measure => simp [RowKit.intOf]; omega
      · have h3 : ¬ (k : Int) < picks.length := by omega
        go_wp2_with (refine wpList_iclear (k := 3) rfl _ rfl rfl Tryd.underlying63 HM.out ?_; intro w5 hm5 hu5 hs5; have M5 := Lib.hid hm5; have U5 := Lib.hid hu5; have B5 := Lib.hid (hu5.get HBr.out (by simp [a2])); obtain ⟨z0, z1, z2, z3, z4, z5, z6, z7⟩ := dcell B5.out; have y2 := (cells_of B5.out).2 2; have y3 := (cells_of B5.out).2 3; have y4 := (cells_of B5.out).2 4; have y5 := (cells_of B5.out).2 5; have y6 := (cells_of B5.out).2 6; clear hm5 hu5 hs5)
        refine bodyPost_end (results_none rfl _ _ _) rfl ?_
        exact ⟨rfl, crash_end D1.out U1.out (by rw [HN.out]; omega) HBK.out HU.out U5.out M5.out B5.out hl0⟩
    · have h3 : ¬ (k : Int) < N := by omega
      go_wp2_with (refine wpList_iclear (k := 3) rfl _ rfl rfl Tryd.underlying63 HM.out ?_; intro w5 hm5 hu5 hs5; have M5 := Lib.hid hm5; have U5 := Lib.hid hu5; have B5 := Lib.hid (hu5.get HBr.out (by simp [a2])); obtain ⟨z0, z1, z2, z3, z4, z5, z6, z7⟩ := dcell B5.out; have y2 := (cells_of B5.out).2 2; have y3 := (cells_of B5.out).2 3; have y4 := (cells_of B5.out).2 4; have y5 := (cells_of B5.out).2 5; have y6 := (cells_of B5.out).2 6; clear hm5 hu5 hs5)
      refine bodyPost_end (results_none rfl _ _ _) rfl ?_
      exact ⟨rfl, crash_end D1.out U1.out (by rw [HN.out]; omega) HBK.out HU.out U5.out M5.out B5.out hl0⟩
end Go.Proofs.YtpnpjffhkaejgaaDoor
