/-
  PROVED HERE: CountsPlays returns true whatever it is given. Conditions: those that each theorem names.
-/
import Derived.Test.YtgmabhfffgnjjaaCntT
import Derived.Test.YtgmabhfffgnjjaaCntU
namespace Go.Proofs.Ytgmabhfffgnjjaa
open Go.RowKit

theorem DeedAt.keep {w : World} {B g o : Nat} {x : Deed} (h : DeedAt w B g o x) : ∃ pa pc, (∀ W, Upd [] w W → (W.cell? ⟨g, o, none⟩ = some (.int .i64 x.k) ∧ W.cell? ⟨g, o + 1, none⟩ = some (.int .i64 x.p) ∧ W.cell? ⟨g, o + 2, none⟩ = some (.int .i64 x.y) ∧ W.cell? ⟨g, o + 3, none⟩ = some (.slice pa x.body.length pc)) ∧ IsBytes W pa x.body) ∧
    x.body.length ≤ pc ∧ pc ≤ 9223372036854775807 ∧ (-9223372036854775808 ≤ x.k ∧ x.k ≤ 9223372036854775807) := by
  obtain ⟨pa, pc, ⟨h0, h1, h2, h3⟩, hb, h4, h5, h6, h7, h8⟩ := h
  refine ⟨pa, pc, fun W u => ?_, h4, h5, h8⟩
  have t : ∀ {q : Nat} {v : Value}, w.cell? ⟨g, q, none⟩ = some v → W.cell? ⟨g, q, none⟩ = some v := fun hc => by rw [← hc]; exact World.cell?_of_block (u.block g (World.block_lt_of_cell? _ _ hc) (by simp))
  exact ⟨⟨t h0, t h1, t h2, t h3⟩, hb.upd u (by simp)⟩
theorem plays_bad {w : World} {n : Int} (h : n < 16 ∨ 1024 < n) (v : Value) :
    Calls Try.prog 5 #[.int .i64 n, v] w fun e w' => e = .returned (.bool true) ∧ Upd [] w w' := by
  have HN := Lib.hid (fun w => cnew_no n h w)
  have HR := Lib.hid (fun w => rnew_no n h w)
  have HM := Lib.hid (fun w => many_no n h w)
  have HQ := Lib.hid (fun w => rmany_no n h w)
  clear h
  go_enter Try.func5, Try.ntmps5
  go_wp2_with (first
    | (go_at_call 6; (with_reducible refine (HN.out _).mono ?_); rintro e w1 ⟨rfl, rfl⟩)
    | (go_at_call 16; (with_reducible refine (HR.out _).mono ?_); rintro e w1 ⟨rfl, rfl⟩)
    | (go_at_call 13; (with_reducible refine (HM.out _).mono ?_); rintro e w1 ⟨rfl, rfl⟩)
    | (go_at_call 17; (with_reducible refine (HQ.out _).mono ?_); rintro e w1 ⟨rfl, rfl⟩)
    | (go_at_call 7; (with_reducible refine (lives_any _).mono ?_); rintro e w2 ⟨rfl, u2⟩; have U2 := Lib.hid u2; clear u2))
  go_ret
  exact ⟨rfl, U2.out⟩
/-- Both sides in one state. -/
structure Both (w w' : World) (n b1 g1 m1 b2 g2 h2 : Nat) (s : Ct) : Prop where
  c : IsC w' b1 g1 m1 s
  r : IsR w' b2 g2 h2 s
  len : s.now.length = n
  u : Upd [] w w'
structure Sep (w : World) (b1 g1 m1 b2 g2 h2 : Nat) : Prop where
  a : b1 ∉ [g2, h2] ∧ g1 ∉ [g2, h2] ∧ m1 ∉ [g2, h2]
  b : b2 ∉ [g1, m1] ∧ g2 ∉ [g1, m1] ∧ h2 ∉ [g1, m1]
  ca : ∀ x, x ∈ [g1, m1] → x ∈ ([] : List Nat) ∨ w.heap.size ≤ x
  ra : ∀ x, x ∈ [g2, h2] → x ∈ ([] : List Nat) ∨ w.heap.size ≤ x
section
variable {w w1 w2 w3 : World} {n b1 g1 m1 b2 g2 h2 : Nat} {s t : Ct}
theorem Both.stay (h : Both w w1 n b1 g1 m1 b2 g2 h2 s) (u : Upd [] w1 w2) : Both w w2 n b1 g1 m1 b2 g2 h2 s := ⟨h.c.stay u, h.r.stay u, h.len, h.u.trans u⟩
theorem Both.next (h : Both w w1 n b1 g1 m1 b2 g2 h2 s) (S : Sep w b1 g1 m1 b2 g2 h2) (hl : t.now.length = s.now.length) (hc : IsC w2 b1 g1 m1 t) (u : Upd [g1, m1] w1 w2) (hr : IsR w3 b2 g2 h2 t) (u2 : Upd [g2, h2] w2 w3) : Both w w3 n b1 g1 m1 b2 g2 h2 t :=
  ⟨hc.upd u2 S.a.1 S.a.2.1 S.a.2.2, hr, hl.trans h.len, (h.u.step u S.ca).step u2 S.ra⟩
theorem Both.mid (h : Both w w1 n b1 g1 m1 b2 g2 h2 s) (S : Sep w b1 g1 m1 b2 g2 h2) (u : Upd [g1, m1] w1 w2) : IsR w2 b2 g2 h2 s := h.r.upd u S.b.1 S.b.2.1 S.b.2.2
end
set_option maxRecDepth 100000 in
set_option maxHeartbeats 12800000 in
theorem plays_good {w : World} {n N cap : Nat} {a : Option Addr} {l : List Deed} (h1 : 16 ≤ n) (h2 : n ≤ 1024) (hl : IsDeeds w w.heap.size a l) (hN : l.length = N) (hb : N ≤ 2990000000000) :
    Calls Try.prog 5 #[.int .i64 (n : Nat), .slice a N cap] w fun e w' => e = .returned (.bool true) ∧ Upd [] w w' := by
  have HN := Lib.hid (fun w => cnew_yes (w := w) n h1 h2)
  have HRN := Lib.hid (fun w => rnew_yes (w := w) n h1 h2)
  have HMY := Lib.hid (fun w => many_yes n h1 h2 w)
  have HQY := Lib.hid (fun w => rmany_yes n h1 h2 w)
  have HL := Lib.hid hl
  have HLN := Lib.hid hN
  clear hl hN
  go_enter Try.func5, Try.ntmps5
  go_wp2_with fail
  refine (HN.out w).mono ?_
  rintro e w1 ⟨⟨b1, g1, m1, rfl, hC, hb1, hg1, hm1⟩, u1⟩
  have hb1' := lt_of_block hC.hd
  have hg1' := lt_of_block hC.row
  have hm1' : m1 < w1.heap.size := by obtain ⟨M, hM, _⟩ := hC.map; exact hM.lt
  go_wp2_with fail
  refine (HRN.out w1).mono ?_
  rintro e w2 ⟨⟨b2, g2, k2, rfl, hR2, hb2, hg2, hk2⟩, u2⟩
  have hsz1 := u1.size
  have HS : Hid (Sep w b1 g1 m1 b2 g2 k2) := by
    have : Sep w b1 g1 m1 b2 g2 k2 := ⟨by simp only [List.mem_cons, List.not_mem_nil, or_false]; omega, by simp only [List.mem_cons, List.not_mem_nil, or_false]; omega, fun x hx => .inr (by simp only [List.mem_cons, List.not_mem_nil, or_false] at hx; omega), fun x hx => .inr (by simp only [List.mem_cons, List.not_mem_nil, or_false] at hx; omega)⟩
    exact this
  have HB : Hid (Both w w2 n b1 g1 m1 b2 g2 k2 (Ct.new n)) := by
    have : Both w w2 n b1 g1 m1 b2 g2 k2 (Ct.new n) := ⟨hC.stay u2, hR2, Ct.new_len n, u1.trans u2⟩
    exact this
  clear hC u1 hb1 hg1 hm1 hb1' hg1' hm1' hR2 hb2 hg2 hk2 u2 hsz1
  go_wp2_with (first
    | (go_at_call 13; (with_reducible refine (HMY.out _).mono ?_); rintro e w3 ⟨rfl, rfl⟩)
    | (go_at_call 17; (with_reducible refine (HQY.out _).mono ?_); rintro e w3 ⟨rfl, rfl⟩))
  go_loopw [8] (fun i wr => ∃ j : Nat, j ≤ N ∧ i = .int .i64 j ∧ ∃ s, Both w wr n b1 g1 m1 b2 g2 k2 s) (fun i _ => N - (RowKit.intOf i).toNat)
  case atStart => exact ⟨0, by omega, rfl, _, HB.out⟩
  case round =>
    obtain ⟨j, hj, rfl, s, hBo⟩ := hrel
    have HBo := Lib.hid hBo
    clear hBo
    by_cases hlt : j < N
    · have hjl : j < l.length := by have := HLN.out; omega
      obtain ⟨dg, do_, rfl, hda⟩ := HL.out j hjl
      obtain ⟨pa, pc, hke, hpc, hpm, hkr⟩ := hda.keep
      obtain ⟨⟨q0, q1, q2, q3⟩, _⟩ := hke wr HBo.out.u
      have HKE := Lib.hid (fun W u => (hke W u).2)
      have HKR := Lib.hid hkr
      have HPC := Lib.hid hpc
      have HPM := Lib.hid hpm
      generalize l[j] = d at *
      obtain ⟨dk, dp, dy, db⟩ := d
      simp only at q0 q1 q2 q3 HKE HKR HPC
      clear hda hke hpc hpm hkr
      have HSO := Lib.hid HBo.out.c.ok
      have hx0 : (wr.alloc (.cells #[.int .i64 dk, .int .i64 dp, .int .i64 dy, .slice pa db.length pc] 25)).heap[wr.heap.size]? = some (.cells #[.int .i64 dk, .int .i64 dp, .int .i64 dy, .slice pa db.length pc] 25 (0, 0)) := heap_alloc_new _ _
      have HX0 := Lib.hid hx0
      have HB1 := Lib.hid (HBo.out.stay ((Upd.refl [] wr).alloc (.cells #[.int .i64 dk, .int .i64 dp, .int .i64 dy, .slice pa db.length pc] 25)))
      have hbc := lt_of_block HBo.out.c.hd
      have HXN : Hid (wr.heap.size ∉ [g1, m1] ∧ wr.heap.size ∉ [g2, k2]) := by
        have h3 := lt_of_block HBo.out.c.row
        have h4 : m1 < wr.heap.size := by obtain ⟨M, hM, _⟩ := HBo.out.c.map; exact hM.lt
        have h5 := lt_of_block HBo.out.r.row
        have h6 := lt_of_block HBo.out.r.was
        have : wr.heap.size ∉ [g1, m1] ∧ wr.heap.size ∉ [g2, k2] := by simp only [List.mem_cons, List.not_mem_nil, or_false]; omega
        exact this
      have HXC : Hid (∀ W : World, W.heap[wr.heap.size]? = some (.cells #[.int .i64 dk, .int .i64 dp, .int .i64 dy, .slice pa db.length pc] 25 (0, 0)) → W.cell? ⟨wr.heap.size, 1, none⟩ = some (.int .i64 dp) ∧ W.cell? ⟨wr.heap.size, 2, none⟩ = some (.int .i64 dy) ∧ W.cell? ⟨wr.heap.size, 3, none⟩ = some (.slice pa db.length pc)) := fun W h => ⟨(cells_of h).1 1, (cells_of h).1 2, (cells_of h).1 3⟩
      clear hx0 hbc HBo
      go_wp2_with fail
      generalize wr.alloc (.cells #[.int .i64 dk, .int .i64 dp, .int .i64 dy, .slice pa db.length pc] 25) = W1 at *
      clear q0 q1 q2 q3
      refine (pick_any dk 6 (by decide) (by decide) HKR.out W1).mono ?_
      rintro e W2 ⟨rfl, rfl⟩
      obtain ⟨hk0, hk6⟩ := kindOf_bd dk (n := 6) (by decide)
      generalize kindOf dk 6 = K at *
      have hD : Both w W1.drew n b1 g1 m1 b2 g2 k2 s := HB1.out.stay (Upd.drew (Upd.refl [] W1))
      have HD := Lib.hid hD
      have hXD : W1.drew.heap[wr.heap.size]? = some (.cells #[.int .i64 dk, .int .i64 dp, .int .i64 dy, .slice pa db.length pc] 25 (0, 0)) := HX0.out
      have HXD := Lib.hid hXD
      obtain ⟨hc1, hc2, hc3⟩ := HXC.out _ hXD
      clear hD hXD
      by_cases hkk : K = 0
      · have e0 : (K == 0) = true := by simpa using (by omega : K = 0)
        have e1 : (K == 1) = false := by simpa using (by omega : ¬ K = 1)
        have e2 : (K == 2) = false := by simpa using (by omega : ¬ K = 2)
        have e3 : (K == 3) = false := by simpa using (by omega : ¬ K = 3)
        have e4 : (K == 4) = false := by simpa using (by omega : ¬ K = 4)
        have e5 : (K == 5) = false := by simpa using (by omega : ¬ K = 5)
        clear hk0 hk6 hkk
        have HAC := Lib.hid (cadd_any HD.out.c dp dy)
        have HAR := Lib.hid (fun W (hr : IsR W b2 g2 k2 s) => radd_any hr dp dy)
        have HLS := Lib.hid (Ct.add_len s dp dy)
        have hE0 := And.intro hc1 hc2
        generalize s.addE dp dy = E at *
        generalize s.add dp dy = s5 at *
        clear hc1 hc2 hc3
        go_wp2
        first | (go_region_held (fun w' => w'.cell? ⟨wr.heap.size, 1, none⟩ = some (.int .i64 dp) ∧ w'.cell? ⟨wr.heap.size, 2, none⟩ = some (.int .i64 dy)) (first | exact hE0 | exact hE1 | exact hE2) (first
                    | (go_at_call 8; (with_reducible refine HAC.out.mono ?_); rintro e w5 ⟨rfl, h5, u5⟩; have H5 := Lib.hid h5; have U5 := Lib.hid u5; have hx5 := u5.get HXD.out HXN.out.1; have HX5 := Lib.hid hx5; have hE1 := And.intro (HXC.out _ hx5).1 (HXC.out _ hx5).2.1; have HM5 := Lib.hid (HD.out.mid HS.out u5); clear h5 u5 hx5)
                    | (go_at_call 19; (with_reducible refine (HAR.out _ HM5.out).mono ?_); rintro e w6 ⟨rfl, h6, u6⟩; have H6 := Lib.hid h6; have U6 := Lib.hid (u6.mono (T := [g2, k2]) (by simp)); have hx6 := U6.out.get HX5.out HXN.out.2; have hE2 := And.intro (HXC.out _ hx6).1 (HXC.out _ hx6).2.1; clear h6 u6 hx6))) | fail
        all_goals
          have hfin := HD.out.next HS.out HLS.out H5.out U5.out H6.out U6.out
          clear hE0 hE1 hE2
        all_goals
          have HFI := Lib.hid hfin
          have HT1 := Lib.hid (ctouched_any hfin.c)
          have HT2 := Lib.hid (fun W u => rtouched_any (hfin.r.stay (w' := W) u))
          have HTL : Hid (s5.touchedI.length ≤ 9223372036854775807) := by
            have : s5.touchedI.length ≤ 9223372036854775807 := by unfold Ct.touchedI; rw [List.length_map]; have := Ct.touched_len hfin.c.ok; omega
            exact this
          clear hfin
          generalize s5.touchedI = tl at *
          go_wp2_with fail
          refine HT1.out.mono ?_
          rintro e wa ⟨⟨va, rfl, hva⟩, ua⟩
          obtain ⟨aa, ca, rfl, hia, _⟩ := hva.slice
          have HIA := Lib.hid hia
          have UA := Lib.hid ua
          clear hva hia ua
          go_wp2_with fail
          refine (HT2.out _ UA.out).mono ?_
          rintro e wb ⟨⟨vb, rfl, hvb⟩, ub⟩
          obtain ⟨ab, cb, rfl, hib, _⟩ := hvb.slice
          have HIB := Lib.hid hib
          have HIA2 := Lib.hid (HIA.out.upd ub (by simp))
          have UB := Lib.hid (UA.out.trans ub)
          clear hvb hib ub
          go_wp2_with fail
          refine (nums_same HIA2.out HIB.out HTL.out).mono ?_
          rintro e wc ⟨rfl, uc⟩
          have UC := Lib.hid (UB.out.trans uc)
          clear uc
          go_wp2
          go_roundw
          case rel => exact ⟨j + 1, by omega, by go_num, s5, HFI.out.stay UC.out⟩
          case measure => simp [RowKit.intOf]; omega
      · by_cases hkk : K = 1
        · have e0 : (K == 0) = false := by simpa using (by omega : ¬ K = 0)
          have e1 : (K == 1) = true := by simpa using (by omega : K = 1)
          have e2 : (K == 2) = false := by simpa using (by omega : ¬ K = 2)
          have e3 : (K == 3) = false := by simpa using (by omega : ¬ K = 3)
          have e4 : (K == 4) = false := by simpa using (by omega : ¬ K = 4)
          have e5 : (K == 5) = false := by simpa using (by omega : ¬ K = 5)
          clear hk0 hk6 hkk
          have HAC := Lib.hid (cload_any HD.out.c dp (cap := pc) (HKE.out _ HD.out.u) HPC.out HPM.out)
          have HAR := Lib.hid (fun W (hr : IsR W b2 g2 k2 s) (u : Upd [] w W) => rload_any hr dp (cap := pc) (HKE.out _ u) (Nat.le_trans HPC.out HPM.out))
          have HLS := Lib.hid (Ct.load_len s dp db)
          have hE0 := And.intro hc1 hc3
          generalize (s.load dp db).1 = E at *
          generalize (s.load dp db).2 = s5 at *
          clear hc1 hc2 hc3
          go_wp2
          first | (go_region_held (fun w' => w'.cell? ⟨wr.heap.size, 1, none⟩ = some (.int .i64 dp) ∧ w'.cell? ⟨wr.heap.size, 3, none⟩ = some (.slice pa db.length pc)) (first | exact hE0 | exact hE1 | exact hE2) (first
                      | (go_at_call 15; (with_reducible refine HAC.out.mono ?_); rintro e w5 ⟨rfl, h5, u5⟩; have H5 := Lib.hid h5; have U5 := Lib.hid u5; have hx5 := u5.get HXD.out HXN.out.1; have HX5 := Lib.hid hx5; have hE1 := And.intro (HXC.out _ hx5).1 (HXC.out _ hx5).2.2; have HM5 := Lib.hid (HD.out.mid HS.out u5); have UW5 := Lib.hid (HD.out.u.step u5 HS.out.ca); clear h5 u5 hx5)
                      | (go_at_call 20; (with_reducible refine (HAR.out _ HM5.out UW5.out).mono ?_); rintro e w6 ⟨rfl, h6, u6⟩; have H6 := Lib.hid h6; have U6 := Lib.hid u6; have hx6 := u6.get HX5.out HXN.out.2; have hE2 := And.intro (HXC.out _ hx6).1 (HXC.out _ hx6).2.2; clear h6 u6 hx6))) | fail
          all_goals
            have hfin := HD.out.next HS.out HLS.out H5.out U5.out H6.out U6.out
            clear hE0 hE1 hE2
          all_goals
            have HFI := Lib.hid hfin
            have HT1 := Lib.hid (ctouched_any hfin.c)
            have HT2 := Lib.hid (fun W u => rtouched_any (hfin.r.stay (w' := W) u))
            have HTL : Hid (s5.touchedI.length ≤ 9223372036854775807) := by
              have : s5.touchedI.length ≤ 9223372036854775807 := by unfold Ct.touchedI; rw [List.length_map]; have := Ct.touched_len hfin.c.ok; omega
              exact this
            clear hfin
            generalize s5.touchedI = tl at *
            go_wp2_with fail
            refine HT1.out.mono ?_
            rintro e wa ⟨⟨va, rfl, hva⟩, ua⟩
            obtain ⟨aa, ca, rfl, hia, _⟩ := hva.slice
            have HIA := Lib.hid hia
            have UA := Lib.hid ua
            clear hva hia ua
            go_wp2_with fail
            refine (HT2.out _ UA.out).mono ?_
            rintro e wb ⟨⟨vb, rfl, hvb⟩, ub⟩
            obtain ⟨ab, cb, rfl, hib, _⟩ := hvb.slice
            have HIB := Lib.hid hib
            have HIA2 := Lib.hid (HIA.out.upd ub (by simp))
            have UB := Lib.hid (UA.out.trans ub)
            clear hvb hib ub
            go_wp2_with fail
            refine (nums_same HIA2.out HIB.out HTL.out).mono ?_
            rintro e wc ⟨rfl, uc⟩
            have UC := Lib.hid (UB.out.trans uc)
            clear uc
            go_wp2
            go_roundw
            case rel => exact ⟨j + 1, by omega, by go_num, s5, HFI.out.stay UC.out⟩
            case measure => simp [RowKit.intOf]; omega
        · by_cases hkk : K = 2
          · have e0 : (K == 0) = false := by simpa using (by omega : ¬ K = 0)
            have e1 : (K == 1) = false := by simpa using (by omega : ¬ K = 1)
            have e2 : (K == 2) = true := by simpa using (by omega : K = 2)
            have e3 : (K == 3) = false := by simpa using (by omega : ¬ K = 3)
            have e4 : (K == 4) = false := by simpa using (by omega : ¬ K = 4)
            have e5 : (K == 5) = false := by simpa using (by omega : ¬ K = 5)
            clear hk0 hk6 hkk
            have HLS : Hid (s.settle.now.length = s.now.length) := rfl
            clear hc1 hc2 hc3
            go_wp2_with (first
              | (go_at_call 9; (with_reducible refine (csettle_any HB1.out.c).mono ?_); rintro e w5 ⟨rfl, h5, u5⟩; have H5 := Lib.hid h5; have U5 := Lib.hid u5; have HM5 := Lib.hid (HB1.out.mid HS.out u5); clear h5 u5)
              | (go_at_call 21; (with_reducible refine (rsettle_any HM5.out).mono ?_); rintro e w6 ⟨rfl, h6, u6⟩; have H6 := Lib.hid h6; have U6 := Lib.hid (u6.mono (T := [g2, k2]) (by simp)); clear h6 u6)
              | fail)
            have hfin := HB1.out.next HS.out HLS.out H5.out U5.out H6.out U6.out
            generalize s.settle = s5 at *
            all_goals
              have HFI := Lib.hid hfin
              have HT1 := Lib.hid (ctouched_any hfin.c)
              have HT2 := Lib.hid (fun W u => rtouched_any (hfin.r.stay (w' := W) u))
              have HTL : Hid (s5.touchedI.length ≤ 9223372036854775807) := by
                have : s5.touchedI.length ≤ 9223372036854775807 := by unfold Ct.touchedI; rw [List.length_map]; have := Ct.touched_len hfin.c.ok; omega
                exact this
              clear hfin
              generalize s5.touchedI = tl at *
              go_wp2_with fail
              refine HT1.out.mono ?_
              rintro e wa ⟨⟨va, rfl, hva⟩, ua⟩
              obtain ⟨aa, ca, rfl, hia, _⟩ := hva.slice
              have HIA := Lib.hid hia
              have UA := Lib.hid ua
              clear hva hia ua
              go_wp2_with fail
              refine (HT2.out _ UA.out).mono ?_
              rintro e wb ⟨⟨vb, rfl, hvb⟩, ub⟩
              obtain ⟨ab, cb, rfl, hib, _⟩ := hvb.slice
              have HIB := Lib.hid hib
              have HIA2 := Lib.hid (HIA.out.upd ub (by simp))
              have UB := Lib.hid (UA.out.trans ub)
              clear hvb hib ub
              go_wp2_with fail
              refine (nums_same HIA2.out HIB.out HTL.out).mono ?_
              rintro e wc ⟨rfl, uc⟩
              have UC := Lib.hid (UB.out.trans uc)
              clear uc
              go_wp2
              go_roundw
              case rel => exact ⟨j + 1, by omega, by go_num, s5, HFI.out.stay UC.out⟩
              case measure => simp [RowKit.intOf]; omega
          · by_cases hkk : K = 3
            · have e0 : (K == 0) = false := by simpa using (by omega : ¬ K = 0)
              have e1 : (K == 1) = false := by simpa using (by omega : ¬ K = 1)
              have e2 : (K == 2) = false := by simpa using (by omega : ¬ K = 2)
              have e3 : (K == 3) = true := by simpa using (by omega : K = 3)
              have e4 : (K == 4) = false := by simpa using (by omega : ¬ K = 4)
              have e5 : (K == 5) = false := by simpa using (by omega : ¬ K = 5)
              clear hk0 hk6 hkk
              have HLS : Hid (s.undo.now.length = s.now.length) := HSO.out.len
              clear hc1 hc2 hc3
              go_wp2_with (first
                | (go_at_call 11; (with_reducible refine (cundo_any HB1.out.c).mono ?_); rintro e w5 ⟨rfl, h5, u5⟩; have H5 := Lib.hid h5; have U5 := Lib.hid u5; have HM5 := Lib.hid (HB1.out.mid HS.out u5); clear h5 u5)
                | (go_at_call 22; (with_reducible refine (rundo_any HM5.out).mono ?_); rintro e w6 ⟨rfl, h6, u6⟩; have H6 := Lib.hid h6; have U6 := Lib.hid (u6.mono (T := [g2, k2]) (by simp)); clear h6 u6)
                | fail)
              have hfin := HB1.out.next HS.out HLS.out H5.out U5.out H6.out U6.out
              generalize s.undo = s5 at *
              all_goals
                have HFI := Lib.hid hfin
                have HT1 := Lib.hid (ctouched_any hfin.c)
                have HT2 := Lib.hid (fun W u => rtouched_any (hfin.r.stay (w' := W) u))
                have HTL : Hid (s5.touchedI.length ≤ 9223372036854775807) := by
                  have : s5.touchedI.length ≤ 9223372036854775807 := by unfold Ct.touchedI; rw [List.length_map]; have := Ct.touched_len hfin.c.ok; omega
                  exact this
                clear hfin
                generalize s5.touchedI = tl at *
                go_wp2_with fail
                refine HT1.out.mono ?_
                rintro e wa ⟨⟨va, rfl, hva⟩, ua⟩
                obtain ⟨aa, ca, rfl, hia, _⟩ := hva.slice
                have HIA := Lib.hid hia
                have UA := Lib.hid ua
                clear hva hia ua
                go_wp2_with fail
                refine (HT2.out _ UA.out).mono ?_
                rintro e wb ⟨⟨vb, rfl, hvb⟩, ub⟩
                obtain ⟨ab, cb, rfl, hib, _⟩ := hvb.slice
                have HIB := Lib.hid hib
                have HIA2 := Lib.hid (HIA.out.upd ub (by simp))
                have UB := Lib.hid (UA.out.trans ub)
                clear hvb hib ub
                go_wp2_with fail
                refine (nums_same HIA2.out HIB.out HTL.out).mono ?_
                rintro e wc ⟨rfl, uc⟩
                have UC := Lib.hid (UB.out.trans uc)
                clear uc
                go_wp2
                go_roundw
                case rel => exact ⟨j + 1, by omega, by go_num, s5, HFI.out.stay UC.out⟩
                case measure => simp [RowKit.intOf]; omega
            · by_cases hkk : K = 4
              · have e0 : (K == 0) = false := by simpa using (by omega : ¬ K = 0)
                have e1 : (K == 1) = false := by simpa using (by omega : ¬ K = 1)
                have e2 : (K == 2) = false := by simpa using (by omega : ¬ K = 2)
                have e3 : (K == 3) = false := by simpa using (by omega : ¬ K = 3)
                have e4 : (K == 4) = true := by simpa using (by omega : K = 4)
                have e5 : (K == 5) = false := by simpa using (by omega : ¬ K = 5)
                clear hk0 hk6 hkk
                have HAC := Lib.hid (cbody_any HD.out.c dp)
                have HAR := Lib.hid (fun W (u : Upd [] W1.drew W) => rbody_any (HD.out.r.stay u) dp)
                obtain ⟨z, hz⟩ : ∃ z, strOfNums ((s.body dp).map fun n : Nat => (n : Int)) = z := ⟨_, rfl⟩
                have HCV : Hid (∀ W a c, IsBytes W a (s.body dp) → (convert 23 9 (.slice a (s.body dp).length c)).run Try.prog W = .ok (.string z) W) := fun W a c h => by rw [← hz]; exact cconv h c
                have hE0 := hc1
                generalize s.body dp = bl at *
                clear hc1 hc2 hc3 hz
                go_wp2
                first | (go_region_held (fun w' => w'.cell? ⟨wr.heap.size, 1, none⟩ = some (.int .i64 dp)) (first | exact hE0 | exact hE1 | exact hE2) (first
                            | (go_at_call 14; (with_reducible refine HAC.out.mono ?_); rintro e w5 ⟨⟨v5, rfl, hv5⟩, u5⟩; obtain ⟨a5, c5, rfl, hi5, _⟩ := hv5.slice; have U5 := Lib.hid u5; have HI5 := Lib.hid hi5; have hx5 := u5.get HXD.out (by simp); have HX5 := Lib.hid hx5; have hE1 := (HXC.out _ hx5).1; have hV5 := HCV.out w5 a5 c5 hi5; clear hv5 u5 hi5 hx5)
                            | (go_at_call 23; (with_reducible refine (HAR.out _ U5.out).mono ?_); rintro e w6 ⟨⟨v6, rfl, hv6⟩, u6⟩; obtain ⟨a6, c6, rfl, hi6, _⟩ := hv6.slice; have U6 := Lib.hid u6; have hx6 := u6.get HX5.out (by simp); have hE2 := (HXC.out _ hx6).1; have hV6 := HCV.out w6 a6 c6 hi6; have hV56 := HCV.out w6 a5 c5 (HI5.out.upd u6 (by simp)); clear hv6 u6 hi6 hx6))) | fail
                all_goals
                  have hfin := HD.out.stay (U5.out.trans U6.out)
                  clear hE0 hE1 hE2 hV5 hV6 hV56
                  generalize s = s5 at *
                all_goals
                  have HFI := Lib.hid hfin
                  have HT1 := Lib.hid (ctouched_any hfin.c)
                  have HT2 := Lib.hid (fun W u => rtouched_any (hfin.r.stay (w' := W) u))
                  have HTL : Hid (s5.touchedI.length ≤ 9223372036854775807) := by
                    have : s5.touchedI.length ≤ 9223372036854775807 := by unfold Ct.touchedI; rw [List.length_map]; have := Ct.touched_len hfin.c.ok; omega
                    exact this
                  clear hfin
                  generalize s5.touchedI = tl at *
                  go_wp2_with fail
                  refine HT1.out.mono ?_
                  rintro e wa ⟨⟨va, rfl, hva⟩, ua⟩
                  obtain ⟨aa, ca, rfl, hia, _⟩ := hva.slice
                  have HIA := Lib.hid hia
                  have UA := Lib.hid ua
                  clear hva hia ua
                  go_wp2_with fail
                  refine (HT2.out _ UA.out).mono ?_
                  rintro e wb ⟨⟨vb, rfl, hvb⟩, ub⟩
                  obtain ⟨ab, cb, rfl, hib, _⟩ := hvb.slice
                  have HIB := Lib.hid hib
                  have HIA2 := Lib.hid (HIA.out.upd ub (by simp))
                  have UB := Lib.hid (UA.out.trans ub)
                  clear hvb hib ub
                  go_wp2_with fail
                  refine (nums_same HIA2.out HIB.out HTL.out).mono ?_
                  rintro e wc ⟨rfl, uc⟩
                  have UC := Lib.hid (UB.out.trans uc)
                  clear uc
                  go_wp2
                  go_roundw
                  case rel => exact ⟨j + 1, by omega, by go_num, s5, HFI.out.stay UC.out⟩
                  case measure => simp [RowKit.intOf]; omega
              · have hkk : K = 5 := by omega
                have e0 : (K == 0) = false := by simpa using (by omega : ¬ K = 0)
                have e1 : (K == 1) = false := by simpa using (by omega : ¬ K = 1)
                have e2 : (K == 2) = false := by simpa using (by omega : ¬ K = 2)
                have e3 : (K == 3) = false := by simpa using (by omega : ¬ K = 3)
                have e4 : (K == 4) = false := by simpa using (by omega : ¬ K = 4)
                have e5 : (K == 5) = true := by simpa using (by omega : K = 5)
                clear hk0 hk6 hkk
                have HAC := Lib.hid (cget_any HD.out.c dp)
                have HAR := Lib.hid (rget_any HD.out.r dp)
                have hE0 := hc1
                generalize s.get dp = x at *
                clear hc1 hc2 hc3
                go_wp2
                first | (go_region_held (fun w' => w'.cell? ⟨wr.heap.size, 1, none⟩ = some (.int .i64 dp)) (first | exact hE0) (first
                            | (go_at_call 10; (with_reducible refine HAC.out.mono ?_); rintro e w5 ⟨rfl, rfl⟩)
                            | (go_at_call 24; (with_reducible refine HAR.out.mono ?_); rintro e w6 ⟨rfl, rfl⟩))) | fail
                all_goals
                  have hfin := HD.out
                  clear hE0
                  generalize s = s5 at *
                all_goals
                  have HFI := Lib.hid hfin
                  have HT1 := Lib.hid (ctouched_any hfin.c)
                  have HT2 := Lib.hid (fun W u => rtouched_any (hfin.r.stay (w' := W) u))
                  have HTL : Hid (s5.touchedI.length ≤ 9223372036854775807) := by
                    have : s5.touchedI.length ≤ 9223372036854775807 := by unfold Ct.touchedI; rw [List.length_map]; have := Ct.touched_len hfin.c.ok; omega
                    exact this
                  clear hfin
                  generalize s5.touchedI = tl at *
                  go_wp2_with fail
                  refine HT1.out.mono ?_
                  rintro e wa ⟨⟨va, rfl, hva⟩, ua⟩
                  obtain ⟨aa, ca, rfl, hia, _⟩ := hva.slice
                  have HIA := Lib.hid hia
                  have UA := Lib.hid ua
                  clear hva hia ua
                  go_wp2_with fail
                  refine (HT2.out _ UA.out).mono ?_
                  rintro e wb ⟨⟨vb, rfl, hvb⟩, ub⟩
                  obtain ⟨ab, cb, rfl, hib, _⟩ := hvb.slice
                  have HIB := Lib.hid hib
                  have HIA2 := Lib.hid (HIA.out.upd ub (by simp))
                  have UB := Lib.hid (UA.out.trans ub)
                  clear hvb hib ub
                  go_wp2_with fail
                  refine (nums_same HIA2.out HIB.out HTL.out).mono ?_
                  rintro e wc ⟨rfl, uc⟩
                  have UC := Lib.hid (UB.out.trans uc)
                  clear uc
                  go_wp2
                  go_roundw
                  case rel => exact ⟨j + 1, by omega, by go_num, s5, HFI.out.stay UC.out⟩
                  case measure => simp [RowKit.intOf]; omega
    · have HC3 := Lib.hid HBo.out.c
      have HR3 := Lib.hid HBo.out.r
      have HU3 := Lib.hid HBo.out.u
      go_wp2_with fail
      go_loop [12] (fun i => ∃ q : Int, -1 ≤ q ∧ q ≤ n + 1 ∧ i = .int .i64 q) (fun i => (n + 1 - RowKit.intOf i).toNat)
      case atStart => exact ⟨-1, by omega, by omega, rfl⟩
      case round =>
        obtain ⟨q, hq1, hq2, rfl⟩ := hrel
        by_cases hltq : q ≤ n
        · have HG1 := Lib.hid (cget_any HC3.out q)
          have HG2 := Lib.hid (rget_any HR3.out q)
          generalize s.get q = x at *
          go_wp2_with fail
          refine HG1.out.mono ?_
          rintro e w3 ⟨rfl, rfl⟩
          go_wp2_with fail
          refine HG2.out.mono ?_
          rintro e w3 ⟨rfl, rfl⟩
          go_wp2
          go_round
          case rel => exact ⟨q + 1, by omega, by omega, rfl⟩
          case measure => simp [RowKit.intOf]; omega
        · go_wp2_with (go_at_call 7; (with_reducible refine (lives_any _).mono ?_); rintro e w9 ⟨rfl, u9⟩; have U9 := Lib.hid u9; clear u9)
          go_ret
          exact ⟨rfl, HU3.out.trans U9.out⟩
end Go.Proofs.Ytgmabhfffgnjjaa
