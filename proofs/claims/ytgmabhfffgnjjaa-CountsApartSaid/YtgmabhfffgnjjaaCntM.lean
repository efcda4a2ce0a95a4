/-
  PROVED HERE: CountsApart returns true whatever it is given. Conditions: those that each theorem names.
-/
import Derived.Test.YtgmabhfffgnjjaaCntL
namespace Go.Proofs.Ytgmabhfffgnjjaa
open Go.RowKit

def dv (k p y : Int) (q : Value) : Value := .agg #[.int .i64 k, .int .i64 p, .int .i64 y, q]
theorem apart_bad {w : World} {n : Int} (h : n < 16 ∨ 1024 < n) (v : Value) (k p y : Int) (q : Value) :
    Calls Try.prog 3 #[.int .i64 n, v, dv k p y q] w fun e w' => e = .returned (.bool true) ∧ Upd [] w w' := by
  have HN := Lib.hid (fun w => cnew_no n h w)
  clear h
  unfold dv
  go_enter Try.func3, Try.ntmps3
  go_wp2_with (first
    | (go_at_call 6; (with_reducible refine (HN.out _).mono ?_); rintro e w1 ⟨rfl, rfl⟩)
    | (go_at_call 7; (with_reducible refine (lives_any _).mono ?_); rintro e w2 ⟨rfl, u2⟩; have U2 := Lib.hid u2; clear u2))
  go_ret
  exact ⟨rfl, ((Upd.refl [] w).alloc _).trans U2.out⟩
theorem Ct.add_undo (s : Ct) (p y : Int) : (s.settle.add p y).undo = s.settle := by
  unfold Ct.undo
  rw [Ct.add_old]
  rfl
set_option maxRecDepth 100000 in
set_option maxHeartbeats 4000000 in
theorem apart_good {w : World} {n N cap : Nat} {a : Option Addr} {l : List Deed} (h1 : 16 ≤ n) (h2 : n ≤ 1024) (hl : IsDeeds w w.heap.size a l) (hN : l.length = N) (hb : N ≤ 2990000000000) (k p y : Int) (q : Value) :
    Calls Try.prog 3 #[.int .i64 (n : Nat), .slice a N cap, dv k p y q] w fun e w' => e = .returned (.bool true) ∧ Upd [] w w' := by
  have HN := Lib.hid (fun w => cnew_yes (w := w) n h1 h2)
  have u0 : Upd [] w (w.alloc (.cells #[.int .i64 k, .int .i64 p, .int .i64 y, q] 25)) := (Upd.refl [] w).alloc _
  have HL := Lib.hid (hl.upd u0 (by simp))
  have HLN := Lib.hid hN
  have HX := Lib.hid (heap_alloc_new w (.cells #[.int .i64 k, .int .i64 p, .int .i64 y, q] 25))
  have U0 := Lib.hid u0
  have hsz : (w.alloc (.cells #[.int .i64 k, .int .i64 p, .int .i64 y, q] 25)).heap.size = w.heap.size + 1 := World.size_alloc _ _
  have HSZ := Lib.hid hsz
  clear hl hN u0 hsz
  unfold dv
  go_enter Try.func3, Try.ntmps3
  go_wp2_with fail
  generalize w.alloc (.cells #[.int .i64 k, .int .i64 p, .int .i64 y, q] 25) = w0 at *
  refine (HN.out w0).mono ?_
  rintro e w1 ⟨⟨b, g, m, rfl, hC, hb1, hg1, hm1⟩, u1⟩
  have HC := Lib.hid hC
  have U1 := Lib.hid u1
  have HS : Hid (∀ x, x ∈ [g, m] → x ∈ ([] : List Nat) ∨ w0.heap.size ≤ x) := fun x hx => .inr (by
    simp only [List.mem_cons, List.not_mem_nil, or_false] at hx
    rcases hx with rfl | rfl
    · exact hg1
    · exact hm1)
  clear hC u1 hb1 hg1 hm1
  go_wp2_with fail
  go_loopw [9] (fun i wr => ∃ j : Nat, j ≤ N ∧ i = .int .i64 j ∧ IsC wr b g m ((Ct.new n).adds (l.take j)) ∧ Upd [] w0 wr) (fun i _ => N - (RowKit.intOf i).toNat)
  case atStart => exact ⟨0, by omega, rfl, HC.out, U1.out⟩
  case round =>
    obtain ⟨j, hj, rfl, hC, hU⟩ := hrel
    have HCr := Lib.hid hC
    have HU := Lib.hid hU
    clear hC hU
    by_cases hlt : j < N
    · have hjl : j < l.length := by have := HLN.out; omega
      have HSN := Lib.hid ((Ct.new n).adds_snoc l j hjl)
      obtain ⟨dg, do_, rfl, pa, pc, ⟨q0, q1, q2, q3⟩, _⟩ := (HL.out.upd HU.out (by simp)) j hjl
      generalize l[j] = d at *
      clear q0 q3
      go_wp2
      refine wp_region_still_tail 11 (by kernel_rfl) (by kernel_rfl) ?_
      simp only [List.take_succ_cons, List.take_zero, List.drop_succ_cons, List.drop_zero]
      change wpStill _ _ wr.drew (fun a' => wpList _ _ _ _ a' wr.drew) _ _
      iterate 11 still_step
      refine wpStill_nil ?_
      go_wp2_with (go_at_call 8; (with_reducible refine (cadd_any (w := wr.drew) (HCr.out.stay (Upd.drew (Upd.refl [] wr))) d.p d.y).mono ?_); rintro e w5 ⟨rfl, h5, u5⟩; have H5 := Lib.hid h5; have U5 := Lib.hid u5; clear h5 u5)
      go_roundw
      case rel => exact ⟨j + 1, by omega, by go_num, by rw [HSN.out]; exact H5.out, HU.out.drew.step U5.out HS.out⟩
      case measure => simp [RowKit.intOf]; omega
    · obtain rfl : j = N := by omega
      have HOK := Lib.hid (Ct.adds_ok (Ct.new_ok h1 h2) (l.take j))
      have HLEN := Lib.hid ((Ct.adds_len (Ct.new n) (l.take j)).trans (Ct.new_len n))
      generalize (Ct.new n).adds (l.take j) = s0 at *
      go_wp2_with fail
      refine (csettle_any HCr.out).mono ?_
      rintro e w5 ⟨rfl, h5, u5⟩
      have H5 := Lib.hid h5
      have U5 := Lib.hid (HU.out.step u5 HS.out)
      have HUN := Lib.hid (Ct.add_undo s0 p y)
      have HL1 := Lib.hid (show s0.settle.now.length = n from HLEN.out)
      have HT1 := Lib.hid (Ct.touched_none (s := s0.settle) rfl)
      have HOK1 := Lib.hid (Ct.settle_ok HOK.out)
      clear h5 u5
      generalize s0.settle = s1 at *
      clear HCr HU HLEN HOK HC U1
      go_wp2_with fail
      go_loopw [10, 11] (fun v i wr => ∃ j : Nat, j ≤ n ∧ i = .int .i64 j ∧ IsC wr b g m s1 ∧ IntsOut wr w5.heap.size v (s1.now.take j) ∧ Upd [] w5 wr) (fun _ i _ => n - (RowKit.intOf i).toNat)
      case atStart => exact ⟨0, by omega, rfl, H5.out, by simpa using IntsOut.nil _ _, Upd.refl _ _⟩
      case round =>
        obtain ⟨i, hi, rfl, hC, hV, hU⟩ := hrel
        have HCr := Lib.hid hC
        have HV := Lib.hid hV
        have HU := Lib.hid hU
        have hsz := hU.size
        clear hC hV hU
        by_cases hlti : i < n
        · have hil : i < s1.now.length := by have := HL1.out; omega
          have HTK := Lib.hid (show s1.now.take (i + 1) = s1.now.take i ++ [s1.now.getD i 0] by rw [List.take_succ_eq_append_getElem hil, getD_in _ _ hil])
          have hget := cget_any HCr.out (i : Int)
          rw [Ct.get_nat] at hget
          have HGET := Lib.hid hget
          have HLE := Lib.hid (show (s1.now.take i).length ≤ 10000000000000 by rw [List.length_take]; omega)
          clear hget hil
          generalize s1.now.getD i 0 = z at *
          go_wp2_with (first
            | (go_at_call 10; (with_reducible refine HGET.out.mono ?_); rintro e w6 ⟨rfl, rfl⟩)
            | (at_builtin; refine wpList_pushi rfl (.tmp 60) (.tmp 64) rfl rfl (HV.out.upd ((Upd.refl [] _).alloc _) (by simp)) wr.heap.size 1 z rfl (news_at _ _ _ 0 _ rfl) HLE.out (by simp; omega) ?_; intro v' w7 hn7 hx7; have HN7 := Lib.hid hn7; have HX7 := Lib.hid hx7; clear hn7 hx7))
          go_roundw
          case rel =>
            have hlow := HV.out.low
            have u7 := ((Upd.refl _ wr).alloc (.cells #[.int .i64 z] 3)).trans HX7.out.upd
            have hbs := lt_of_block H5.out.hd
            have hgs := lt_of_block H5.out.row
            obtain ⟨M, hM, _⟩ := H5.out.map
            have hms := hM.lt
            exact ⟨i + 1, by omega, by go_num, HCr.out.upd u7 (fun hm => by have := hlow _ hm; omega) (fun hm => by have := hlow _ hm; omega) (fun hm => by have := hlow _ hm; omega), by rw [HTK.out]; exact HN7.out, HU.out.step u7 (fun x hx => .inr (by have := hlow x hx; omega))⟩
          case measure => simp [RowKit.intOf]; omega
        · obtain rfl : n = i := by omega
          have hv := HV.out
          rw [List.take_of_length_le (by have := HL1.out; omega)] at hv
          have HLOW := Lib.hid hv.low
          obtain ⟨av, cv, rfl, hvi, hvb, hvc, hvm⟩ := hv.slice
          rw [HL1.out] at hvc ⊢
          have HVI := Lib.hid hvi
          have HVB := Lib.hid hvb
          have hx0 := (U5.out.trans HU.out).get HX.out (by simp)
          obtain ⟨x0, x1, x2⟩ : wr.cell? ⟨w.heap.size, 0, none⟩ = some (.int .i64 k) ∧ wr.cell? ⟨w.heap.size, 1, none⟩ = some (.int .i64 p) ∧ wr.cell? ⟨w.heap.size, 2, none⟩ = some (.int .i64 y) := ⟨(cells_of hx0).1 0, (cells_of hx0).1 1, (cells_of hx0).1 2⟩
          have HADD := Lib.hid (cadd_any HCr.out p y)
          have HEC : Hid (s1.addE p y = 0 → s1.inR p = true ∧ s1.fits p y = true) := fun he => by
            unfold Ct.addE at he
            cases hr : s1.inR p
            · rw [hr] at he; cases he
            · rw [hr] at he
              cases hf : s1.fits p y
              · rw [hf] at he; cases he
              · exact ⟨rfl, rfl⟩
          have HEN : Hid (s1.addE p y ≠ 0 → ¬ (s1.inR p = true ∧ s1.fits p y = true)) := fun he hc => he (by unfold Ct.addE; rw [hc.1, hc.2]; rfl)
          have HAG := Lib.hid (fun q => Ct.add_get (s := s1) p y q)
          have HOK2 := Lib.hid (Ct.add_ok HOK1.out p y)
          have HX2 := Lib.hid hx0
          clear hv hvi hvb HV hx0
          generalize s1.addE p y = E at *
          generalize s1.add p y = s2 at *
          go_wp2_with (go_at_call 8; (with_reducible refine HADD.out.mono ?_); rintro e w6 ⟨rfl, h6, u6⟩; have H6 := Lib.hid h6; have U6 := Lib.hid u6; clear h6 u6)
          have hne : ∀ x ∈ [g, m], x ≠ av.elim 0 (·.block) ∨ True := fun _ _ => .inr trivial
          clear hne
          have hvnew : ∀ b' o', av = some ⟨b', o', none⟩ → w5.heap.size ≤ b' := fun b' o' e => (HLOW.out b' (HVB.out b' o' e)).1
          have hgs := lt_of_block H5.out.row
          have hms : m < w5.heap.size := by obtain ⟨M, hM, _⟩ := H5.out.map; exact hM.lt
          have HVI6 := Lib.hid (HVI.out.upd U6.out (fun b' o' e hm => by
            have := hvnew b' o' e
            simp only [List.mem_cons, List.not_mem_nil, or_false] at hm
            omega))
          have UH := Lib.hid ((U5.out.trans HU.out).step U6.out HS.out)
          have HX6 := Lib.hid (UH.out.get HX.out (by simp))
          clear x0 x1 x2 hvnew hgs hms
          go_loopw [13] (fun i wr => ∃ j : Nat, j ≤ n ∧ i = .int .i64 j ∧ Upd [] w6 wr) (fun i _ => n - (RowKit.intOf i).toNat)
          case atStart => exact ⟨0, by omega, rfl, Upd.refl _ _⟩
          case round =>
            obtain ⟨j, hj, rfl, hU3⟩ := hrel
            have HU3 := Lib.hid hU3
            have HC3 := Lib.hid (H6.out.stay hU3)
            by_cases hltj : j < n
            · have hjl : j < s1.now.length := by have := HL1.out; omega
              obtain ⟨bv, ov, rfl, hcell⟩ := (HVI6.out.upd hU3 (by simp)) j hjl
              rw [← getD_in _ _ hjl] at hcell
              have hxb := hU3.get HX6.out (by simp)
              obtain ⟨x1, x2⟩ : wr.cell? ⟨w.heap.size, 1, none⟩ = some (.int .i64 p) ∧ wr.cell? ⟨w.heap.size, 2, none⟩ = some (.int .i64 y) := ⟨(cells_of hxb).1 1, (cells_of hxb).1 2⟩
              have hz := HOK1.out.now.get j
              have hz2 := HOK2.out.now.get j
              have hag := HAG.out j
              have HGET := Lib.hid (fun W (hW : IsC W b g m s2) => (by have := cget_any hW (j : Int); rw [Ct.get_nat] at this; exact this : Calls Try.prog 10 #[.pointer (some ⟨b, 0, none⟩), .int .i64 (j : Nat)] W fun e w' => e = .returned (.int .i64 (s2.now.getD j 0)) ∧ W = w'))
              clear hxb hU3
              generalize s1.now.getD j 0 = z at *
              generalize s2.now.getD j 0 = z2 at *
              by_cases hjp : (j : Int) = p
              · have e1 : ((j : Int) != p) = false := by simpa using hjp
                have e2 : ((j : Int) == p) = true := by simpa using hjp
                by_cases hE : E = 0
                · have hzz : z2 = z + y := by rw [hag, if_pos ⟨hjp, HEC.out hE⟩]
                  have hwr : IntKind.i64.wrap (z2 - z) = y := by rw [hzz, show z + y - z = y by omega]; exact IntWalk.i64_in _ (by omega)
                  have e3 : (E == 0) = true := by simpa using hE
                  have e4 : (E != 0) = false := by simpa using hE
                  clear hag hzz hE hjp
                  go_wp2
                  go_quiet (fail)
                  go_wp2
                  go_quiet (first | (go_at_call 10; first | exact quiet_left (HGET.out _ (HC3.out.drewN _)) | exact quiet_add_left (HGET.out _ (HC3.out.drewN _))))
                  go_wp2
                  go_quiet (fail)
                  go_wp2
                  go_roundw
                  case rel => exact ⟨j + 1, by omega, by go_num, HU3.out.drewN _⟩
                  case measure => simp [RowKit.intOf]; omega
                · have hzz : z2 = z := by rw [hag, if_neg (fun h => HEN.out hE h.2)]
                  have e3 : (E == 0) = false := by simpa using hE
                  have e4 : (E != 0) = true := by simpa using hE
                  subst hzz
                  clear hag hE hjp
                  go_wp2
                  go_quiet (fail)
                  go_wp2
                  go_quiet (fail)
                  go_wp2
                  go_quiet (first | (go_at_call 10; first | exact quiet_left (HGET.out _ (HC3.out.drewN _)) | exact quiet_add_left (HGET.out _ (HC3.out.drewN _))))
                  go_wp2
                  go_roundw
                  case rel => exact ⟨j + 1, by omega, by go_num, HU3.out.drewN _⟩
                  case measure => simp [RowKit.intOf]; omega
              · have e1 : ((j : Int) != p) = true := by simpa using hjp
                have e2 : ((j : Int) == p) = false := by simpa using hjp
                have hzz : z2 = z := by rw [hag, if_neg (fun h => hjp h.1)]
                subst hzz
                clear hag hjp
                go_wp2
                go_quiet (first | (go_at_call 10; first | exact quiet_left (HGET.out _ (HC3.out.drewN _)) | exact quiet_add_left (HGET.out _ (HC3.out.drewN _))))
                go_wp2
                go_quiet (fail)
                go_wp2
                go_quiet (fail)
                go_wp2
                go_roundw
                case rel => exact ⟨j + 1, by omega, by go_num, HU3.out.drewN _⟩
                case measure => simp [RowKit.intOf]; omega
            · have hHU := HU3.out
              clear HAG HEC HEN
              go_wp2_with (go_at_call 11; (with_reducible refine (cundo_any HC3.out).mono ?_); rintro e w7 ⟨rfl, h7, u7⟩; rw [HUN.out] at h7; have H7 := Lib.hid h7; have U7 := Lib.hid u7; clear h7 u7)
              have hvnew : ∀ b' o', av = some ⟨b', o', none⟩ → w5.heap.size ≤ b' := fun b' o' e => (HLOW.out b' (HVB.out b' o' e)).1
              have hgs := lt_of_block H5.out.row
              have hms : m < w5.heap.size := by obtain ⟨M, hM, _⟩ := H5.out.map; exact hM.lt
              have HVI7 := Lib.hid ((HVI6.out.upd hHU (by simp)).upd U7.out (fun b' o' e hm => by
                have := hvnew b' o' e
                simp only [List.mem_cons, List.not_mem_nil, or_false] at hm
                omega))
              have UH7 := Lib.hid ((UH.out.trans hHU).step U7.out HS.out)
              clear hvnew hgs hms hHU
              go_loopw [14] (fun i wr => ∃ j : Nat, j ≤ n ∧ i = .int .i64 j ∧ Upd [] w7 wr) (fun i _ => n - (RowKit.intOf i).toNat)
              case atStart => exact ⟨0, by omega, rfl, Upd.refl _ _⟩
              case round =>
                obtain ⟨j, hj, rfl, hU4⟩ := hrel
                have HU4 := Lib.hid hU4
                have HC4 := Lib.hid (H7.out.stay hU4)
                by_cases hltj : j < n
                · have hjl : j < s1.now.length := by have := HL1.out; omega
                  obtain ⟨bv, ov, rfl, hcell⟩ := (HVI7.out.upd hU4 (by simp)) j hjl
                  rw [← getD_in _ _ hjl] at hcell
                  have HGET := Lib.hid (fun W (hW : IsC W b g m s1) => (by have := cget_any hW (j : Int); rw [Ct.get_nat] at this; exact this : Calls Try.prog 10 #[.pointer (some ⟨b, 0, none⟩), .int .i64 (j : Nat)] W fun e w' => e = .returned (.int .i64 (s1.now.getD j 0)) ∧ W = w'))
                  clear hU4
                  generalize s1.now.getD j 0 = z at *
                  go_wp2
                  go_quiet (first | (go_at_call 10; first | exact quiet_left (HGET.out _ (HC4.out.drewN _)) | exact quiet_add_left (HGET.out _ (HC4.out.drewN _))))
                  go_wp2
                  go_roundw
                  case rel => exact ⟨j + 1, by omega, by go_num, HU4.out.drewN _⟩
                  case measure => simp [RowKit.intOf]; omega
                · have HTC := Lib.hid (ctouched_any HC4.out)
                  rw [show s1.touchedI = [] by unfold Ct.touchedI; rw [HT1.out]; rfl] at HTC
                  go_wp2_with (first
                    | (go_at_call 12; (with_reducible refine HTC.out.mono ?_); rintro e w8 ⟨⟨v8, rfl, hv8⟩, u8⟩; have U8 := Lib.hid u8; obtain ⟨a8, c8, rfl, _⟩ := hv8.slice; clear u8 hv8; rw [List.length_nil])
                    | (go_at_call 7; (with_reducible refine (lives_any _).mono ?_); rintro e w9 ⟨rfl, u9⟩; have U9 := Lib.hid u9; clear u9))
                  go_ret
                  exact ⟨rfl, U0.out.trans (((UH7.out.trans HU4.out).trans U8.out).trans U9.out)⟩
end Go.Proofs.Ytgmabhfffgnjjaa
