/-
  PROVED HERE: DiskElse returns true whatever it is given. Conditions: those that each theorem names.
-/
import Derived.Test.YtpnpjffhkaejgaaDoesG
import Derived.Test.YtpnpjffhkaejgaaElseP
namespace Go.Proofs.Ytpnpjffhkaejgaa
open Go.RowKit

theorem quo256 (j : Nat) : (j : Int) / 256 = (j / 256 : Nat) := rfl
set_option maxRecDepth 100000 in
set_option maxHeartbeats 3200000 in
theorem else_any {w : World} {A : Option Addr} {n cap : Nat} {l : List Stp} (h : IsScript w w.heap.size A l) (hn : l.length = n) (hl : n ≤ 1990000000000) (xk xa xc xb xf : Int) (xu : Bool) (xp : Value) :
    Calls Try.prog 7 #[.slice A n cap, .agg #[.int .i64 xk, .int .i64 xa, .int .i64 xc, .int .i64 xb, .int .i64 xf, .bool xu, xp]] w fun e w' => e = .returned (.bool true) ∧ Upd [] w w' := by
  have u0 := (Upd.refl [] w).alloc (.cells (opCells xk xa xc xb xf xu xp) 29)
  have H := Lib.hid (h.up u0)
  have HX := Lib.hid (heap_alloc_new w (.cells (opCells xk xa xc xb xf xu xp) 29))
  have HS : Hid (w.heap.size < (w.alloc (.cells (opCells xk xa xc xb xf xu xp) 29)).heap.size) := Lib.hid (lt_of_block HX.out)
  have HN := Lib.hid hn
  have HL := Lib.hid hl
  have U0 := Lib.hid u0
  have H1 := Lib.hid (x_new8 (w := w.alloc (.cells (opCells xk xa xc xb xf xu xp) 29)))
  clear h hn u0
  go_enter Try.func7, Try.ntmps7
  go_wp2_with fail
  (with_reducible refine H1.out.mono ?_)
  rintro e w1 ⟨⟨d, F, rfl, hd, hF⟩, u1⟩
  have H3 := Lib.hid (known_any w1)
  have HD := Lib.hid hd
  have HF := Lib.hid hF
  have U1 := Lib.hid u1
  clear hd hF u1 H1
  go_wp2_with fail
  (with_reducible refine H3.out.mono ?_)
  rintro e w2 ⟨rfl, u2⟩
  have H2 := Lib.hid (rnew8 (w := w2))
  have U2 := Lib.hid u2
  clear u2
  go_wp2_with fail
  (with_reducible refine H2.out.mono ?_)
  rintro e w3 ⟨r, G, rfl, hr, hG, u3⟩
  have HT := Lib.hid ((two_new (HD.out.up U2.out (by simp)) HF.out (U1.out.trans U2.out) hr hG u3).keep0 HS.out ((U1.out.trans (U2.out.trans u3)).get HX.out (by simp)))
  clear hr hG u3
  generalize hw0 : w.alloc (.cells (opCells xk xa xc xb xf xu xp) 29) = w0 at *
  go_wp2_with fail
  go_loopw [9] (fun i wr => ∃ j : Nat, j ≤ n ∧ i = .int .i64 j ∧ Two w0 wr d r [(w.heap.size, .cells (opCells xk xa xc xb xf xu xp) 29 (0, 0))] ((Dk.new 8).run (l.take j)) ((Dk.new 8).run (l.take j))) (fun i _ => n - (intOf i).toNat)
  case atStart => exact ⟨0, by omega, rfl, HT.out⟩
  case round =>
    obtain ⟨j, hj, rfl, hT⟩ := hrel
    by_cases hlt : j < n
    · have hjl : j < l.length := by have := HN.out; omega
      have hrun := Dk.run_succ (Dk.new 8) l j hjl
      obtain ⟨g, o, rfl, ⟨q0, q1, q2, q3, q4, q5, q6⟩, hpk⟩ := (H.out.up hT.size) j hjl
      have hda := does_any (pc := l[j].pc) hT l[j].k l[j].a l[j].c l[j].b l[j].f l[j].u hpk.1 (fun h0 b o e => .inl (Nat.lt_trans (hpk.2.2.2 h0 b o e) HS.out)) hpk.2.1 hpk.2.2.1 (run_vers 8 l j (by have := HN.out; have := HL.out; omega))
      rw [← hrun] at hda
      obtain ⟨S1, hS1⟩ : ∃ S1, (Dk.new 8).run (l.take (j + 1)) = S1 := ⟨_, rfl⟩
      rw [hS1] at hda
      have HS1 := Lib.hid hS1
      clear hS1
      have HDA := Lib.hid hda
      clear hda hrun hpk hT
      generalize l[j] = x at *
      go_wp2_with fail
      (with_reducible refine HDA.out.mono ?_)
      rintro e w4 ⟨rfl, h4⟩
      have H4 := Lib.hid h4
      clear h4 q0 q1 q2 q3 q4 q5 q6
      go_wp2
      go_roundw
      case rel => exact ⟨j + 1, by omega, by go_num, by rw [HS1.out]; exact H4.out⟩
      case measure => simp [intOf]; omega
    · obtain rfl : j = n := by omega
      obtain ⟨S1, hS1⟩ : ∃ S1, (Dk.new 8).run (l.take j) = S1 := ⟨_, rfl⟩
      have hvr := run_vers 8 l j (by have := HN.out; have := HL.out; omega)
      have hnn : ((Dk.new 8).run (l.take j)).n = 8 := Dk.run_n _ _
      rw [hS1] at hT hnn hvr
      have HFA := Lib.hid (td_fail hT 1 1099511627776)
      have HVR := Lib.hid hvr
      clear hS1 hT hvr
      rw [fail8] at HFA
      obtain ⟨S2, hS2⟩ : ∃ S2 : Dk, ({ S1 with fall := setf S1.fall 1 1099511627776 } : Dk) = S2 := ⟨_, rfl⟩
      rw [hS2] at HFA
      dsimp only at HFA
      have h2n : S2.n = 8 := by rw [← hS2]; exact hnn
      have h2f : S2.fall 1 = 1099511627776 := by rw [← hS2]; show setf S1.fall 1 1099511627776 1 = _; rw [setf_same]
      have h2v : ∀ i, i < S2.n → (S2.sec i).ver.length ≤ 2000000000000 := by rw [← hS2]; exact HVR.out
      have H2N := Lib.hid h2n
      have H2F := Lib.hid h2f
      have H2V := Lib.hid h2v
      clear h2n h2f h2v hS2 hnn
      go_wp2_with fail
      (with_reducible refine HFA.out.mono ?_)
      rintro e w4 ⟨rfl, h4⟩
      have hrd := td_readK h4 0 8
      rw [read8 H2N.out (by rw [H2F.out]; decide)] at hrd
      have HRD := Lib.hid hrd
      have HB := Lib.hid (bytes8 h4.ok H2N.out).1
      clear hrd h4
      go_wp2_with fail
      (with_reducible refine HRD.out.mono ?_)
      rintro e w5 ⟨v5, K5, rfl, r5, k5, h5⟩
      have hda := t_data h5 xk xa xc xb xf xu xp
      obtain ⟨g5, cap5, rfl, -, -, -, -, -⟩ := row_some r5 HB.out (by decide)
      obtain ⟨c0, c1, c2, c3, c4, c5, c6⟩ := op_cells7 (h5.get (List.mem_append_right K5 (List.mem_cons_self ..)))
      have HDA := Lib.hid hda
      have R5 := Lib.hid r5
      have HK5 := Lib.hid k5
      have H5 := Lib.hid h5
      clear r5 k5 h5 hda
      go_wp2_with fail
      (with_reducible refine HDA.out.mono ?_)
      rintro e w6 ⟨v6, K6, rfl, r6, k6, h6⟩
      obtain ⟨D, hD⟩ : ∃ D, opData xc xb xf = D := ⟨_, rfl⟩
      have hlD : D.length ≤ 5375 := by rw [← hD, opData_len]; exact opLen_le _ _
      rw [hD] at r6
      clear hD
      obtain ⟨m, hm⟩ : ∃ m, D.length = m := ⟨_, rfl⟩
      obtain ⟨a6, cap6, e6, hy6, -, hm6, hx6⟩ := r6.slice
      rw [hm] at e6
      subst e6
      obtain ⟨S3, hS3⟩ : ∃ S3, S2.tick 1 = S3 := ⟨_, rfl⟩
      rw [hS3] at h6
      have hwr := td_write (cap := cap6) h6 xa xu hy6 (k6.safe r6 (fun p hp => List.mem_append_left _ hp) rfl) hm (by rw [← hm]; exact hm6) hx6 (by rw [← hS3]; exact H2V.out)
      obtain ⟨fr, hfr⟩ : ∃ fr, (S3.write xa D xu).1 = fr := ⟨_, rfl⟩
      rw [hfr] at hwr
      have HWR := Lib.hid hwr
      have HLD := Lib.hid (show m ≤ 5375 by rw [← hm]; exact hlD)
      have HS3 := Lib.hid hS3
      have HFR := Lib.hid hfr
      have HM := Lib.hid hm
      have H3N := Lib.hid (show S3.n = 8 by rw [← hS3]; exact H2N.out)
      have H3F := Lib.hid (show S3.fall 1 = 1099511627775 by rw [← hS3]; show setf S2.fall 1 (S2.fall 1 - 1) 1 = _; rw [setf_same, H2F.out])
      have HOK3 := Lib.hid h6.ok
      have R6 := Lib.hid r6
      have HK6 := Lib.hid k6
      have H6 := Lib.hid h6
      obtain ⟨c0, c1, c2, c3, c4, c5, c6⟩ := op_cells7 (h6.get (List.mem_append_right K6 (List.mem_append_right K5 (List.mem_cons_self ..))))
      clear hwr hfr hm hlD hm6 hx6 hy6 r6 k6 h6 hS3
      go_wp2_with fail
      (with_reducible refine HWR.out.mono ?_)
      rintro e w7 ⟨rfl, h7⟩
      have HFL := Lib.hid (td_flush h7)
      clear h7 c0 c1 c2 c3 c4 c5 c6
      go_wp2_with fail
      (with_reducible refine HFL.out.mono ?_)
      rintro e w8 ⟨rfl, h8⟩
      have hpl := else_plain (p := xa) (data := D) (fua := xu) HOK3.out H3N.out rfl h8.ok
      obtain ⟨T, hT⟩ : ∃ T, (S3.write xa D xu).2.flush.2 = T := ⟨_, rfl⟩
      rw [hT] at h8 hpl
      rw [HFR.out] at hpl
      obtain ⟨p1, p2, p3, p4⟩ := hpl
      have hrd := td_readK h8 0 8
      rw [read8 p1 (by rw [p2, H3F.out]; decide)] at hrd
      have HRD8 := Lib.hid hrd
      have P3 := Lib.hid p3
      have P4 := Lib.hid p4
      clear h8 hrd p1 p2 p3 p4 hT
      go_wp2_with fail
      (with_reducible refine HRD8.out.mono ?_)
      rintro e w9 ⟨v9, K9, rfl, r9, k9, h9⟩
      obtain ⟨g9, cap9, rfl, -, -, -, -, hb9⟩ := row_some r9 P3.out (by decide)
      have hb5 := (HK5.out.row R5.out H5.out h9 fun p hp => List.mem_append_right _ (List.mem_append_right _ (List.mem_append_left _ hp))).bytes
      have hb6 := (HK6.out.row R6.out H6.out h9 fun p hp => List.mem_append_right _ (List.mem_append_left _ hp)).bytes
      have HB5 := Lib.hid hb5
      have HB6 := Lib.hid hb6
      have HB9 := Lib.hid hb9
      have H9 := Lib.hid h9
      clear hb5 hb6 hb9 r9 k9 h9
      go_wp2_with fail
      go_loopw [16] (fun i wr => ∃ j : Nat, j ≤ 2048 ∧ i = .int .i64 j ∧ Upd [] w9 wr) (fun i _ => 2048 - (intOf i).toNat)
      case atStart => exact ⟨0, by omega, rfl, Upd.refl [] _⟩
      case round =>
        obtain ⟨j, hj, rfl, hU⟩ := hrel
        by_cases hlt : j < 2048
        · obtain ⟨c0, c1, c2, c3, c4, c5, c6⟩ := op_cells7 ((H9.out.up hU).get (List.mem_append_right K9 (List.mem_append_right K6 (List.mem_append_right K5 (List.mem_cons_self ..)))))
          have z5 := (HB5.out.upd hU (by simp)).at j (by rw [HB.out]; exact hlt)
          have z9 := (HB9.out.upd hU (by simp)).at j (by rw [P3.out]; exact hlt)
          have z6 := (HB6.out.upd hU (by simp)).2
          rw [Nat.zero_add] at z5 z9
          rw [P4.out j hlt, show S3.bytes 0 8 = S2.bytes 0 8 by rw [← HS3.out]; rfl] at z9
          rw [HM.out] at z9
          clear c0 c2 c3 c4 c5 c6
          have HU := Lib.hid hU
          have HZ6 := Lib.hid z6
          clear hU z6
          by_cases hf : fr = 0
          · subst hf
            obtain ⟨t1, t2, t3⟩ := write_zero HFR.out
            rw [HM.out] at t2 t3
            rw [H3N.out] at t3
            obtain ⟨q, rfl⟩ := Int.eq_ofNat_of_zero_le t1
            by_cases hq : q ≤ j / 256
            · by_cases hq2 : j / 256 < q + m / 256
              · rw [if_pos ⟨rfl, by omega, by omega⟩] at z9
                obtain ⟨b, o, rfl, hc⟩ := HZ6.out (j - 256 * q) (by rw [HM.out]; omega)
                rw [show D[j - 256 * q]'(by rw [HM.out]; omega) = D.getD (j - 256 * q) 0 by rw [List.getD_eq_getElem?_getD, List.getElem?_eq_getElem (by rw [HM.out]; omega)]; rfl] at hc
                rw [show 256 * ((q : Int)).toNat = 256 * q from rfl] at z9
                have e1 : wrap64 (256 * (q : Int)) = ((256 * q : Nat) : Int) := by unfold wrap64; omega
                have e2 : wrap64 ((j : Int) - ((256 * q : Nat) : Int)) = ((j - 256 * q : Nat) : Int) := by unfold wrap64; omega
                go_wp2
                go_roundw
                case rel => exact ⟨j + 1, by omega, by go_num, by first | exact HU.out | exact HU.out.drew | exact HU.out.drew.drew⟩
                case measure => simp [intOf]; omega
              · rw [if_neg (by omega)] at z9
                go_wp2
                go_roundw
                case rel => exact ⟨j + 1, by omega, by go_num, by first | exact HU.out | exact HU.out.drew | exact HU.out.drew.drew⟩
                case measure => simp [intOf]; omega
            · rw [if_neg (by omega)] at z9
              go_wp2
              go_roundw
              case rel => exact ⟨j + 1, by omega, by go_num, by first | exact HU.out | exact HU.out.drew | exact HU.out.drew.drew⟩
              case measure => simp [intOf]; omega
          · rw [if_neg (fun hh => hf hh.1)] at z9
            have hf' : (fr == 0) = false := by simpa using hf
            go_wp2
            go_roundw
            case rel => exact ⟨j + 1, by omega, by go_num, by first | exact HU.out | exact HU.out.drew | exact HU.out.drew.drew⟩
            case measure => simp [intOf]; omega
        · obtain rfl : j = 2048 := by omega
          have H9 := Lib.hid (H9.out.up hU).size
          go_wp2
          go_ret
          exact ⟨rfl, U0.out.trans H9.out⟩
end Go.Proofs.Ytpnpjffhkaejgaa
