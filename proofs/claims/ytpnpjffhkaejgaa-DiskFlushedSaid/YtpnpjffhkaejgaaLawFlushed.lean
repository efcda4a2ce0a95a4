/-
  PROVED HERE: DiskFlushed returns true whatever it is given. Conditions: those that each theorem names.
-/
import Derived.Test.YtpnpjffhkaejgaaDoesG
import Derived.Test.YtpnpjffhkaejgaaElseP
namespace Go.Proofs.Ytpnpjffhkaejgaa
open Go.RowKit

theorem flush_two (S : Dk) : S.flush.1 = 0 ∨ S.flush.1 = 12 := by
  unfold Dk.flush
  split
  · exact .inr rfl
  · exact .inl rfl
set_option maxRecDepth 100000 in
set_option maxHeartbeats 3200000 in
theorem flushed_any {w : World} {A : Option Addr} {n cap : Nat} {l : List Stp} (h : IsScript w w.heap.size A l) (hn : l.length = n) (hl : n ≤ 1990000000000) {pa : Option Addr} {m pc : Nat} {picks : List Int} (hp : PicksAt w w.heap.size pa m picks) :
    Calls Try.prog 8 #[.slice A n cap, .slice pa m pc] w fun e w' => e = .returned (.bool true) ∧ Upd [] w w' := by
  have H := Lib.hid h
  have HN := Lib.hid hn
  have HL := Lib.hid hl
  have HP := Lib.hid hp
  have H1 := Lib.hid (x_new8 (w := w))
  clear h hn hp
  go_enter Try.func8, Try.ntmps8
  go_wp2_with fail
  (with_reducible refine H1.out.mono ?_)
  rintro e w1 ⟨⟨d, F, rfl, hd, hF⟩, u1⟩
  have H3 := Lib.hid (known_any w1)
  have HD := Lib.hid hd
  have HF := Lib.hid hF
  have U1 := Lib.hid u1
  clear hd hF u1 H1
  go_wp2_with fail
  (with_reducible refine H3.out.mono ?_)
  rintro e w2 ⟨rfl, u2⟩
  have H2 := Lib.hid (rnew8 (w := w2))
  have U2 := Lib.hid u2
  clear u2
  go_wp2_with fail
  (with_reducible refine H2.out.mono ?_)
  rintro e w3 ⟨r, G, rfl, hr, hG, u3⟩
  have HT := Lib.hid (two_new (HD.out.up U2.out (by simp)) HF.out (U1.out.trans U2.out) hr hG u3)
  clear hr hG u3
  go_wp2_with fail
  go_loopw [9] (fun i wr => ∃ j : Nat, j ≤ n ∧ i = .int .i64 j ∧ Two w wr d r [] ((Dk.new 8).run (l.take j)) ((Dk.new 8).run (l.take j))) (fun i _ => n - (intOf i).toNat)
  case atStart => exact ⟨0, by omega, rfl, HT.out⟩
  case round =>
    obtain ⟨j, hj, rfl, hT⟩ := hrel
    by_cases hlt : j < n
    · have hjl : j < l.length := by have := HN.out; omega
      have hrun := Dk.run_succ (Dk.new 8) l j hjl
      obtain ⟨g, o, rfl, ⟨q0, q1, q2, q3, q4, q5, q6⟩, hpk⟩ := (H.out.up hT.size) j hjl
      have hda := does_any (pc := l[j].pc) hT l[j].k l[j].a l[j].c l[j].b l[j].f l[j].u hpk.1 (fun h0 b o e => .inl (hpk.2.2.2 h0 b o e)) hpk.2.1 hpk.2.2.1 (run_vers 8 l j (by have := HN.out; have := HL.out; omega))
      rw [← hrun] at hda
      obtain ⟨S1, hS1⟩ : ∃ S1, (Dk.new 8).run (l.take (j + 1)) = S1 := ⟨_, rfl⟩
      rw [hS1] at hda
      have HS1 := Lib.hid hS1
      clear hS1
      have HDA := Lib.hid hda
      clear hda hrun hpk hT
      generalize l[j] = x at *
      go_wp2_with fail
      (with_reducible refine HDA.out.mono ?_)
      rintro e w4 ⟨rfl, h4⟩
      have H4 := Lib.hid h4
      clear h4 q0 q1 q2 q3 q4 q5 q6
      go_wp2
      go_roundw
      case rel => exact ⟨j + 1, by omega, by go_num, by rw [HS1.out]; exact H4.out⟩
      case measure => simp [intOf]; omega
    · obtain rfl : j = n := by omega
      obtain ⟨S1, hS1⟩ : ∃ S1, (Dk.new 8).run (l.take j) = S1 := ⟨_, rfl⟩
      have hnn : ((Dk.new 8).run (l.take j)).n = 8 := Dk.run_n _ _
      rw [hS1] at hT hnn
      clear hS1
      have hfl := td_flush hT
      have hv := flush_two S1
      have hpl := flushed_ver (S := S1)
      have hn2 := flush_n S1
      obtain ⟨f, S2, hS2⟩ : ∃ f S2, S1.flush = (f, S2) := ⟨_, _, rfl⟩
      rw [hS2] at hfl hv hn2
      rw [hS2] at hpl
      dsimp only at hfl hv hn2 hpl
      have HFL := Lib.hid hfl
      rcases hv with rfl | rfl
      · have HPL := Lib.hid (hpl rfl)
        have HN2 := Lib.hid (hn2.trans hnn)
        clear hfl hpl hn2 hnn hS2 hT
        go_wp2_with fail
        (with_reducible refine HFL.out.mono ?_)
        rintro e w4 ⟨rfl, h4⟩
        have hfa := td_fail h4 1 1099511627776
        rw [fail8] at hfa
        have HFA := Lib.hid hfa
        obtain ⟨S3, hS3⟩ : ∃ S3 : Dk, ({ S2 with fall := setf S2.fall 1 1099511627776 } : Dk) = S3 := ⟨_, rfl⟩
        rw [hS3] at hfa
        dsimp only at hfa
        have h3n : S3.n = 8 := by rw [← hS3]; exact HN2.out
        have h3f : S3.fall 1 ≠ 1 := by rw [← hS3]; show setf S2.fall 1 1099511627776 1 ≠ 1; rw [setf_same]; decide
        have h3v : ∀ i, (S3.sec i).ver = [] := by rw [← hS3]; exact HPL.out
        have HFA := Lib.hid hfa
        have H3N := Lib.hid h3n
        have H3F := Lib.hid h3f
        have H3P := Lib.hid (crash_clean (S := S3.tick 1) (picks := picks) h3v)
        have H3V := Lib.hid h3v
        clear hfa h3n h3f h3v h4 hS3
        go_wp2_with fail
        (with_reducible refine HFA.out.mono ?_)
        rintro e w5 ⟨rfl, h5⟩
        have hrd := td_readK h5 0 8
        rw [read8 H3N.out H3F.out] at hrd
        have HRD := Lib.hid hrd
        have HB := Lib.hid (bytes8 h5.ok H3N.out).1
        clear hrd h5
        go_wp2_with fail
        (with_reducible refine HRD.out.mono ?_)
        rintro e w6 ⟨v6, K6, rfl, r6, k6, h6⟩
        have hdi := td_dirty h6
        obtain ⟨g6, cap6, rfl, -, -, -, -, -⟩ := row_some r6 HB.out (by decide)
        have HDI := Lib.hid hdi
        have R6 := Lib.hid r6
        have HK6 := Lib.hid k6
        have H6 := Lib.hid h6
        clear r6 k6 h6 hdi
        go_wp2_with fail
        (with_reducible refine HDI.out.mono ?_)
        rintro e w7 ⟨⟨v7, rfl, r7⟩, h7⟩
        rw [show (S3.tick 1).dirty = [] from H3P.out.1] at r7
        obtain ⟨a7, cap7, rfl, -, -⟩ := row_ints r7
        have hp7 := HP.out.up h7.size
        have HCR := Lib.hid (td_crash (pc := pc) h7 hp7.1 (fun h0 b o e => .inl (hp7.2.2.2 h0 b o e)) hp7.2.1 hp7.2.2.1 (fun i _ => by rw [show ((S3.tick 1).sec i).ver = [] from H3V.out i]; decide))
        clear r7 hp7 h7
        simp only [List.length_nil]
        go_wp2_with fail
        (with_reducible refine HCR.out.mono ?_)
        rintro e w8 ⟨rfl, h8⟩
        have hrd := td_readK h8 0 8
        rw [read8 (S := (S3.tick 1).crash picks) H3N.out (show (0 : Nat) ≠ 1 by decide), bytes_congr (S := (S3.tick 1).crash picks) (T := S3) H3P.out.2] at hrd
        have HRD8 := Lib.hid hrd
        have H8 := Lib.hid h8
        clear h8 hrd
        go_wp2_with fail
        (with_reducible refine HRD8.out.mono ?_)
        rintro e w9 ⟨v9, K9, rfl, r9, k9, h9⟩
        obtain ⟨g9, cap9, rfl, -, -, -, -, hb9⟩ := row_some r9 HB.out (by decide)
        have hb6 := (HK6.out.row R6.out H6.out h9 fun p hp => List.mem_append_right _ (List.mem_append_left _ hp)).bytes
        have HSA := Lib.hid (fun W (u : Upd [] w9 W) => same_yes (cap := cap6) (cap' := cap9) (hb6.upd u (by simp)) (hb9.upd u (by simp)) HB.out (by decide))
        have H9 := Lib.hid h9.size
        clear hb6 hb9 r9 k9 h9
        go_wp2_with (go_at_call 27; (with_reducible refine (HSA.out _ (by first | exact Upd.refl [] _ | exact (Upd.refl [] _).drew)).mono ?_); rintro e w10 ⟨rfl, u10⟩; have U10 := Lib.hid u10; clear u10)
        go_ret
        exact ⟨rfl, H9.out.trans U10.out⟩
      · clear hfl hpl hn2 hnn hS2 hT
        go_wp2_with fail
        (with_reducible refine HFL.out.mono ?_)
        rintro e w4 ⟨rfl, h4⟩
        have H4 := Lib.hid h4.size
        clear h4
        go_wp2
        go_ret
        exact ⟨rfl, H4.out⟩
end Go.Proofs.Ytpnpjffhkaejgaa
