/-
  PROVED HERE: DiskPlays returns true whatever it is given. Conditions: those that each theorem names.
-/
import Derived.Test.YtpnpjffhkaejgaaDoesG
import Derived.StillTail
import Derived.StillTactics
namespace Go.Proofs.Ytpnpjffhkaejgaa
open Go.RowKit

set_option maxRecDepth 100000 in
set_option maxHeartbeats 1600000 in
theorem plays_bad {w : World} (s : Int) (hs : s < 1 ∨ 4096 < s) (v : Value) : Calls Try.prog 5 #[.int .i64 s, v] w fun e w' => e = .returned (.bool true) ∧ Upd [] w w' := by
  have H1 := Lib.hid (new_no (w := w) s hs)
  have H2 := Lib.hid (rnew_no (w := w) s hs)
  have H3 := Lib.hid (known_any w)
  clear hs
  go_enter Try.func5, Try.ntmps5
  go_wp2_with fail
  (with_reducible refine H1.out.mono ?_)
  rintro e w1 ⟨rfl, rfl⟩
  go_wp2_with fail
  (with_reducible refine H2.out.mono ?_)
  rintro e w1 ⟨rfl, rfl⟩
  go_wp2_with fail
  (with_reducible refine H3.out.mono ?_)
  rintro e w1 ⟨rfl, u1⟩
  have U1 := Lib.hid u1
  clear u1
  go_wp2
  go_ret
  exact ⟨rfl, U1.out⟩
set_option maxRecDepth 100000 in
set_option maxHeartbeats 3200000 in
theorem plays_good {w : World} (s : Nat) (hs1 : 1 ≤ s) (hs2 : s ≤ 4096) {A : Option Addr} {n cap : Nat} {l : List Stp} (h : IsScript w w.heap.size A l) (hn : l.length = n) (hl : n ≤ 1990000000000) :
    Calls Try.prog 5 #[.int .i64 (s : Nat), .slice A n cap] w fun e w' => e = .returned (.bool true) ∧ Upd [] w w' := by
  have H := Lib.hid h
  have HN := Lib.hid hn
  have HL := Lib.hid hl
  have H1 := Lib.hid (x_new (w := w) s hs1 hs2)
  have H2 := Lib.hid (fun w1 => rnew_yes (w := w1) s hs1 hs2)
  clear h hn
  go_enter Try.func5, Try.ntmps5
  go_wp2_with fail
  (with_reducible refine H1.out.mono ?_)
  rintro e w1 ⟨⟨d, F, rfl, hd, hF⟩, u1⟩
  have H2' := Lib.hid (H2.out w1)
  have HD := Lib.hid hd
  have HF := Lib.hid hF
  have U1 := Lib.hid u1
  clear hd hF u1 H2
  go_wp2_with fail
  (with_reducible refine H2'.out.mono ?_)
  rintro e w2 ⟨r, G, rfl, hr, hG, u2⟩
  have HT := Lib.hid (two_new HD.out HF.out U1.out hr hG u2)
  have H3 := Lib.hid (known_any w2)
  clear hr hG u2
  go_wp2_with fail
  (with_reducible refine H3.out.mono ?_)
  rintro e w3 ⟨rfl, u3⟩
  have HT3 := Lib.hid (HT.out.up u3)
  clear u3
  go_wp2_with fail
  go_loopw [9] (fun i wr => ∃ j : Nat, j ≤ n ∧ i = .int .i64 j ∧ Two w wr d r [] ((Dk.new s).run (l.take j)) ((Dk.new s).run (l.take j))) (fun i _ => n - (intOf i).toNat)
  case atStart => exact ⟨0, by omega, rfl, HT3.out⟩
  case round =>
    obtain ⟨j, hj, rfl, hT⟩ := hrel
    by_cases hlt : j < n
    · have hjl : j < l.length := by have := HN.out; omega
      have hrun := Dk.run_succ (Dk.new s) l j hjl
      obtain ⟨g, o, rfl, ⟨q0, q1, q2, q3, q4, q5, q6⟩, hpk⟩ := (H.out.up hT.size) j hjl
      have hda := does_any (pc := l[j].pc) hT l[j].k l[j].a l[j].c l[j].b l[j].f l[j].u hpk.1 (fun h0 b o e => .inl (hpk.2.2.2 h0 b o e)) hpk.2.1 hpk.2.2.1 (run_vers s l j (by have := HN.out; have := HL.out; omega))
      rw [← hrun] at hda
      obtain ⟨S1, hS1⟩ : ∃ S1, (Dk.new s).run (l.take (j + 1)) = S1 := ⟨_, rfl⟩
      rw [hS1] at hda
      have HS1 := Lib.hid hS1
      clear hS1
      have HDA := Lib.hid hda
      clear hda hrun hpk hT
      generalize l[j] = x at *
      go_wp2_with fail
      (with_reducible refine HDA.out.mono ?_)
      rintro e w4 ⟨rfl, h4⟩
      have HDI := Lib.hid (td_dirty2 h4)
      have H4 := Lib.hid h4
      clear h4 q0 q1 q2 q3 q4 q5 q6
      go_wp2_with fail
      (with_reducible refine HDI.out.mono ?_)
      rintro e w5 ⟨⟨v5, rfl, r5⟩, u5⟩
      obtain ⟨a5, cap5, rfl, i5, l5⟩ := row_ints r5
      have HDJ := Lib.hid (tr_dirty2 (H4.out.up u5))
      have I5 := Lib.hid i5
      have U5 := Lib.hid u5
      clear r5 u5 i5 l5
      go_wp2_with fail
      (with_reducible refine HDJ.out.mono ?_)
      rintro e w6 ⟨⟨v6, rfl, r6⟩, u6⟩
      obtain ⟨a6, cap6, rfl, i6, l6⟩ := row_ints r6
      have hin := ints_yes (cap := cap5) (cap' := cap6) (I5.out.up u6 (by simp)) i6 (List.length_map ..) (by have := dirty_le S1 H4.out.ok; omega)
      have HIN := Lib.hid hin
      have H6 := Lib.hid (H4.out.up (U5.out.trans u6))
      clear r6 u6 i6 l6 hin
      go_wp2_with fail
      (with_reducible refine HIN.out.mono ?_)
      rintro e w7 ⟨rfl, u7⟩
      have H7 := Lib.hid (H6.out.up u7)
      clear u7
      go_wp2
      go_roundw
      case rel => exact ⟨j + 1, by omega, by go_num, by rw [HS1.out]; exact H7.out⟩
      case measure => simp [intOf]; omega
    · obtain rfl : j = n := by omega
      obtain ⟨S1, hS1⟩ : ∃ S1, (Dk.new s).run (l.take j) = S1 := ⟨_, rfl⟩
      have hvr := run_vers s l j (by have := HN.out; have := HL.out; omega)
      have hnn : ((Dk.new s).run (l.take j)).n = s := Dk.run_n _ _
      rw [hS1] at hT hvr hnn
      clear hS1
      obtain ⟨gl, rc, hcell⟩ : ∃ gl rc, wr.cell? ⟨r, 0, none⟩ = some (.slice (some ⟨gl, 0, none⟩) s rc) := by
        obtain ⟨F, G, _, ⟨L, h2⟩, _⟩ := hT
        obtain ⟨c0, _⟩ := rcell h2.hd
        exact ⟨_, _, by rw [c0, hnn]⟩
      have HP := Lib.hid (picks_any (cap := cap) (H.out.up hT.size) HN.out (by have := HL.out; omega))
      have HT := Lib.hid hT
      have HVR := Lib.hid hvr
      have HNN := Lib.hid hnn
      clear hT hvr hnn
      go_wp2_with fail
      (with_reducible refine HP.out.mono ?_)
      rintro e w4 ⟨⟨pa, m, pc, rfl, hp⟩, u4⟩
      have h4 := HT.out.up u4
      have HC := Lib.hid (td_crash (pc := pc) h4 hp.1 (fun h0 b o e => .inl (hp.2.2.2 h0 b o e)) hp.2.1 hp.2.2.1 HVR.out)
      clear hp u4 h4
      go_wp2_with fail
      (with_reducible refine HC.out.mono ?_)
      rintro e w5 ⟨rfl, h5⟩
      have HP5 := Lib.hid (picks_any (cap := cap) (H.out.up h5.size) HN.out (by have := HL.out; omega))
      have H5 := Lib.hid h5
      clear h5
      go_wp2_with fail
      (with_reducible refine HP5.out.mono ?_)
      rintro e w6 ⟨⟨pa6, m6, pc6, rfl, hp6⟩, u6⟩
      have HC6 := Lib.hid (tr_crash (pc := pc6) (H5.out.up u6) hp6.1 (fun h0 b o e => .inl (hp6.2.2.2 h0 b o e)) hp6.2.1 hp6.2.2.1 HVR.out)
      clear hp6 u6
      go_wp2_with fail
      (with_reducible refine HC6.out.mono ?_)
      rintro e w7 ⟨rfl, h7⟩
      have HR7 := Lib.hid (fun c => td_readK h7 0 c)
      have HT7 := Lib.hid h7
      clear h7
      go_wp2_with fail
      (with_reducible refine (HR7.out _).mono ?_)
      rintro e w8 ⟨v8, K8, rfl, r8, k8, h8⟩
      have HR8 := Lib.hid (fun c => tr_readK h8 0 c)
      have HT8 := Lib.hid h8
      have R8 := Lib.hid r8
      have HK8 := Lib.hid k8
      clear h8 r8 k8
      go_wp2_with fail
      (with_reducible refine (HR8.out _).mono ?_)
      rintro e w9 ⟨v9, K9, rfl, r9, k9, h9⟩
      have hn9 : (((S1.crash (picksL l)).read 0 (min (s : Int) 64)).2).n = s := by
        have := step_n (S1.crash (picksL l)) 0 0 (min (s : Int) 64) 0 0 false []
        unfold Dk.step at this
        rw [if_pos rfl, crash_n] at this
        rw [this]; exact HNN.out
      have hlen9 : ((S1.crash (picksL l)).read 0 (min (s : Int) 64)).1.1.length ≤ 1048576 := read_le HT7.out.ok 0 _
      obtain ⟨gl9, rc9, hcell9⟩ : ∃ gl rc, w9.cell? ⟨r, 0, none⟩ = some (.slice (some ⟨gl, 0, none⟩) s rc) := by
        obtain ⟨F, G, _, ⟨L, h2⟩, _⟩ := h9
        obtain ⟨c0, _⟩ := rcell h2.hd
        refine ⟨L.gl, L.cap, ?_⟩
        rw [c0, hn9]
      have HSZ : Hid (Calls Try.prog 26 #[.pointer (some ⟨d, 0, none⟩)] w9.drew fun e w' => e = .returned (.int .i64 (s : Nat)) ∧ w9.drew = w') := by
        obtain ⟨F, G, h1, _⟩ := h9.up (Upd.refl [] w9).drew
        have := x_size h1
        rw [hn9] at this
        exact Lib.hid this
      have hr1 := HK8.out.row R8.out HT8.out h9 fun p hp => List.mem_append_right _ (List.mem_append_left _ hp)
      obtain ⟨a9, cap9, rfl, hy9, _⟩ := r9.slice
      obtain ⟨a8, cap8, rfl, hy8, _⟩ := hr1.slice
      have HSA := Lib.hid (same_yes (cap := cap8) (cap' := cap9) (hy8.upd (Upd.refl [] w9).drew (by simp)) (hy9.upd (Upd.refl [] w9).drew (by simp)) rfl (by omega))
      have H9 := Lib.hid h9.size
      clear r9 k9 h9 hr1 hy8 hy9 hlen9 hn9
      generalize ((S1.crash (picksL l)).read 0 (min (s : Int) 64)).1.1.length = N at *
      go_wp2_with fail
      refine wp_region_still_tail 11 (by kernel_rfl) (by kernel_rfl) ?_
      simp only [List.take_succ_cons, List.take_zero, List.drop_succ_cons, List.drop_zero]
      change wpStill _ _ w9.drew (fun a' => wpList _ _ _ _ a' w9.drew) _ _
      still_step
      still_call (HSZ.out.mono fun _ _ h => ⟨h.1, h.2.symm⟩)
      iterate 9 still_step
      refine wpStill_nil ?_
      go_wp2_with (go_at_call 27; (with_reducible refine HSA.out.mono ?_); rintro e w10 ⟨rfl, u10⟩; have U10 := Lib.hid u10; clear u10)
      go_ret
      exact ⟨rfl, H9.out.drew.trans U10.out⟩
end Go.Proofs.Ytpnpjffhkaejgaa
