/-
  PROVED HERE: the statement DiskCuts, of any number. Conditions: none.
-/
import Derived.Test.YtpnpjffhkaejgaaDiskR
namespace Go.Proofs.Ytpnpjffhkaejgaa
open Go.RowKit

theorem zeros256_data : opData 1 0 0 = zeros256 := opData_one 0 0 rfl
def boxC : Array Value := #[.int .i64 0, .int .i64 0, .int .i64 1, .int .i64 0, .int .i64 0, .bool false, .slice none 0 0]
theorem op_cells {w : World} {b : Nat} {k a c y f : Int} {u : Bool} {p : Value} (h : w.heap[b]? = some (.cells #[.int .i64 k, .int .i64 a, .int .i64 c, .int .i64 y, .int .i64 f, .bool u, p] 29 (0, 0))) :
    w.cell? ⟨b, 0, none⟩ = some (.int .i64 k) ∧ w.cell? ⟨b, 1, none⟩ = some (.int .i64 a) ∧ w.cell? ⟨b, 2, none⟩ = some (.int .i64 c) ∧ w.cell? ⟨b, 3, none⟩ = some (.int .i64 y) ∧ w.cell? ⟨b, 4, none⟩ = some (.int .i64 f) ∧ w.cell? ⟨b, 5, none⟩ = some (.bool u) ∧ w.cell? ⟨b, 6, none⟩ = some p := by
  obtain ⟨q, _⟩ := cells_of h
  exact ⟨q 0, q 1, q 2, q 3, q 4, q 5, q 6⟩
theorem CInv.vers {c i : Nat} {S : Dk} (h : CInv c i S) : ∀ j, j < S.n → (S.sec j).ver.length ≤ 2000000000000 := fun j _ => by rw [h.ver j]; exact Nat.zero_le _
theorem CInv.start {S : Dk} {m : Nat} (hS : (Dk.new 4).cut m = (0, S)) : CInv m 0 S := by
  unfold Dk.cut at hS
  split at hS
  · cases hS
  · cases hS
    exact ⟨rfl, fun _ => rfl, rfl, fun _ => rfl⟩
set_option maxRecDepth 100000 in
set_option maxHeartbeats 3200000 in
theorem cuts_no {c : Int} (w : World) (hc : c < 0 ∨ 1099511627776 < c) : Calls Try.prog 4 #[.int .i64 c] w fun e w' => e = .returned (.bool true) ∧ Upd [] w w' := by
  have HNEW := Lib.hid (ld_new4 (w := w))
  have HKN := Lib.hid known_any
  have he : ∀ S : Dk, S.cut c = (1, S) := fun S => by unfold Dk.cut; rw [if_pos hc]
  have hc2 : c < 0 ∨ (0 ≤ c ∧ 1099511627776 < c) := by omega
  clear hc
  rcases hc2 with h | ⟨h, h'⟩
  all_goals
    go_enter Try.func4, Try.ntmps4
    go_wp2_with fail
    (with_reducible refine HNEW.out.mono ?_)
    rintro e w1 ⟨d, F, rfl, hL⟩
    have L1 := Lib.hid hL
    clear hL
    go_wp2_with fail
    (with_reducible refine (HKN.out _).mono ?_)
    rintro e w2 ⟨rfl, u2⟩
    have L2 := L1.out.up u2
    have HCUT := Lib.hid (ld_cut L2 c (he _))
    clear L2 u2
    go_wp2_with fail
    (with_reducible refine HCUT.out.mono ?_)
    rintro e w3 ⟨rfl, L3⟩
    have U := Lib.hid L3.2.2.2
    clear L3
    go_wp2
    go_ret
    exact ⟨rfl, U.out⟩
set_option maxRecDepth 100000 in
set_option maxHeartbeats 3200000 in
theorem cuts_yes {m : Nat} (w : World) (hc : m ≤ 1099511627776) : Calls Try.prog 4 #[.int .i64 (m : Nat)] w fun e w' => e = .returned (.bool true) ∧ Upd [] w w' := by
  have HNEW := Lib.hid (ld_new4 (w := w))
  have HKN := Lib.hid known_any
  obtain ⟨S0, hS0⟩ : ∃ S0, (Dk.new 4).cut (m : Nat) = (0, S0) := ⟨_, by unfold Dk.cut; rw [if_neg (by omega)]⟩
  have C0 := Lib.hid (CInv.start hS0)
  go_enter Try.func4, Try.ntmps4
  go_wp2_with fail
  (with_reducible refine HNEW.out.mono ?_)
  rintro e w1 ⟨d, F, rfl, hL⟩
  have L1 := Lib.hid hL
  clear hL
  go_wp2_with fail
  (with_reducible refine (HKN.out _).mono ?_)
  rintro e w2 ⟨rfl, u2⟩
  have L2 := L1.out.up u2
  have HCUT := Lib.hid (ld_cut L2 m hS0)
  clear L2 u2 hS0
  go_wp2_with fail
  (with_reducible refine HCUT.out.mono ?_)
  rintro e w3 ⟨rfl, L3⟩
  have L3 := Lib.hid (L3.alloc boxC 29)
  go_wp2_with fail
  go_loopw [7] (fun i wr => ∃ k : Nat, k ≤ 40 ∧ i = .int .i64 k ∧ ∃ S F, CInv m k S ∧ LawD w wr d F [(w3.heap.size, .cells boxC 29 (0, 0))] S) (fun i _ => 40 - (RowKit.intOf i).toNat)
  case atStart => exact ⟨0, by omega, rfl, S0, F, C0.out, L3.out⟩
  case round =>
    obtain ⟨k, hk, rfl, S, F, hC, hL⟩ := hrel
    have HC := Lib.hid hC
    have HL := Lib.hid hL
    obtain ⟨b0, b1, b2, b3, b4, b5, b6⟩ := op_cells (hL.get (g := w3.heap.size) (o := .cells boxC 29 (0, 0)) (by simp))
    clear hL hC
    by_cases hlt : k < 40
    · have HLT := Lib.hid hlt
      have hmk2 : (decide (m ≤ k) = true ∧ decide (k < m) = false ∧ m ≤ k) ∨ (decide (m ≤ k) = false ∧ decide (k < m) = true ∧ k < m) := by
        by_cases h : m ≤ k
        · exact .inl ⟨by simpa using h, by simpa using h, h⟩
        · exact .inr ⟨by simpa using h, by simp; omega, by omega⟩
      by_cases hev : k % 2 = 0
      · have hev2 : ((k : Int) % 2 == 0) = true := by simp; omega
        have hdt := ld_data HL.out 0 0 1 0 0 false (.slice none 0 0) (n := 256) (by rw [zeros256_data]; exact zeros256_len) (by decide)
        rw [zeros256_data] at hdt
        have HDT := Lib.hid hdt
        obtain ⟨hwe, hwi⟩ := HC.out.write zeros256_len
        have HWI := Lib.hid hwi
        have HWE := Lib.hid hwe
        have HVS := Lib.hid HC.out.vers
        clear hdt hev hwe hwi
        rcases hmk2 with ⟨hm1, hm2, hm3⟩ | ⟨hm1, hm2, hm3⟩
        all_goals
          first
            | (have hE : (S.write 2 zeros256 true) = (11, (S.write 2 zeros256 true).2) := by rw [← show (S.write 2 zeros256 true).1 = 11 by rw [HWE.out, if_pos hm3]])
            | (have hE : (S.write 2 zeros256 true) = (0, (S.write 2 zeros256 true).2) := by rw [← show (S.write 2 zeros256 true).1 = 0 by rw [HWE.out, if_neg (by omega)]])
          have HE := Lib.hid hE
          clear hE
          go_wp2_with fail
          (with_reducible refine HDT.out.mono ?_)
          rintro e w4 ⟨⟨g, cap, rfl, _, _, _, hgF, _, hb, _⟩, L4⟩
          have HWR := Lib.hid (ld_write (cap := cap) L4 2 true hb hgF zeros256_len (by decide) HVS.out HE.out)
          clear hgF hb L4
          go_wp2_with fail
          (with_reducible refine HWR.out.mono ?_)
          rintro e w5 ⟨rfl, F5, L5⟩
          obtain ⟨hre, hri⟩ := HWI.out.read
          have hR : (S.write 2 zeros256 true).2.read 2 1 = ((((S.write 2 zeros256 true).2.read 2 1).1.1, 0), ((S.write 2 zeros256 true).2.read 2 1).2) := by rw [← hre]
          have HRD := Lib.hid (ld_read L5 2 1 hR)
          have HRI := Lib.hid hri
          clear hre hri hR L5
          go_wp2_with fail
          (with_reducible refine HRD.out.mono ?_)
          rintro e w6 ⟨⟨v6, rfl, _⟩, L6⟩
          have H6 := Lib.hid L6
          clear L6
          go_wp2
          go_roundw
          case rel => exact ⟨k + 1, by have := HLT.out; omega, by go_num, _, F5, HRI.out, H6.out⟩
          case measure => have := HLT.out; simp [RowKit.intOf]; omega
      · have hev2 : ((k : Int) % 2 == 0) = false := by simp; omega
        obtain ⟨hwe, hwi⟩ := HC.out.flush
        have HWI := Lib.hid hwi
        have HWE := Lib.hid hwe
        clear hev hwe hwi
        rcases hmk2 with ⟨hm1, hm2, hm3⟩ | ⟨hm1, hm2, hm3⟩
        all_goals
          first
            | (have hE : S.flush = (12, S.flush.2) := by rw [← show S.flush.1 = 12 by rw [HWE.out, if_pos hm3]])
            | (have hE : S.flush = (0, S.flush.2) := by rw [← show S.flush.1 = 0 by rw [HWE.out, if_neg (by omega)]])
          have HFL := Lib.hid (ld_flush HL.out hE)
          clear hE
          go_wp2_with fail
          (with_reducible refine HFL.out.mono ?_)
          rintro e w5 ⟨rfl, L5⟩
          obtain ⟨hre, hri⟩ := HWI.out.read
          have hR : S.flush.2.read 2 1 = (((S.flush.2.read 2 1).1.1, 0), (S.flush.2.read 2 1).2) := by rw [← hre]
          have HRD := Lib.hid (ld_read L5 2 1 hR)
          have HRI := Lib.hid hri
          clear hre hri hR L5
          go_wp2_with fail
          (with_reducible refine HRD.out.mono ?_)
          rintro e w6 ⟨⟨v6, rfl, _⟩, L6⟩
          have H6 := Lib.hid L6
          clear L6
          go_wp2
          go_roundw
          case rel => exact ⟨k + 1, by have := HLT.out; omega, by go_num, _, F, HRI.out, H6.out⟩
          case measure => have := HLT.out; simp [RowKit.intOf]; omega
    · have HCR := Lib.hid (ld_crash_nil HL.out HC.out.vers)
      have HFE := Lib.hid (crash_flush S [])
      go_wp2_with fail
      (with_reducible refine HCR.out.mono ?_)
      rintro e w5 ⟨rfl, L5⟩
      have HFL := Lib.hid (ld_flush L5 (show (S.crash []).flush = (0, (S.crash []).flush.2) by rw [← HFE.out]))
      clear L5
      go_wp2_with fail
      (with_reducible refine HFL.out.mono ?_)
      rintro e w6 ⟨rfl, L6⟩
      have U := Lib.hid L6.2.2.2
      clear L6
      go_wp2
      go_ret
      exact ⟨rfl, U.out⟩
theorem cuts_any {c : Int} (w : World) : Calls Try.prog 4 #[.int .i64 c] w fun e w' => e = .returned (.bool true) ∧ Upd [] w w' := by
  by_cases h : c < 0 ∨ 1099511627776 < c
  · exact cuts_no w h
  · obtain ⟨m, rfl⟩ := Int.eq_ofNat_of_zero_le (show 0 ≤ c by omega)
    exact cuts_yes w (by omega)
end Go.Proofs.Ytpnpjffhkaejgaa
