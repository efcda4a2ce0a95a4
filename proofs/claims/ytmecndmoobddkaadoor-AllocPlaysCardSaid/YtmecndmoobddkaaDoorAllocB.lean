/-
  PROVED HERE: what the other functions of package alloc do to the block that holds an allocator (New, Take, Drop, Settle, Undo, Free, Runs), and the two of math/bits. Conditions: the block is the allocator's, whole; the table of math/bits lies as its text lays it.
-/
import Derived.Test.YtmecndmoobddkaaDoorAlloc
namespace Go.Proofs.YtmecndmoobddkaaDoor
open Go.RowKit

theorem and127 (c : Nat) : bits BinOp.and IntKind.i64 (wrap64 (c : Int)) 127 = ((c % 128 : Nat) : Int) := by
  have h1 : BitVec.ofInt 64 (wrap64 (c : Int)) = BitVec.ofNat 64 c := by
    apply BitVec.eq_of_toNat_eq
    simp only [BitVec.toNat_ofInt, BitVec.toNat_ofNat, wrap64]
    omega
  have h2 : (BitVec.ofInt 64 127).toNat = 127 := by decide
  show IntKind.i64.wrap (((BitVec.ofInt 64 (wrap64 (c : Int)) &&& BitVec.ofInt 64 127) : BitVec 64).toNat : Int) = _
  rw [h1, BitVec.toNat_and, BitVec.toNat_ofNat, h2, Nat.and_two_pow_sub_one_eq_mod _ 7, IntKind.wrap_i64]
  omega
set_option maxHeartbeats 400000 in
theorem ones_any (x : Nat) (w : World) (h : x < 18446744073709551616) :
    Calls Tryd.prog 29 #[.int .u64 x] w fun e w' => e = .returned (.int .i64 (cnt x 64)) ∧ w' = w := by
  obtain ⟨hA, hB, hC, hD, hR⟩ := pop_road x h
  have hR0 := hR _ _ _ rfl rfl rfl
  clear hR
  have hR := hR0
  clear hR0
  have e1 : IntKind.u64.wrap (bits BinOp.and IntKind.u64 ((x : Int) / 2) 6148914691236517205 + bits BinOp.and IntKind.u64 (x : Int) 6148914691236517205) = (popA x : Int) := by
    rw [show (x : Int) / 2 = ((x / 2 : Nat) : Int) by simp, show (6148914691236517205 : Int) = ((6148914691236517205 : Nat) : Int) from rfl, bits_and_u64_nat _ _ (by omega) (by decide), bits_and_u64_nat _ _ h (by decide), IntKind.wrap_u64]
    unfold popA at hA ⊢
    omega
  have E2 : ∀ y : Nat, y < 18446744073709551616 → popB y < 18446744073709551616 → IntKind.u64.wrap (bits BinOp.and IntKind.u64 ((y : Int) / 4) 3689348814741910323 + bits BinOp.and IntKind.u64 (y : Int) 3689348814741910323) = (popB y : Int) := by
    intro y hy hy2
    rw [show (y : Int) / 4 = ((y / 4 : Nat) : Int) by simp, show (3689348814741910323 : Int) = ((3689348814741910323 : Nat) : Int) from rfl, bits_and_u64_nat _ _ (by omega) (by decide), bits_and_u64_nat _ _ hy (by decide), IntKind.wrap_u64]
    unfold popB at hy2 ⊢
    omega
  have e2 := E2 _ hA hB
  have E3 : ∀ y : Nat, y / 16 + y < 18446744073709551616 → bits BinOp.and IntKind.u64 (IntKind.u64.wrap ((y : Int) / 16 + (y : Int))) 1085102592571150095 = (popC y : Int) := by
    intro y hy
    have e : IntKind.u64.wrap ((y : Int) / 16 + (y : Int)) = ((y / 16 + y : Nat) : Int) := by rw [IntKind.wrap_u64]; omega
    rw [e, show (1085102592571150095 : Int) = ((1085102592571150095 : Nat) : Int) from rfl, bits_and_u64_nat _ _ hy (by decide)]
    rfl
  have e3 := E3 _ hC
  have E4 : ∀ y : Nat, IntKind.u64.wrap ((y : Int) + (y : Int) / 256) = (((y + y / 256) % 18446744073709551616 : Nat) : Int) := by
    intro y; rw [IntKind.wrap_u64]; omega
  have E5 : ∀ y : Nat, IntKind.u64.wrap ((y : Int) + (y : Int) / 65536) = (((y + y / 65536) % 18446744073709551616 : Nat) : Int) := by
    intro y; rw [IntKind.wrap_u64]; omega
  have E6 : ∀ y : Nat, IntKind.u64.wrap ((y : Int) + (y : Int) / 4294967296) = (((y + y / 4294967296) % 18446744073709551616 : Nat) : Int) := by
    intro y; rw [IntKind.wrap_u64]; omega
  have e4 := E4 (popC (popB (popA x)))
  generalize hz : popC (popB (popA x)) = z at *
  have e5 := E5 ((z + z / 256) % 18446744073709551616)
  generalize ha : (z + z / 256) % 18446744073709551616 = a at *
  have e6 := E6 ((a + a / 65536) % 18446744073709551616)
  generalize hb : (a + a / 65536) % 18446744073709551616 = b at *
  generalize hc : (b + b / 4294967296) % 18446744073709551616 = c at *
  have hcl : c < 18446744073709551616 := by omega
  have hle := cnt_le x 64
  have HR := Lib.hid hR
  clear hR hA hB hC hD hz ha hb hc E2 E3 E4 E5 E6
  generalize popB (popA x) = y at *
  generalize popA x = v at *
  go_enter Tryd.func29, Tryd.ntmps29
  go_wp2
  go_ret
  refine ⟨?_, rfl⟩
  have ef := and127 c
  simp only [Array.getD_eq_getD_getElem?]
  simp [ef, HR.out]

/-- The table of math/bits, in its variable. -/
def Tab (w : World) : Prop := ∀ j, j < 64 → w.cell? ⟨0, j, none⟩ = some (.int .u8 (Lib.deBruijn64tab.getD j 0))
set_option maxHeartbeats 400000 in
theorem tz_core (x k idx : Nat) (w : World) (hx0 : ((x : Int) == 0) = false)
    (key : IntKind.u64.wrap (bits BinOp.and IntKind.u64 (x : Int) (IntKind.u64.wrap (-(x : Int))) * 285870213051353865) / 288230376151711744 = (idx : Int))
    (hi : idx < 64) (hk : k < 64) (hcell : w.cell? ⟨0, idx, none⟩ = some (.int .u8 k)) :
    Calls Tryd.prog 28 #[.int .u64 x] w fun e w' => e = .returned (.int .i64 k) ∧ w' = w := by
  go_enter Tryd.func28, Tryd.ntmps28
  go_wp2_with (simp only [key])
  go_ret
  exact ⟨rfl, rfl⟩
theorem tz_key (x a : Nat) (hx : x < 18446744073709551616) (hlow : x &&& (18446744073709551616 - x) = a) (hx0 : x ≠ 0) :
    IntKind.u64.wrap (bits BinOp.and IntKind.u64 (x : Int) (IntKind.u64.wrap (-(x : Int))) * 285870213051353865) / 288230376151711744 = ((a * 285870213051353865 % 18446744073709551616 / 288230376151711744 : Nat) : Int) := by
  have e1 : IntKind.u64.wrap (-(x : Int)) = ((18446744073709551616 - x : Nat) : Int) := by rw [IntKind.wrap_u64]; omega
  rw [e1, bits_and_u64_nat x _ hx (by omega), hlow, IntKind.wrap_u64]
  omega
/-- It returns the place of the lowest bit that is set. -/
theorem tz_any {x : Nat} {w : World} (hx : x < 18446744073709551616) (hx0 : x ≠ 0) (hT : Tab w) :
    Calls Tryd.prog 28 #[.int .u64 x] w fun e w' => e = .returned (.int .i64 (Lib.ctz 64 x)) ∧ w' = w := by
  obtain ⟨hlow, hk⟩ := Lib.lowest_bit 64 x hx0 hx
  obtain ⟨hi, htab⟩ := Lib.deBruijn64_at _ hk
  have hcell := hT _ hi
  rw [htab] at hcell
  exact tz_core x _ _ w (by simp; omega) (tz_key x _ hx hlow hx0) hi hk hcell
theorem ctz_bits {x : Nat} (hx : x < 18446744073709551616) (hx0 : x ≠ 0) : Lib.ctz 64 x < 64 ∧ x.testBit (Lib.ctz 64 x) = true ∧ ∀ q, q < Lib.ctz 64 x → x.testBit q = false := by
  obtain ⟨m, hm, hlt⟩ := Lib.ctzFrom_spec 64 x (by omega) hx
  have e : Lib.ctz 64 x = Lib.ctzFrom 64 x := by simp [Lib.ctz, hx0]
  rw [e]
  generalize Lib.ctzFrom 64 x = c at *
  subst hm
  refine ⟨hlt, ?_, fun q hq => ?_⟩
  · rw [Nat.mul_comm, Nat.testBit_mul_two_pow]; simp [Nat.testBit_zero]
  · rw [Nat.mul_comm, Nat.testBit_mul_two_pow]; simp; omega

theorem part_free (s : St) (k : Nat) (hk : k < 16) : (s.cells.extract 1 17)[k]? = some (.int .u64 (wd s.F k : Int)) := by
  rw [Array.getElem?_extract, if_pos (by simp [s.cells_size]; omega), s.cells_get, if_pos (by omega), St.cell, if_neg (by omega), if_pos (by omega), show 1 + k - 1 = k by omega]
  rfl

theorem info64 : (Tryd.prog.info? 43).map (·.size) = some 1 := by kernel_rfl
theorem at_free (s : St) (k : Nat) (hk : k < 16) : ∀ w, (Instr.index 44 (.agg (s.cells.extract 1 17)) (.int .i64 (k : Int))).run Tryd.prog w = .ok (.int .u64 (wd s.F k : Int)) w :=
  fun w => run_index_agg w Tryd.underlying44 Tryd.underlying43 rfl info64 hk (part_free s k hk) _
theorem infoArr : (Tryd.prog.info? 44).map (·.size) = some 16 := by kernel_rfl
theorem infoState : (Tryd.prog.info? 46).map (·.size) = some 32 := by kernel_rfl

set_option maxHeartbeats 400000 in
theorem free_any {b : Nat} {s : St} {w : World} (h : IsA w b s) :
    Calls Tryd.prog 10 #[pt b] w fun e w' => e = .returned (.int .i64 (s.free)) ∧ w' = w := by
  have hfree : (s.free : Int) = (cnt s.F (64 * 16) : Int) := by rw [St.free, cnt_above h.2.2.2.1 (show s.n ≤ 64 * 16 by have := h.2.2.1; omega)]
  rw [hfree]
  have hp := at_free s
  have H := Lib.hid h.1
  have HP := Lib.hid hp
  clear hp h hfree
  go_enter Tryd.func10, Tryd.ntmps10
  go_wp2_with (refine wpList_load_part rfl 44 (.tmp 9) rfl b 1 16 rfl _ _ _ _ H.out Tryd.underlying44 rfl infoArr (by rw [s.cells_size]; decide) ?_)
  go_loop [3, 11] (fun v i => ∃ k : Nat, k ≤ 16 ∧ i = .int .i64 k ∧ v = .int .i64 (cnt s.F (64 * k))) (fun _ i => 16 - (intOf i).toNat)
  case atStart => exact ⟨0, by omega, rfl, rfl⟩
  case round =>
    obtain ⟨k, hk, rfl, rfl⟩ := hrel
    by_cases hlt : k < 16
    · have hp := HP.out k hlt
      have hc := Lib.hid (cnt_word s.F k)
      have hl := wd_lt s.F k
      have h1 := cnt_le s.F (64 * k)
      have h2 := cnt_le (wd s.F k) 64
      go_wp2_with (go_at_call 29; refine (ones_any _ _ hl).mono ?_; rintro e w' ⟨rfl, rfl⟩)
      go_round
      case rel => exact ⟨k + 1, by omega, by go_num, by rw [hc.out]; go_num⟩
      case measure => simp [intOf]; omega
    · obtain rfl : k = 16 := by omega
      go_wp2
      go_ret
      exact ⟨rfl, rfl⟩

set_option maxHeartbeats 800000 in
theorem take_any {b : Nat} {s : St} {w : World} (h : IsA w b s) (hT : Tab w) :
    Calls Tryd.prog 9 #[pt b] w fun e w' => e = .returned (.tuple #[.int .i64 (s.low.getD 0 : Nat), .bool s.low.isSome]) ∧ IsA w' b s.take ∧ Upd [b] w w' := by
  have hn := h.2.2.1
  have HF := Lib.hid h.2.2.2.1
  have H := Lib.hid h
  have HT := Lib.hid hT
  have HP := Lib.hid (at_free s)
  clear h hT
  go_enter Tryd.func9, Tryd.ntmps9
  go_wp2_with (refine wpList_load_part rfl 44 (.tmp 10) rfl b 1 16 rfl _ _ _ _ H.out.1 Tryd.underlying44 rfl infoArr (by rw [s.cells_size]; decide) ?_)
  go_loop [12] (fun i => ∃ k : Nat, k ≤ 16 ∧ i = .int .i64 k ∧ Hid (∀ i, i < k → wd s.F i = 0)) (fun i => 16 - (intOf i).toNat)
  case atStart => exact ⟨0, by omega, rfl, fun i hi => by omega⟩
  case round =>
    obtain ⟨k, hk, rfl, hz⟩ := hrel
    by_cases hlt : k < 16
    · have hp := HP.out k hlt
      have hl := wd_lt s.F k
      by_cases h0 : wd s.F k = 0
      · have HZ : Hid (∀ i, i < k + 1 → wd s.F i = 0) := fun i hi => by
          by_cases e : i = k
          · subst e; exact h0
          · exact hz.out i (by omega)
        rw [h0] at hp
        clear h0 hl
        go_wp2
        go_round
        case rel => exact ⟨k + 1, by omega, by go_num, HZ⟩
        case measure => simp [intOf]; omega
      · have hne : ((wd s.F k : Int) != 0) = true := by simp; omega
        obtain ⟨hc, hb1, hb2⟩ := ctz_bits hl h0
        have hlow : s.low = some (64 * k + Lib.ctz 64 (wd s.F k)) := by
          have hb : s.F.testBit (64 * k + Lib.ctz 64 (wd s.F k)) = true := by
            have := wd_bit s.F k (Lib.ctz 64 (wd s.F k))
            rw [hb1] at this; simpa [hc] using this.symm
          refine St.low_some ?_ hb fun q hq => ?_
          · rcases Nat.lt_or_ge (64 * k + Lib.ctz 64 (wd s.F k)) s.n with h1 | h1
            · exact h1
            · rw [bit_of_lt HF.out h1] at hb; cases hb
          · by_cases hq2 : q < 64 * k
            · exact low_words hz.out q hq2
            · have := wd_bit s.F k (q - 64 * k)
              rw [hb2 _ (by omega), show 64 * k + (q - 64 * k) = q by omega] at this
              simpa [show q - 64 * k < 64 by omega] using this.symm
        have hfree : s.isFree ((64 * k + Lib.ctz 64 (wd s.F k) : Nat) : Int) = true := by
          unfold St.low at hlow
          rw [List.find?_range_eq_some] at hlow
          have hm := hlow.2.1
          simp at hm
          simp only [St.isFree, St.there, Int.toNat_natCast, hlow.1, Bool.and_true, decide_eq_true_eq]
          omega
        have htake : s.take = s.mark ((64 * k + Lib.ctz 64 (wd s.F k) : Nat) : Int) := by rw [St.take, hlow]
        have HL := Lib.hid hlow
        have HFr := Lib.hid hfree
        have HTk := Lib.hid htake
        have H0 := Lib.hid h0
        clear hlow hfree htake hb1 hb2 h0
        go_wp2_with (go_at_call 28; refine (tz_any hl H0.out HT.out).mono ?_; rintro e w' ⟨rfl, rfl⟩)
        rw [show (64 * (k : Int) + (Lib.ctz 64 (wd s.F k) : Int)) = ((64 * k + Lib.ctz 64 (wd s.F k) : Nat) : Int) by omega]
        generalize 64 * k + Lib.ctz 64 (wd s.F k) = p at *
        refine (mark_any H.out).mono ?_
        rintro e w1 ⟨rfl, hm, hu⟩
        rw [HFr.out]
        go_wp2
        go_ret2
        rw [HL.out, HTk.out]
        exact ⟨rfl, hm, hu⟩
    · obtain rfl : k = 16 := by omega
      have hlow : s.low = none := St.low_none fun q hq => low_words hz.out q (by omega)
      have HL := Lib.hid hlow
      have htake : s.take = s := by rw [St.take, hlow]
      have HTk := Lib.hid htake
      clear hlow htake
      go_wp2
      go_ret2
      rw [HL.out, HTk.out]
      exact ⟨rfl, H.out, Upd.refl _ _⟩
end Go.Proofs.YtmecndmoobddkaaDoor
