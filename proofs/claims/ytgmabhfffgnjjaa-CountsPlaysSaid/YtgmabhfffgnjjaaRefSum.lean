/-
  PROVED HERE: the document's sum, sector, number, and comparing. Conditions: what is put has room.
-/
import Derived.Test.YtgmabhfffgnjjaaRefPut
namespace Go.Proofs.Ytgmabhfffgnjjaa
open Go.RowKit

theorem cstep_word (c : Nat) (h : c < 4294967296) : (if c % 2 = 1 then bits BinOp.xor IntKind.u32 ((c : Int) / 2) 2197175160 else ((c : Int) / 2)) = (cstep c : Int) := by
  unfold cstep
  have e : ((c : Int) / 2) = ((c / 2 : Nat) : Int) := by simp
  rcases Nat.mod_two_eq_zero_or_one c with h0 | h0 <;> rw [h0, e]
  · simp
  · rw [if_pos rfl, show (2197175160 : Int) = ((2197175160 : Nat) : Int) from rfl, u32_xor_nat _ _ (by omega) (by decide)]
    simp [poly]
theorem le4_get (s j : Nat) (h : j < 4) : (le4 s)[j]? = some (s / 256 ^ j % 256) := by
  obtain rfl | rfl | rfl | rfl : j = 0 ∨ j = 1 ∨ j = 2 ∨ j = 3 := by omega
  all_goals simp [le4]
theorem le4_take (s j : Nat) (h : j < 4) : (le4 s).take (j + 1) = (le4 s).take j ++ [s / 256 ^ j % 256] := by
  rw [List.take_add_one, le4_get s j h]; rfl
/-- The k bytes of l from a place on; noughts behind the end. -/
def seg (l : List Nat) (at_ k : Nat) : List Nat := (List.range k).map fun j => l.getD (at_ + j) 0
theorem seg_len (l : List Nat) (a k : Nat) : (seg l a k).length = k := by simp [seg]
theorem seg_ok {l : List Nat} (h : BytesOk l) (a k : Nat) : BytesOk (seg l a k) := fun x hx => by
  simp only [seg, List.mem_map] at hx
  obtain ⟨j, _, rfl⟩ := hx
  exact getD_lt h _
theorem seg_succ (l : List Nat) (a k : Nat) : seg l a (k + 1) = seg l a k ++ [l.getD (a + k) 0] := by simp [seg, List.range_succ]
theorem seg_eq {l : List Nat} {a k : Nat} (h : a + k ≤ l.length) : seg l a k = (l.drop a).take k := by
  apply List.ext_getElem?
  intro i
  by_cases hi : i < k
  · rw [List.getElem?_take_of_lt hi, List.getElem?_drop]
    simp [seg, hi, List.getD_eq_getElem?_getD]
    rw [List.getElem?_eq_getElem (by omega)]; rfl
  · rw [List.getElem?_eq_none (by rw [seg_len]; omega), List.getElem?_eq_none (by simp; omega)]
set_option maxRecDepth 100000 in
set_option maxHeartbeats 1600000 in
theorem number_any {w : World} {a : Option Addr} {l : List Nat} {cap at_ k : Nat} (hb : IsBytes w a l) (hl : l.length ≤ 9223372036854775807) (hk : k ≤ 8) (ha : at_ ≤ 1000) :
    Calls Try.prog 43 #[.slice a l.length cap, .int .i64 at_, .int .i64 k] w fun e w' => e = .returned (.int .i64 (numi (seg l at_ k))) ∧ w' = w := by
  have HB := Lib.hid hb
  clear hb
  go_enter Try.func43, Try.ntmps43
  go_wp2
  go_loop [7, 8, 9] (fun n i _ => ∃ j : Nat, j ≤ k ∧ i = .int .i64 ((at_ : Int) + j) ∧ n = .int .i64 (numi (seg l at_ j))) (fun _ i _ => at_ + k - (intOf i).toNat)
  case atStart => exact ⟨0, by omega, by simp, by rw [show seg l at_ 0 = [] from rfl, numi_nil]⟩
  case round =>
    obtain ⟨j, hj, rfl, rfl⟩ := hrel
    by_cases hlt : j < k
    · have hm := num_lt (seg_ok HB.out.1 at_ j)
      rw [seg_len] at hm
      have hp : 256 ^ j ≤ 256 ^ 7 := Nat.pow_le_pow_right (by decide) (by omega)
      have h7 : (256 : Nat) ^ 7 = 72057594037927936 := by decide
      have hni := numi_eq (seg_ok HB.out.1 at_ j) (by rw [seg_len]; omega)
      have hms : num (seg l at_ j) < 72057594037927936 := by omega
      have hst : numi (seg l at_ (j + 1)) = wrap64 ((256 * num (seg l at_ j) + l.getD (at_ + j) 0 : Nat) : Int) := by
        unfold numi; rw [seg_succ, num_snoc]
      have hgl := getD_lt HB.out.1 (at_ + j)
      rw [hni]
      have HST := Lib.hid hst
      clear hm hp h7 hni hst
      generalize num (seg l at_ j) = m at *
      by_cases hin : at_ + j < l.length
      · obtain ⟨b, o, rfl, hc⟩ := HB.out.2 _ hin
        rw [getD_of hin] at hc
        generalize l.getD (at_ + j) 0 = x at *
        go_wp2
        go_round
        case rel => exact ⟨j + 1, by omega, by go_num, by rw [HST.out]; congr 1; simp only [wrap64]; omega⟩
        case measure => simp [intOf]; omega
      · have hx : l.getD (at_ + j) 0 = 0 := by rw [List.getD_eq_getElem?_getD, List.getElem?_eq_none (by omega)]; rfl
        rw [hx] at HST
        go_wp2
        go_round
        case rel => exact ⟨j + 1, by omega, by go_num, by rw [HST.out]; congr 1; simp only [wrap64]; omega⟩
        case measure => simp [intOf]; omega
    · obtain rfl : j = k := by omega
      go_wp2
      go_ret
      exact ⟨rfl, rfl⟩

set_option maxRecDepth 100000 in
set_option maxHeartbeats 1600000 in
theorem same_any {w : World} {a a' : Option Addr} {l l' : List Nat} {cap cap' : Nat} (hb : IsBytes w a l) (hb' : IsBytes w a' l') (hl : l.length ≤ 9223372036854775807) (hl' : l'.length ≤ 9223372036854775807) :
    Calls Try.prog 44 #[.slice a l.length cap, .slice a' l'.length cap'] w fun e w' => e = .returned (.bool (decide (l = l'))) ∧ Upd [] w w' := by
  have HB := Lib.hid hb
  have HB' := Lib.hid hb'
  clear hb hb'
  by_cases hne : l.length = l'.length
  · have hni : (l.length : Int) = (l'.length : Int) := by omega
    go_enter Try.func44, Try.ntmps44
    rw [← hne]
    go_wp2
    go_loopw [5] (fun i wr => ∃ j : Nat, j ≤ l.length ∧ i = .int .i64 j ∧ l.take j = l'.take j ∧ Upd [] w wr) (fun i _ => l.length - (intOf i).toNat)
    case atStart => exact ⟨0, by omega, rfl, rfl, Upd.refl _ _⟩
    case round =>
      obtain ⟨j, hj, rfl, ht, hU⟩ := hrel
      have HT := Lib.hid ht
      have HU := Lib.hid hU
      clear ht hU
      by_cases hlt : j < l.length
      · obtain ⟨b, o, rfl, hc⟩ := (HB.out.upd HU.out (by simp)).2 _ hlt
        obtain ⟨b', o', rfl, hc'⟩ := (HB'.out.upd HU.out (by simp)).2 j (by omega)
        by_cases heq : l[j] = l'[j]'(by omega)
        · have hs : l.take (j + 1) = l'.take (j + 1) := by rw [List.take_succ_eq_append_getElem hlt, List.take_succ_eq_append_getElem (by omega), HT.out, heq]
          have HS := Lib.hid hs
          rw [← heq] at hc'
          clear hs
          generalize l[j] = x at *
          clear heq
          go_wp2
          go_region
          go_wp2
          go_roundw
          case rel => exact ⟨j + 1, by omega, by go_num, HS.out, HU.out.drew⟩
          case measure => simp [intOf]; omega
        · have hs : ¬ l = l' := fun e => heq (by subst e; rfl)
          have HS := Lib.hid hs
          clear hs
          generalize l[j] = x at *
          generalize l'[j]'(by omega) = y at *
          go_wp2
          go_region
          go_wp2
          go_ret
          exact ⟨by rw [decide_eq_false HS.out]; rfl, HU.out.drew⟩
      · obtain rfl : j = l.length := by omega
        have hs : l = l' := by have := HT.out; rwa [List.take_length, hne, List.take_length] at this
        have HS := Lib.hid hs
        clear hs
        go_wp2
        go_ret
        exact ⟨by rw [decide_eq_true HS.out]; rfl, HU.out⟩
  · have hs : ¬ l = l' := fun e => hne (by rw [e])
    have HS := Lib.hid hs
    have hni : ¬ (l.length : Int) = (l'.length : Int) := by omega
    clear hs
    go_enter Try.func44, Try.ntmps44
    go_wp2
    go_ret
    exact ⟨by rw [decide_eq_false HS.out]; rfl, Upd.refl _ _⟩
end Go.Proofs.Ytgmabhfffgnjjaa
