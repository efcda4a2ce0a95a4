/-
  PROVED HERE: the document's sum, sector, number, and comparing. Conditions: what is put has room.
-/
import Derived.Test.YtpnpjffhkaejgaaGreatDoorRefPut
namespace Go.Proofs.YtpnpjffhkaejgaaGreatDoor
open Go.RowKit

theorem cstep_word (c : Nat) (h : c < 4294967296) : (if c % 2 = 1 then bits BinOp.xor IntKind.u32 ((c : Int) / 2) 2197175160 else ((c : Int) / 2)) = (cstep c : Int) := by
  unfold cstep
  have e : ((c : Int) / 2) = ((c / 2 : Nat) : Int) := by simp
  rcases Nat.mod_two_eq_zero_or_one c with h0 | h0 <;> rw [h0, e]
  · simp
  · rw [if_pos rfl, show (2197175160 : Int) = ((2197175160 : Nat) : Int) from rfl, u32_xor_nat _ _ (by omega) (by decide)]
    simp [poly]
set_option maxRecDepth 100000 in
set_option maxHeartbeats 1600000 in
theorem rmore_any {w : World} {a : Option Addr} {l : List Nat} {cap : Nat} (hb : IsBytes w a l) (hl : l.length ≤ 9223372036854775807) :
    Calls Tryz.prog 76 #[.int .u32 0, .slice a l.length cap] w fun e w' => e = .returned (.int .u32 (crc l)) ∧ w' = w := by
  have HB := Lib.hid hb
  clear hb
  go_enter Tryz.func76, Tryz.ntmps76
  go_wp2
  go_loop [5, 6] (fun c i => ∃ k : Nat, k ≤ l.length ∧ i = .int .i64 k ∧ c = .int .u32 (cmore 4294967295 (l.take k))) (fun _ i => l.length - (intOf i).toNat)
  case atStart => exact ⟨0, by omega, rfl, by rw [not_zero32]; rfl⟩
  case round =>
    obtain ⟨k, hk, rfl, rfl⟩ := hrel
    by_cases hlt : k < l.length
    · obtain ⟨b, o, rfl, hc⟩ := HB.out.2 k hlt
      have hb := HB.out.1 l[k] (List.getElem_mem hlt)
      have hcl : cmore 4294967295 (l.take k) < 4294967296 := cmore_lt (fun x hx => HB.out.1 x (List.mem_of_mem_take hx)) (by decide)
      have hstep : cmore 4294967295 (l.take (k + 1)) = csteps 8 (cmore 4294967295 (l.take k) ^^^ l[k]) := by
        rw [List.take_succ_eq_append_getElem hlt, cmore_snoc]; rfl
      have hx : bits BinOp.xor IntKind.u32 ((cmore 4294967295 (l.take k) : Nat) : Int) (l[k] : Int) = ((cmore 4294967295 (l.take k) ^^^ l[k] : Nat) : Int) := u32_xor_nat _ _ hcl (by omega)
      have hxl : cmore 4294967295 (l.take k) ^^^ l[k] < 4294967296 := Nat.xor_lt_two_pow (n := 32) hcl (by omega)
      have HSt := Lib.hid hstep
      have HXL := Lib.hid hxl
      generalize cmore 4294967295 (l.take k) = c at *
      generalize l[k] = v at *
      generalize c ^^^ v = z at *
      clear hstep hxl
      go_wp2
      go_loop [5, 7, 8] (fun d i _ => ∃ j : Nat, j ≤ 8 ∧ i = .int .i64 j ∧ ∃ y : Nat, y < 4294967296 ∧ d = .int .u32 (y : Int) ∧ csteps (8 - j) y = csteps 8 z) (fun _ i _ => 8 - (intOf i).toNat)
      case atStart => exact ⟨0, by omega, rfl, z, HXL.out, by first | rfl | rw [hx], rfl⟩
      case round =>
        obtain ⟨j, hj, rfl, y, hy, rfl, hyz⟩ := hrel
        have HYZ := Lib.hid hyz
        clear hyz
        by_cases hj8 : j < 8
        · have hcw := cstep_word y hy
          have HCW := Lib.hid hcw
          have HCL := Lib.hid (cstep_lt hy)
          have hcs : csteps (8 - j) y = csteps (8 - (j + 1)) (cstep y) := by rw [show 8 - j = (8 - (j + 1)) + 1 by omega]; rfl
          have HCS := Lib.hid hcs
          clear hcw hcs
          rcases Nat.mod_two_eq_zero_or_one y with hm | hm
          · have hmi : (y : Int) % 2 = 0 := by omega
            have hne : ¬ y % 2 = 1 := by omega
            go_wp2
            go_round
            case rel => exact ⟨j + 1, by omega, by go_num, cstep y, HCL.out, by have := HCW.out; rw [if_neg hne] at this; rw [this], by rw [← HCS.out]; exact HYZ.out⟩
            case measure => simp [intOf]; omega
          · have hmi : (y : Int) % 2 = 1 := by omega
            go_wp2
            go_round
            case rel => exact ⟨j + 1, by omega, by go_num, cstep y, HCL.out, by have := HCW.out; rw [if_pos hm] at this; rw [this], by rw [← HCS.out]; exact HYZ.out⟩
            case measure => simp [intOf]; omega
        · obtain rfl : j = 8 := by omega
          go_wp2
          go_round
          case rel => exact ⟨k + 1, by omega, by go_num, by rw [HSt.out, ← HYZ.out]; rfl⟩
          case measure => simp [intOf]; omega
    · obtain rfl : k = l.length := by omega
      go_wp2
      go_ret
      exact ⟨not_word _ (cmore_lt HB.out.1 (by decide)), rfl⟩
theorem rsum_any {w : World} {a : Option Addr} {l : List Nat} {cap : Nat} (hb : IsBytes w a l) (hl : l.length ≤ 9223372036854775807) :
    Calls Tryz.prog 64 #[.slice a l.length cap] w fun e w' => e = .returned (.int .u32 (crc l)) ∧ w' = w := by
  have H := Lib.hid (rmore_any (cap := cap) hb hl)
  clear hb hl
  go_enter Tryz.func64, Tryz.ntmps64
  go_wp2_with fail
  refine H.out.mono ?_
  rintro e w1 ⟨rfl, rfl⟩
  go_wp2
  go_ret
  exact ⟨rfl, rfl⟩
theorem le4_get (s j : Nat) (h : j < 4) : (le4 s)[j]? = some (s / 256 ^ j % 256) := by
  obtain rfl | rfl | rfl | rfl : j = 0 ∨ j = 1 ∨ j = 2 ∨ j = 3 := by omega
  all_goals simp [le4]
theorem le4_take (s j : Nat) (h : j < 4) : (le4 s).take (j + 1) = (le4 s).take j ++ [s / 256 ^ j % 256] := by
  rw [List.take_add_one, le4_get s j h]; rfl
set_option maxRecDepth 100000 in
set_option maxHeartbeats 1600000 in
theorem summed_any {v u : Value} {B : Nat} {l p : List Nat} {w : World} (h : IsOut w B v l) (hu : IsOut w B u p) (hB : B ≤ w.heap.size) (hr : l.length ≤ 1000000) :
    Calls Tryz.prog 58 #[v, u] w fun e w' => ∃ v', e = .returned v' ∧ IsOut w' B v' (l ++ le4 (crc p)) ∧ Mine v w v' w' := by
  obtain ⟨a, cap, rfl, hby, _, hpl⟩ := hu.slice
  have HS := Lib.hid (rsum_any (cap := cap) hby hpl)
  have hcl : crc p < 4294967296 := crc_lt hby.1
  have H := Lib.hid h
  have HB := Lib.hid hB
  clear h hu hB hby hpl
  go_enter Tryz.func58, Tryz.ntmps58
  go_wp2_with fail
  refine HS.out.mono ?_
  rintro e w0 ⟨rfl, rfl⟩
  have hcc : crc p = crc p := rfl
  generalize hs : crc p = s at hcl ⊢
  have HCC := Lib.hid hs
  clear hcc hs
  go_wp2
  go_loopw [0, 6] (fun u i wr => ∃ j : Nat, j ≤ 4 ∧ i = .int .i64 j ∧ IsOut wr B u (l ++ (le4 s).take j) ∧ Mine v w0 u wr) (fun _ i _ => 4 - (intOf i).toNat)
  case atStart => exact ⟨0, by omega, rfl, by simpa using H.out, Mine.refl _ _⟩
  case round =>
    obtain ⟨j, hj, rfl, hV, hU⟩ := hrel
    have HV := Lib.hid hV
    have HU := Lib.hid hU
    clear hV hU
    by_cases hlt : j < 4
    · have hlen : (l ++ (le4 s).take j).length < 100000000000000 := by rw [List.length_append, List.length_take]; simp [le4]; omega
      have hV1 : IsOut (wr.alloc (.cells #[.int .u8 ((s : Int) / 2 ^ (8 * j) % 256)] 5)) B u0 (l ++ (le4 s).take j) := HV.out.upd ((Upd.refl [] _).alloc _) (by simp)
      have HVA := Lib.hid hV1
      have HPL := Lib.hid hlen
      clear hV1 hlen
      go_wp2_with (at_builtin; refine wpList_push rfl (.tmp 13) (.tmp 19) rfl rfl rfl HVA.out wr.heap.size 1 (s / 256 ^ j % 256) rfl ?c1 (Nat.mod_lt _ (by decide)) HPL.out ?c2 ?_)
      case c1 => rw [← byte_of']; exact news_at _ _ _ 0 _ rfl
      case c2 => simp; have := HU.out.upd.size; have := HB.out; omega
      intro v' w1 hn1 hx1
      have hnew : IsOut w1 B v' (l ++ (le4 s).take (j + 1)) := by
        rw [le4_take s j hlt]; simpa using hn1
      have HN := Lib.hid hnew
      have HU1 := Lib.hid ((HU.out.alloc _).trans hx1)
      clear hn1 hx1 hnew HVA
      go_wp2
      go_roundw
      case rel => exact ⟨j + 1, by omega, by go_num, HN.out, HU1.out⟩
      case measure => simp [intOf]; omega
    · obtain rfl : j = 4 := by omega
      go_wp2
      go_ret
      rw [HCC.out]
      exact ⟨_, rfl, HV.out, HU.out⟩

theorem rframed_any {v : Value} {B : Nat} {l : List Nat} {w : World} (h : IsOut w B v l) (hB : B ≤ w.heap.size) (hl : l.length ≤ 252) :
    Calls Tryz.prog 43 #[v] w fun e w' => ∃ v', e = .returned v' ∧ IsOut w' B v' (frame l) ∧ Mine v w v' w' := by
  have H := Lib.hid h
  have HB := Lib.hid hB
  have HL := Lib.hid hl
  clear h hB hl
  go_enter Tryz.func43, Tryz.ntmps43
  go_wp2_with fail
  refine (filled_any (n := 252) H.out HB.out (by decide) (by have := HL.out; omega)).mono ?_
  rintro e w1 ⟨v1, rfl, h1, m1⟩
  have H1 := Lib.hid h1
  have M1 := Lib.hid m1
  clear h1 m1
  go_wp2_with fail
  refine (summed_any H1.out H1.out (by have := M1.out.upd.size; have := HB.out; omega) (by rw [pad_len HL.out]; decide)).mono ?_
  rintro e w2 ⟨v2, rfl, h2, m2⟩
  have H2 := Lib.hid h2
  have M2 := Lib.hid (M1.out.trans m2)
  clear h2 m2
  go_wp2
  go_ret
  exact ⟨_, rfl, H2.out, M2.out⟩

/-- The k bytes of l from a place on; noughts behind the end. -/
def seg (l : List Nat) (at_ k : Nat) : List Nat := (List.range k).map fun j => l.getD (at_ + j) 0
theorem seg_len (l : List Nat) (a k : Nat) : (seg l a k).length = k := by simp [seg]
theorem seg_ok {l : List Nat} (h : BytesOk l) (a k : Nat) : BytesOk (seg l a k) := fun x hx => by
  simp only [seg, List.mem_map] at hx
  obtain ⟨j, _, rfl⟩ := hx
  exact getD_lt h _
theorem seg_succ (l : List Nat) (a k : Nat) : seg l a (k + 1) = seg l a k ++ [l.getD (a + k) 0] := by simp [seg, List.range_succ]
theorem seg_eq {l : List Nat} {a k : Nat} (h : a + k ≤ l.length) : seg l a k = (l.drop a).take k := by
  apply List.ext_getElem?
  intro i
  by_cases hi : i < k
  · rw [List.getElem?_take_of_lt hi, List.getElem?_drop]
    simp [seg, hi, List.getD_eq_getElem?_getD]
    rw [List.getElem?_eq_getElem (by omega)]; rfl
  · rw [List.getElem?_eq_none (by rw [seg_len]; omega), List.getElem?_eq_none (by simp; omega)]
set_option maxRecDepth 100000 in
set_option maxHeartbeats 1600000 in
theorem number_any {w : World} {a : Option Addr} {l : List Nat} {cap at_ k : Nat} (hb : IsBytes w a l) (hl : l.length ≤ 9223372036854775807) (hk : k ≤ 8) (ha : at_ ≤ 1000) :
    Calls Tryz.prog 51 #[.slice a l.length cap, .int .i64 at_, .int .i64 k] w fun e w' => e = .returned (.int .i64 (numi (seg l at_ k))) ∧ w' = w := by
  have HB := Lib.hid hb
  clear hb
  go_enter Tryz.func51, Tryz.ntmps51
  go_wp2
  go_loop [7, 8, 9] (fun n i _ => ∃ j : Nat, j ≤ k ∧ i = .int .i64 ((at_ : Int) + j) ∧ n = .int .i64 (numi (seg l at_ j))) (fun _ i _ => at_ + k - (intOf i).toNat)
  case atStart => exact ⟨0, by omega, by simp, by rw [show seg l at_ 0 = [] from rfl, numi_nil]⟩
  case round =>
    obtain ⟨j, hj, rfl, rfl⟩ := hrel
    by_cases hlt : j < k
    · have hm := num_lt (seg_ok HB.out.1 at_ j)
      rw [seg_len] at hm
      have hp : 256 ^ j ≤ 256 ^ 7 := Nat.pow_le_pow_right (by decide) (by omega)
      have h7 : (256 : Nat) ^ 7 = 72057594037927936 := by decide
      have hni := numi_eq (seg_ok HB.out.1 at_ j) (by rw [seg_len]; omega)
      have hms : num (seg l at_ j) < 72057594037927936 := by omega
      have hst : numi (seg l at_ (j + 1)) = wrap64 ((256 * num (seg l at_ j) + l.getD (at_ + j) 0 : Nat) : Int) := by
        unfold numi; rw [seg_succ, num_snoc]
      have hgl := getD_lt HB.out.1 (at_ + j)
      rw [hni]
      have HST := Lib.hid hst
      clear hm hp h7 hni hst
      generalize num (seg l at_ j) = m at *
      by_cases hin : at_ + j < l.length
      · obtain ⟨b, o, rfl, hc⟩ := HB.out.2 _ hin
        rw [getD_of hin] at hc
        generalize l.getD (at_ + j) 0 = x at *
        go_wp2
        go_round
        case rel => exact ⟨j + 1, by omega, by go_num, by rw [HST.out]; congr 1; simp only [wrap64]; omega⟩
        case measure => simp [intOf]; omega
      · have hx : l.getD (at_ + j) 0 = 0 := by rw [List.getD_eq_getElem?_getD, List.getElem?_eq_none (by omega)]; rfl
        rw [hx] at HST
        go_wp2
        go_round
        case rel => exact ⟨j + 1, by omega, by go_num, by rw [HST.out]; congr 1; simp only [wrap64]; omega⟩
        case measure => simp [intOf]; omega
    · obtain rfl : j = k := by omega
      go_wp2
      go_ret
      exact ⟨rfl, rfl⟩

set_option maxRecDepth 100000 in
set_option maxHeartbeats 1600000 in
theorem same_any {w : World} {a a' : Option Addr} {l l' : List Nat} {cap cap' : Nat} (hb : IsBytes w a l) (hb' : IsBytes w a' l') (hl : l.length ≤ 9223372036854775807) (hl' : l'.length ≤ 9223372036854775807) :
    Calls Tryz.prog 52 #[.slice a l.length cap, .slice a' l'.length cap'] w fun e w' => e = .returned (.bool (decide (l = l'))) ∧ Upd [] w w' := by
  have HB := Lib.hid hb
  have HB' := Lib.hid hb'
  clear hb hb'
  by_cases hne : l.length = l'.length
  · have hni : (l.length : Int) = (l'.length : Int) := by omega
    go_enter Tryz.func52, Tryz.ntmps52
    rw [← hne]
    go_wp2
    go_loopw [5] (fun i wr => ∃ j : Nat, j ≤ l.length ∧ i = .int .i64 j ∧ l.take j = l'.take j ∧ Upd [] w wr) (fun i _ => l.length - (intOf i).toNat)
    case atStart => exact ⟨0, by omega, rfl, rfl, Upd.refl _ _⟩
    case round =>
      obtain ⟨j, hj, rfl, ht, hU⟩ := hrel
      have HT := Lib.hid ht
      have HU := Lib.hid hU
      clear ht hU
      by_cases hlt : j < l.length
      · obtain ⟨b, o, rfl, hc⟩ := (HB.out.upd HU.out (by simp)).2 _ hlt
        obtain ⟨b', o', rfl, hc'⟩ := (HB'.out.upd HU.out (by simp)).2 j (by omega)
        by_cases heq : l[j] = l'[j]'(by omega)
        · have hs : l.take (j + 1) = l'.take (j + 1) := by rw [List.take_succ_eq_append_getElem hlt, List.take_succ_eq_append_getElem (by omega), HT.out, heq]
          have HS := Lib.hid hs
          rw [← heq] at hc'
          clear hs
          generalize l[j] = x at *
          clear heq
          go_wp2
          go_region
          go_wp2
          go_roundw
          case rel => exact ⟨j + 1, by omega, by go_num, HS.out, HU.out.drew⟩
          case measure => simp [intOf]; omega
        · have hs : ¬ l = l' := fun e => heq (by subst e; rfl)
          have HS := Lib.hid hs
          clear hs
          generalize l[j] = x at *
          generalize l'[j]'(by omega) = y at *
          go_wp2
          go_region
          go_wp2
          go_ret
          exact ⟨by rw [decide_eq_false HS.out]; rfl, HU.out.drew⟩
      · obtain rfl : j = l.length := by omega
        have hs : l = l' := by have := HT.out; rwa [List.take_length, hne, List.take_length] at this
        have HS := Lib.hid hs
        clear hs
        go_wp2
        go_ret
        exact ⟨by rw [decide_eq_true HS.out]; rfl, HU.out⟩
  · have hs : ¬ l = l' := fun e => hne (by rw [e])
    have HS := Lib.hid hs
    have hni : ¬ (l.length : Int) = (l'.length : Int) := by omega
    clear hs
    go_enter Tryz.func52, Tryz.ntmps52
    go_wp2
    go_ret
    exact ⟨by rw [decide_eq_false HS.out]; rfl, Upd.refl _ _⟩
end Go.Proofs.YtpnpjffhkaejgaaGreatDoor
