/-
  PROVED HERE: the table of sums is made just once: what sync.Once does with one goroutine. Conditions: the table's block is its own; nobody holds its lock.
  PROVED HERE: the table of sums: made once, then read; the sum of some bytes. Conditions: the table's block is its own; nobody holds its lock.
-/
import Derived.Test.YtpnpjffhkaejgaaGreatDoorRows
import Derived.Test.YtpnpjffhkaejgaaGreatDoorBase
import Derived.Test.YtpnpjffhkaejgaaGreatDoorCrc
import Derived.Defers
import Derived.Laws.Pointers
import Derived.Laws.LoneSync
import Derived.RegionTactic
import Derived.RegionCalls
import Derived.ChangeAlike
import Derived.BigRegion
import Derived.Deep.QuietTactic
import Derived.BigQuiet
import Derived.Laws.Bits64b
import Derived.Laws.BitsAllLaws
namespace Go.Proofs.YtpnpjffhkaejgaaGreatDoor
open Go.RowKit

theorem disable (w : World) : (callFunc 113 #[]).run Tryz.prog w = .ok (.value (.tuple #[])) w := run_call_mark0 Tryz.func113 (by kernel_rfl) (by kernel_rfl) (by kernel_rfl) .disable (by kernel_rfl) w
theorem enable (w : World) : (callFunc 115 #[]).run Tryz.prog w = .ok (.value (.tuple #[])) w := run_call_mark0 Tryz.func115 (by kernel_rfl) (by kernel_rfl) (by kernel_rfl) .enable (by kernel_rfl) w
theorem acquire (a : Addr) (w : World) : (callFunc 116 #[.pointer (some a)]).run Tryz.prog w = .ok (.value (.tuple #[])) w := run_call_marked Tryz.func116 (by kernel_rfl) (by kernel_rfl) (by kernel_rfl) .acquire (by kernel_rfl) a w
theorem releaseMerge (a : Addr) (w : World) : (callFunc 118 #[.pointer (some a)]).run Tryz.prog w = .ok (.value (.tuple #[])) w := run_call_marked Tryz.func118 (by kernel_rfl) (by kernel_rfl) (by kernel_rfl) .releaseMerge (by kernel_rfl) a w
theorem store_deferred (a : Addr) (x : Value) (u : FrameMode) (w : World) (hc : w.cell? a = some x) (hz : w.frozen? a = false) :
    CallsD Tryz.prog 108 #[.pointer (some a), .bool true] u w fun e u' w' => u' = u ∧ (e = .returned (.tuple #[]) ∧ w' = w.drew.setCell a (.int .u32 1)) := by
  have hc' : w.drew.cell? a = some x := by go_simp
  have hz' : w.drew.frozen? a = false := by go_simp
  have hst := run_call_store (P := Tryz.prog) Tryz.func111 (by kernel_rfl) (by kernel_rfl) (by kernel_rfl) (by kernel_rfl) (k := .u32) (y := 1) hc' hz'
  go_enter_d Tryz.func108, Tryz.ntmps108
  go_wp2
  go_region_calls
  all_goals (go_end0; exact ⟨rfl, rfl⟩)
set_option maxRecDepth 100000 in
theorem unlock_deferred (a : Addr) (u : FrameMode) (w : World) (hc : w.cell? a = some (.int .i32 1)) (hz : w.frozen? a = false) :
    CallsD Tryz.prog 107 #[.pointer (some a)] u w fun e u' w' => u' = u ∧ (e = .returned (.tuple #[]) ∧ w' = w.setCell a (.int .i32 0)) := by
  have hd := disable
  have he := enable
  have hr := releaseMerge
  have hadd := run_call_add (P := Tryz.prog) Tryz.func119 (by kernel_rfl) (by kernel_rfl) (by kernel_rfl) .i32 (by kernel_rfl) (y := -1) (s := 0) hc hz (by simp [go_sem]; rfl)
  have hcv := run_convert_to_unsafe (P := Tryz.prog) (src := 170) (dst := 174) Tryz.underlying170 Tryz.underlying174 (by kernel_rfl) hc
  go_enter_d Tryz.func107, Tryz.ntmps107
  go_wp2
  go_end0
  go_wp2
  go_end0
  exact ⟨rfl, rfl⟩
set_option maxRecDepth 100000 in
theorem lock_free (a : Addr) (w : World) (hc : w.cell? a = some (.int .i32 0)) (hz : w.frozen? a = false) :
    Calls Tryz.prog 106 #[.pointer (some a)] w fun e w' => e = .returned (.tuple #[]) ∧ w' = w.setCell a (.int .i32 1) := by
  have hd := disable
  have he := enable
  have ha := acquire
  have hcas := run_call_cas_hit (P := Tryz.prog) Tryz.func114 (by kernel_rfl) (by kernel_rfl) (by kernel_rfl) .i32 (by kernel_rfl) (y := 1) hc hz
  have hc' : (w.setCell a (.int .i32 1)).cell? a = some (.int .i32 1) := World.cell?_setCell_same w a _ hc
  have hcv := run_convert_to_unsafe (P := Tryz.prog) (src := 170) (dst := 174) Tryz.underlying170 Tryz.underlying174 (by kernel_rfl) hc'
  go_enter Tryz.func106, Tryz.ntmps106
  go_wp2
  first | go_end0 | (simp only [Exit.inBlock, Exit.then]; refine bodyPost_ret (results_none rfl _ _ _) rfl ?_) | refine bodyPost_ret (results_none rfl _ _ _) rfl ?_
  go_wp2
  go_end0
  exact ⟨rfl, rfl⟩
end Go.Proofs.YtpnpjffhkaejgaaGreatDoor
namespace Go.Proofs.YtpnpjffhkaejgaaGreatDoor
open Go.RowKit
abbrev pt (b : Nat) : Value := .pointer (some ⟨b, 0, none⟩)

/-- Block t is a table: d: is it made? st: is its lock held? f: its words. -/
def IsTab (w : World) (t : Nat) (d st : Int) (f : Nat → Nat) : Prop :=
  ∃ cs, w.heap[t]? = some (.cells cs 61 (0, 0)) ∧ cs.size = 259 ∧ cs[0]? = some (.int .u32 d) ∧ cs[1]? = some (.int .i32 st) ∧ cs[2]? = some (.int .u32 0) ∧ ∀ i, i < 256 → cs[3 + i]? = some (.int .u32 (f i))
theorem IsTab.upd {w w' : World} {t : Nat} {d st : Int} {f : Nat → Nat} {S : List Nat} (h : IsTab w t d st f) (u : Upd S w w') (hs : t ∉ S) : IsTab w' t d st f := by
  obtain ⟨cs, hb, r⟩ := h; exact ⟨cs, u.get hb hs, r⟩
theorem IsTab.c0 {w : World} {t : Nat} {d st : Int} {f : Nat → Nat} (h : IsTab w t d st f) : w.cell? ⟨t, 0, none⟩ = some (.int .u32 d) := by
  obtain ⟨cs, hb, _, h0, _⟩ := h; rw [(cells_of hb).1]; exact h0
theorem IsTab.c1 {w : World} {t : Nat} {d st : Int} {f : Nat → Nat} (h : IsTab w t d st f) : w.cell? ⟨t, 1, none⟩ = some (.int .i32 st) := by
  obtain ⟨cs, hb, _, _, h0, _⟩ := h; rw [(cells_of hb).1]; exact h0
theorem IsTab.ci {w : World} {t : Nat} {d st : Int} {f : Nat → Nat} (h : IsTab w t d st f) {i : Nat} (hi : i < 256) : w.cell? ⟨t, 3 + i, none⟩ = some (.int .u32 (f i)) := by
  obtain ⟨cs, hb, _, _, _, _, h0⟩ := h; rw [(cells_of hb).1]; exact h0 i hi
theorem IsTab.fz {w : World} {t : Nat} {d st : Int} {f : Nat → Nat} (h : IsTab w t d st f) (i : Nat) : w.frozen? ⟨t, i, none⟩ = false := by
  obtain ⟨cs, hb, _⟩ := h; exact (cells_of hb).2 i
theorem IsTab.lt {w : World} {t : Nat} {d st : Int} {f : Nat → Nat} (h : IsTab w t d st f) : t < w.heap.size := by
  obtain ⟨cs, hb, _⟩ := h; exact lt_of_block hb
theorem IsTab.set0 {w : World} {t : Nat} {d st : Int} {f : Nat → Nat} (h : IsTab w t d st f) (d' : Int) : IsTab (w.setCell ⟨t, 0, none⟩ (.int .u32 d')) t d' st f := by
  obtain ⟨cs, hb, hs, h0, h1, h2, h3⟩ := h
  refine ⟨_, heap_setCell_same w t 0 cs _ _ hb, by simpa using hs, ?_, ?_, ?_, fun i hi => ?_⟩ <;> rw [Array.getElem?_setIfInBounds]
  · rw [if_pos rfl, if_pos (by omega)]
  · rw [if_neg (by omega)]; exact h1
  · rw [if_neg (by omega)]; exact h2
  · rw [if_neg (by omega)]; exact h3 i hi
theorem IsTab.set1 {w : World} {t : Nat} {d st : Int} {f : Nat → Nat} (h : IsTab w t d st f) (st' : Int) : IsTab (w.setCell ⟨t, 1, none⟩ (.int .i32 st')) t d st' f := by
  obtain ⟨cs, hb, hs, h0, h1, h2, h3⟩ := h
  refine ⟨_, heap_setCell_same w t 1 cs _ _ hb, by simpa using hs, ?_, ?_, ?_, fun i hi => ?_⟩ <;> rw [Array.getElem?_setIfInBounds]
  · rw [if_neg (by omega)]; exact h0
  · rw [if_pos rfl, if_pos (by omega)]
  · rw [if_neg (by omega)]; exact h2
  · rw [if_neg (by omega)]; exact h3 i hi
theorem IsTab.seti {w : World} {t : Nat} {d st : Int} {f f' : Nat → Nat} (h : IsTab w t d st f) (i : Nat) (hi : i < 256) (v : Nat) (hf : ∀ j, j < 256 → f' j = if j = i then v else f j) : IsTab (w.setCell ⟨t, 3 + i, none⟩ (.int .u32 v)) t d st f' := by
  obtain ⟨cs, hb, hs, h0, h1, h2, h3⟩ := h
  refine ⟨_, heap_setCell_same w t (3 + i) cs _ _ hb, by simpa using hs, ?_, ?_, ?_, fun j hj => ?_⟩ <;> rw [Array.getElem?_setIfInBounds]
  · rw [if_neg (by omega)]; exact h0
  · rw [if_neg (by omega)]; exact h1
  · rw [if_neg (by omega)]; exact h2
  · rw [hf j hj]
    by_cases e : j = i
    · subst e; rw [if_pos rfl, if_pos (by omega), if_pos rfl]
    · rw [if_neg (by omega), if_neg e]; exact h3 j hj
/-- The words that a table holds. -/
def tword (i : Nat) : Nat := csteps 8 i

theorem step_word (c : Nat) (h : c < 4294967296) : bits BinOp.xor IntKind.u32 ((c : Int) / 2) (bits BinOp.and IntKind.u32 (c : Int) 1 * 2197175160 % 4294967296) = (cstep c : Int) := by
  have h1 : bits BinOp.and IntKind.u32 (c : Int) 1 = ((c % 2 : Nat) : Int) := by
    rw [show (1 : Int) = ((1 : Nat) : Int) from rfl, u32_and_nat c 1 h (by decide), Nat.and_one_is_mod]
  have h2 : (((c % 2 : Nat) : Int) * 2197175160) % 4294967296 = ((c % 2 * poly : Nat) : Int) := by
    unfold poly; omega
  rw [h1, h2, show (c : Int) / 2 = ((c / 2 : Nat) : Int) by simp, u32_xor_nat _ _ (by omega) (by unfold poly; omega)]
  rfl
set_option maxHeartbeats 800000 in
set_option maxRecDepth 100000 in
theorem make_any {t : Nat} {d st : Int} {f : Nat → Nat} {w : World} (h : IsTab w t d st f) :
    Calls Tryz.prog 93 #[pt t] w fun e w' => e = .returned (.tuple #[]) ∧ IsTab w' t d st tword ∧ Upd [t] w w' := by
  go_enter Tryz.func93, Tryz.ntmps93
  go_wp2
  go_loopw [4] (fun i wr => ∃ k : Nat, k ≤ 256 ∧ i = .int .i64 k ∧ IsTab wr t d st (fun j => if j < k then tword j else f j) ∧ Upd [t] w wr) (fun i _ => 256 - (intOf i).toNat)
  case atStart => exact ⟨0, by omega, rfl, by simpa using h, Upd.refl _ _⟩
  case round =>
    obtain ⟨k, hk, rfl, hT, hU⟩ := hrel
    have HT := Lib.hid hT
    have HU := Lib.hid hU
    clear hU
    by_cases hlt : k < 256
    · have hc := hT.ci hlt
      have hz := hT.fz (3 + k)
      clear hT
      go_wp2
      go_loop [3, 9] (fun c j => ∃ m : Nat, m ≤ 8 ∧ j = .int .i64 m ∧ c = .int .u32 (csteps m k)) (fun _ j => 8 - (intOf j).toNat)
      case atStart => exact ⟨0, by omega, rfl, rfl⟩
      case round =>
        obtain ⟨m, hm, rfl, rfl⟩ := hrel
        by_cases hlt2 : m < 8
        · have hl := csteps_lt m (show k < 4294967296 by omega)
          have hs := step_word (csteps m k) hl
          have hnx : cstep (csteps m k) = csteps (m + 1) k := by
            have : ∀ (m c : Nat), cstep (csteps m c) = csteps (m + 1) c := by
              intro m
              induction m with
              | zero => intro c; rfl
              | succ m ih => intro c; exact ih (cstep c)
            exact this m k
          have HX := Lib.hid (hs.trans (congrArg (fun x : Nat => (x : Int)) hnx))
          clear hnx hl hs
          go_wp2
          go_round
          case rel => exact ⟨m + 1, by omega, by go_num, by rw [HX.out]⟩
          case measure => simp [intOf]; omega
        · obtain rfl : m = 8 := by omega
          go_wp2
          go_roundw
          case rel =>
            refine ⟨k + 1, by omega, by go_num, HT.out.seti k hlt (csteps 8 k) fun j hj => ?_, HU.out.setCell (.inl (by simp)) _⟩
            show (if j < k + 1 then tword j else f j) = if j = k then csteps 8 k else if j < k then tword j else f j
            by_cases e : j = k
            · subst e; rw [if_pos (by omega), if_pos rfl]; rfl
            · rw [if_neg e]
              by_cases e2 : j < k
              · rw [if_pos e2, if_pos (by omega)]
              · rw [if_neg e2, if_neg (by omega)]
          case measure => simp [intOf]; omega
    · obtain rfl : k = 256 := by omega
      clear hT
      go_wp2
      go_end0
      obtain ⟨cs, hb, hs, h0, h1, h2, h3⟩ := HT.out
      exact ⟨rfl, ⟨cs, hb, hs, h0, h1, h2, fun i hi => by rw [h3 i hi]; simp [hi]⟩, HU.out⟩
end Go.Proofs.YtpnpjffhkaejgaaGreatDoor
