/-
  PROVED HERE: the statements' turning of bits (spoilt). Conditions: the bytes can be read.
-/
import Derived.Test.YtkahpkmofeglgaaDoorBurst
import Derived.Test.YtkahpkmofeglgaaDoorLawPage
import Derived.Deep.RegionLaw
namespace Go.Proofs.YtkahpkmofeglgaaDoor
open Go.RowKit

/-- Block g holds the bytes l, and more perhaps. -/
def Row (w : World) (g : Nat) (l : List Nat) : Prop := ∃ cur, w.heap[g]? = some (.cells cur 5 (0, 0)) ∧ l.length ≤ cur.size ∧ ∀ i (h : i < l.length), cur[i]? = some (.int .u8 (l[i] : Int))
theorem Row.cell {w : World} {g : Nat} {l : List Nat} (h : Row w g l) (i : Nat) (hi : i < l.length) : w.cell? ⟨g, i, none⟩ = some (.int .u8 (l[i] : Int)) := by
  obtain ⟨cur, hb, _, hc⟩ := h; rw [(cells_of hb).1]; exact hc i hi
theorem Row.fz {w : World} {g : Nat} {l : List Nat} (h : Row w g l) (i : Nat) : w.frozen? ⟨g, i, none⟩ = false := by
  obtain ⟨cur, hb, _, hc⟩ := h; exact (cells_of hb).2 i
theorem Row.drew {w : World} {g : Nat} {l : List Nat} (h : Row w g l) : Row w.drew g l := h
theorem Row.set {w : World} {g : Nat} {l : List Nat} (h : Row w g l) (i : Nat) (x : Nat) : Row (w.setCell ⟨g, i, none⟩ (.int .u8 (x : Int))) g (l.set i x) := by
  obtain ⟨cur, hb, hs, hc⟩ := h
  refine ⟨_, heap_setCell_same w g i cur _ _ hb, by simpa using hs, fun j hj => ?_⟩
  rw [List.length_set] at hj
  rw [Array.getElem?_setIfInBounds, List.getElem_set]
  by_cases e : i = j
  · subst e; rw [if_pos rfl, if_pos (by omega), if_pos rfl]
  · rw [if_neg e, if_neg e]; exact hc j hj
def SpOut (B : Nat) (p : List Nat × Bool) (e : Ending) (w' : World) : Prop := ∃ v, e = .returned (.tuple #[v, .bool p.2]) ∧ IsRet w' B v p.1
def bitOf (pos : Int) : Nat := (pos % 2048).toNat
theorem bitOf_lt (pos : Int) : bitOf pos < 2048 := by unfold bitOf; omega
theorem bit_neg (pos : Int) (h : pos.tmod 2048 < 0) : wrap64 (pos.tmod 2048 + 2048) = ((bitOf pos : Nat) : Int) := by
  unfold bitOf wrap64
  rw [Int.tmod_eq_emod] at h ⊢
  split at h <;> rename_i h1
  · omega
  · rw [if_neg h1]
    have : ((2048 : Int).natAbs : Int) = 2048 := rfl
    omega
theorem bit_pos (pos : Int) (h : 0 ≤ pos.tmod 2048) : pos.tmod 2048 = ((bitOf pos : Nat) : Int) := by
  unfold bitOf
  rw [Int.tmod_eq_emod] at h ⊢
  split at h <;> rename_i h1
  · rw [if_pos h1]; omega
  · exfalso
    have : ((2048 : Int).natAbs : Int) = 2048 := rfl
    omega
set_option maxRecDepth 100000 in
set_option maxHeartbeats 3200000 in
theorem spoilt_256 {w : World} {b o : Nat} {l : List Nat} {cap : Nat} (pos : Int) (ch : Nat) (_hch : ch < 4294967296) (_hp : -9223372036854775808 ≤ pos ∧ pos ≤ 9223372036854775807) (hb : IsBytes w (some ⟨b, o, none⟩) l) (h256 : l.length = 256) (_hc : 256 ≤ cap) (_hm : cap ≤ 9223372036854775807) :
    Calls Tryd.prog 43 #[.slice (some ⟨b, o, none⟩) 256 cap, .int .i64 pos, .int .u32 (ch : Int)] w fun e w' => SpOut w.heap.size (spoil l (bitOf pos) ch 32) e w' ∧ Upd [] w w' := by
  obtain ⟨i0, hi, hz0, hz1, hz2⟩ := info_parts infoByte
  have HB := Lib.hid hb
  have HL := Lib.hid h256
  clear hb h256
  go_enter Tryd.func43, Tryd.ntmps43
  go_wp2_with (at_builtin; refine wpList_append_blk w rfl (.tmp 13) (.tmp 14) 27 rfl w.heap.size 5 i0 _ 1 1 Tryd.underlying27 hi hz0 hz1 hz2 rfl (by decide) (.slice none 0 0) 0 [] rfl (World.ownsRow_nil _ _ _ _) ⟨b, o, none⟩ 256 cap (u8s l) rfl (by rw [show (u8s l).length = l.length by simp [u8s], HL.out]) HB.out.news (by intro u hu; unfold u8s at hu; obtain ⟨x, _, rfl⟩ := List.mem_map.1 hu; rfl) (by decide) (by decide) (Nat.le_refl _) ?_; intro v1 w1 g1 m1; have G1 := Lib.hid g1; have M1 := Lib.hid m1; clear g1 m1)
  all_goals
    first | rw [bit_neg pos (by assumption)] | rw [bit_pos pos (by assumption)]
    have hB := bitOf_lt pos
    obtain ⟨B, hBB⟩ : ∃ B, bitOf pos = B := ⟨_, rfl⟩
    rw [hBB] at hB ⊢
    have HBB := Lib.hid hBB
    clear hBB
    obtain ⟨_, ⟨_, h0⟩ | ⟨g, cap1, cur, rfl, hg, hcur, hc1, hm1, hcs, htk⟩⟩ := G1.out
    · cases h0
    have hrow : Row w1 g (spoil l B ch 0).1 := by
      refine ⟨cur, hcur, by rw [hcs]; show l.length ≤ _; have := HL.out; omega, fun j hj => ?_⟩
      have e : (cur.toList.take ((0 + 256) * 1))[j]? = ([] ++ u8s l)[j]? := by rw [htk]
      have hj' : j < l.length := hj
      rw [List.getElem?_take_of_lt (by have := HL.out; omega), List.nil_append, u8s_get, List.getElem?_eq_getElem hj'] at e
      show cur[j]? = some (.int .u8 ((l[j] : Nat) : Int))
      simpa using e
    have HROW := Lib.hid hrow
    have HG := Lib.hid hg
    have HCAP := Lib.hid (show 256 ≤ cap1 by omega)
    have HCM := Lib.hid (show cap1 ≤ 9223372036854775807 by unfold maxLen at hm1; omega)
    have HU1 := Lib.hid (show Upd [] w w1 from M1.out.upd)
    clear G1 M1 hcur hc1 hm1 hcs htk hrow hg
    go_loopw [10, 11] (fun tv i wr => ∃ k : Nat, k ≤ 32 ∧ i = .int .i64 k ∧ tv = .bool (spoil l B ch k).2 ∧ Row wr g (spoil l B ch k).1 ∧ Upd [g] w1 wr) (fun _ i _ => 32 - (intOf i).toNat)
    case atStart => exact ⟨0, by omega, rfl, rfl, HROW.out, Upd.refl _ _⟩
    case round =>
      obtain ⟨k, hk, rfl, rfl, hR, hU⟩ := hrel
      have HR := Lib.hid hR
      have HU := Lib.hid hU
      clear hR hU
      have HSL := Lib.hid (show (spoil l B ch k).1.length = 256 by rw [(spoil_is HB.out.1 B ch k).1, HL.out])
      have HSO := Lib.hid (spoil_is HB.out.1 B ch k).2.1
      by_cases hlt : k < 32
      · by_cases hn : B + k < 2048
        · have d1 : decide ((B : Int) + (k : Int) < 2048) = true := decide_eq_true (by omega)
          have hcq : ((ch : Int) / 2 ^ k).tmod 2 = ((ch / 2 ^ k % 2 : Nat) : Int) := by
            rw [show (ch : Int) / 2 ^ k = ((ch / 2 ^ k : Nat) : Int) by push_cast; rfl]; rfl
          by_cases hbit : ch / 2 ^ k % 2 = 1
          · have k1 : (((ch : Int) / 2 ^ k).tmod 2 == 1) = true := by rw [hcq, hbit]; rfl
            have k2 : decide (((ch : Int) / 2 ^ k).tmod 2 = 1) = true := by rw [hcq, hbit]; rfl
            have hs : spoil l B ch (k + 1) = (flip (spoil l B ch k).1 (B + k), true) := by
              show (if B + k < 8 * l.length ∧ ch / 2 ^ k % 2 = 1 then _ else _) = _
              rw [if_pos ⟨by have := HL.out; omega, hbit⟩]
            have HSP := Lib.hid hs
            have hlk : (B + k) / 8 < (spoil l B ch k).1.length := by rw [HSL.out]; omega
            have hcell := HR.out.cell _ hlk
            have hfz := HR.out.fz ((B + k) / 8)
            have HFL := Lib.hid (show flip (spoil l B ch k).1 (B + k) = (spoil l B ch k).1.set ((B + k) / 8) ((spoil l B ch k).1[(B + k) / 8] ^^^ 2 ^ ((B + k) % 8)) by
              unfold flip
              rw [List.getD_eq_getElem?_getD, List.getElem?_eq_getElem hlk]; rfl)
            have hx256 : (spoil l B ch k).1[(B + k) / 8] < 256 := HSO.out _ (List.getElem_mem hlk)
            generalize (spoil l B ch k).1[(B + k) / 8] = x at hcell HFL hx256
            clear hs hcq
            go_upto_region 14 with fail
            go_region
            go_wp2
            go_roundw
            case rel =>
              have hv : bits .xor .u8 (x : Int) (2 ^ ((B + k) % 8) % 256) = ((x ^^^ 2 ^ ((B + k) % 8) : Nat) : Int) := by
                have h8 : 2 ^ ((B + k) % 8) < 256 := Nat.pow_lt_pow_right (a := 2) (by decide) (Nat.mod_lt _ (show 0 < 8 by decide))
                rw [show ((2 : Int) ^ ((B + k) % 8) % 256) = ((2 ^ ((B + k) % 8) % 256 : Nat) : Int) by push_cast; rfl, Nat.mod_eq_of_lt h8, u8_xor_nat _ _ hx256 h8]
              have hr := HR.out.set ((B + k) / 8) (x ^^^ 2 ^ ((B + k) % 8))
              rw [← hv] at hr
              exact ⟨k + 1, by omega, by go_num, by rw [HSP.out], by rw [HSP.out]; simp only [HFL.out]; exact hr.drew, (HU.out.setCell (.inl (by simp)) _).drew⟩
            case measure => simp [intOf]; omega
          · have k1 : (((ch : Int) / 2 ^ k).tmod 2 == 1) = false := by rw [hcq, beq_eq_false_iff_ne]; omega
            have k2 : decide (((ch : Int) / 2 ^ k).tmod 2 = 1) = false := decide_eq_false (by rw [hcq]; omega)
            have hs : spoil l B ch (k + 1) = spoil l B ch k := by
              show (if B + k < 8 * l.length ∧ ch / 2 ^ k % 2 = 1 then _ else _) = _
              rw [if_neg fun h => hbit h.2]
            have HSP := Lib.hid hs
            clear hs hcq
            go_wp2
            go_roundw
            case rel => exact ⟨k + 1, by omega, by go_num, by rw [HSP.out], by rw [HSP.out]; exact HR.out, HU.out⟩
            case measure => simp [intOf]; omega
        · have d1 : decide ((B : Int) + (k : Int) < 2048) = false := decide_eq_false (by omega)
          have hs : spoil l B ch (k + 1) = spoil l B ch k := by
            show (if B + k < 8 * l.length ∧ _ then _ else _) = _
            rw [if_neg (by have := HL.out; omega)]
          have HSP := Lib.hid hs
          clear hs
          go_wp2
          go_roundw
          case rel => exact ⟨k + 1, by omega, by go_num, by rw [HSP.out], by rw [HSP.out]; exact HR.out, HU.out⟩
          case measure => simp [intOf]; omega
      · obtain rfl : k = 32 := by omega
        go_wp2
        go_ret2
        obtain ⟨cur, hcur, hcs, hce⟩ := HR.out
        have hlow := HG.out
        rw [HBB.out]
        refine ⟨⟨.slice (some ⟨g, 0, none⟩) 256 cap1, rfl, HSO.out, .inr ⟨g, cap1, cur, _, _, ?_, hlow, ?_, HCM.out, hcur, hce⟩⟩, HU1.out.step HU.out (fun y hy => .inr (by simp at hy; omega))⟩
        · rw [HSL.out]
        · rw [HSL.out]; exact HCAP.out
set_option maxRecDepth 100000 in
set_option maxHeartbeats 1600000 in
theorem spoilt_empty {w : World} {a : Option Addr} {cap : Nat} (pos ch : Int) :
    Calls Tryd.prog 43 #[.slice a 0 cap, .int .i64 pos, .int .u32 ch] w fun e w' => e = .returned (.tuple #[.slice none 0 0, .bool false]) ∧ Upd [] w w' := by
  cases a
  all_goals
    go_enter Tryd.func43, Tryd.ntmps43
    go_wp2
    go_ret2
    exact ⟨rfl, Upd.refl _ _⟩
/-- What is handed back of any sector, or of none. -/
def spoilR (l : List Nat) (pos : Int) (ch : Nat) : List Nat × Bool := if l = [] then ([], false) else spoil l (bitOf pos) ch 32
theorem spoilt_ret {w : World} {B : Nat} {v : Value} {l : List Nat} (pos : Int) (ch : Nat) (hch : ch < 4294967296) (hp : -9223372036854775808 ≤ pos ∧ pos ≤ 9223372036854775807) (h : IsRet w B v l) (hl : l = [] ∨ l.length = 256) :
    Calls Tryd.prog 43 #[v, .int .i64 pos, .int .u32 (ch : Int)] w fun e w' => SpOut w.heap.size (spoilR l pos ch) e w' ∧ Upd [] w w' := by
  obtain ⟨a, c, rfl, hb, _, hc, hm⟩ := h.slice
  rcases hl with rfl | hl
  · refine (spoilt_empty (a := a) (cap := c) pos (ch : Int)).mono fun e w' ⟨h1, h2⟩ => ?_
    subst h1
    exact ⟨⟨_, rfl, IsRet.nil _ _⟩, h2⟩
  · obtain ⟨b, o, rfl, _⟩ := hb.2 0 (by omega)
    have hne : ¬ l = [] := fun e => by rw [e] at hl; simp at hl
    have := spoilt_256 (cap := c) pos ch hch hp hb hl (by omega) hm
    rw [hl]
    unfold spoilR
    rw [if_neg hne]
    exact this
end Go.Proofs.YtkahpkmofeglgaaDoor
