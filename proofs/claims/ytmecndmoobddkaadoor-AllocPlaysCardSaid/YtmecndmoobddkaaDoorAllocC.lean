/-
  PROVED HERE: what New, Drop, Settle, Undo and Runs of package alloc do. Conditions: the block is the allocator's, whole.
-/
import Derived.Test.YtmecndmoobddkaaDoorAllocB
namespace Go.Proofs.YtmecndmoobddkaaDoor
open Go.RowKit

set_option maxHeartbeats 400000 in
theorem new_no {n : Int} {w : World} (h : n < 1 ∨ 1024 < n) :
    Calls Tryd.prog 7 #[.int .i64 n] w fun e w' => e = .returned (.pointer none) ∧ w' = w := by
  rcases h with h | h
  · go_enter Tryd.func7, Tryd.ntmps7
    go_wp2
    go_ret
    exact ⟨rfl, rfl⟩
  · have h' : ¬ n < 1 := by omega
    go_enter Tryd.func7, Tryd.ntmps7
    go_wp2
    go_ret
    exact ⟨rfl, rfl⟩

/-- A new one, some of whose pages are free already. -/
def St.part (n k : Nat) : St := { n, F := 2 ^ k - 1, D := 0, SF := 0, SD := 0 }
theorem St.part_ok {n k : Nat} (h1 : 1 ≤ n) (h2 : n ≤ 1024) (hk : k ≤ n) : (St.part n k).ok := by
  have hz : (0 : Nat) < 2 ^ n := Nat.two_pow_pos _
  have hle : 2 ^ k ≤ 2 ^ n := Nat.pow_le_pow_right (by decide) hk
  have hz2 : (0 : Nat) < 2 ^ k := Nat.two_pow_pos _
  exact ⟨h1, h2, by simp only [St.part]; omega, hz, hz, hz⟩
theorem put_next (k : Nat) : put (2 ^ k - 1) k = 2 ^ (k + 1) - 1 := by
  apply Nat.eq_of_testBit_eq
  intro j
  rw [put_bit, Nat.testBit_two_pow_sub_one, Nat.testBit_two_pow_sub_one, ← Bool.decide_or, decide_eq_decide]
  omega
theorem drop_bits {F : Nat} {p : Int} (h0 : 0 ≤ p) (h1 : p < 1024) : bits BinOp.or IntKind.u64 (wd F (p / 64).toNat : Int) (IntKind.u64.wrap (2 ^ (p % 64).toNat)) = (wd (put F p.toNat) (p.toNat / 64) : Int) := put_word F p h0 h1
def blank (n : Int) : Array Value := #[.int .i64 n] ++ Array.replicate 64 (.int .u64 0)
theorem build_new (n : Int) : ∀ w, (Instr.build 48 #[(0, .int .i64 n)]).run Tryd.prog w = .ok (.agg (blank n)) w := fun w => by kernel_rfl
theorem blank_cells (n : Nat) : blank n = (St.part n 0).cells := by
  refine St.cells_of _ _ (by simp [blank]) fun j hj => ?_
  unfold blank St.cell
  rw [Array.getElem?_append]
  by_cases h0 : j = 0
  · subst h0; simp [St.part]
  · rw [if_neg (by simp; omega), if_neg h0]
    simp only [St.part, Nat.pow_zero, Nat.sub_self, wd_zero, u64, ite_self]
    rw [Array.getElem?_replicate, if_pos (by simp; omega)]
    rfl
theorem cell_plain (s : St) (j : Nat) : (s.cell j).oneCell' = true := by
  unfold St.cell u64
  split
  · rfl
  · split
    · rfl
    · split
      · rfl
      · split <;> rfl
theorem cells_plain (s : St) (a b : Nat) : ∀ x ∈ (s.cells.extract a b).toList, x.oneCell' = true := by
  intro x hx
  have h1 : x ∈ s.cells.toList := by
    rw [Array.toList_extract] at hx
    exact List.mem_of_mem_drop (List.mem_of_mem_take hx)
  simp only [St.cells, List.mem_map] at h1
  obtain ⟨j, _, rfl⟩ := h1
  exact cell_plain s j
theorem ext_size (s : St) (a b : Nat) (hb : b ≤ 65) : (s.cells.extract a b).toList.length = b - a := by
  rw [Array.length_toList, Array.size_extract, s.cells_size, Nat.min_eq_left hb]
theorem ext_get (s : St) (a b i : Nat) (hb : b ≤ 65) (hi : a + i < b) : (s.cells.extract a b).toList[i]? = s.cells[a + i]? := by
  rw [Array.getElem?_toList, Array.getElem?_extract, if_pos (by rw [s.cells_size, Nat.min_eq_left hb]; omega)]
/-- What is settled becomes what is now. -/
theorem save_cells (s : St) : splice s.cells 33 (s.cells.extract 1 33).toList = ({ s with SF := s.F, SD := s.D } : St).cells := by
  have hl := ext_size s 1 33 (by decide)
  have hle : 33 + (s.cells.extract 1 33).toList.length ≤ s.cells.size := by rw [hl, s.cells_size]; decide
  refine St.cells_eq (by rw [splice_size _ _ _ hle, s.cells_size]) ?_ (fun i hi => ?_) (fun i hi => ?_) (fun i hi => ?_) (fun i hi => ?_) <;> rw [splice_get _ _ _ hle, hl]
  · rw [if_neg (by omega)]; exact s.at_n
  · rw [if_neg (by omega)]; exact s.at_F hi
  · rw [if_neg (by omega)]; exact s.at_D hi
  · rw [if_pos (by omega), show 33 + i - 33 = i by omega, ext_get _ _ _ _ (by decide) (by omega)]; exact s.at_F hi
  · rw [if_pos (by omega), show 49 + i - 33 = 16 + i by omega, ext_get _ _ _ _ (by decide) (by omega), show 1 + (16 + i) = 17 + i by omega]; exact s.at_D hi
theorem undo_cells (s : St) : splice s.cells 1 (s.cells.extract 33 65).toList = s.undo.cells := by
  have hl := ext_size s 33 65 (by decide)
  have hle : 1 + (s.cells.extract 33 65).toList.length ≤ s.cells.size := by rw [hl, s.cells_size]; decide
  refine St.cells_eq (by rw [splice_size _ _ _ hle, s.cells_size]) ?_ (fun i hi => ?_) (fun i hi => ?_) (fun i hi => ?_) (fun i hi => ?_) <;> rw [splice_get _ _ _ hle, hl]
  · rw [if_neg (by omega)]; exact s.at_n
  · rw [if_pos (by omega), show 1 + i - 1 = i by omega, ext_get _ _ _ _ (by decide) (by omega)]; exact s.at_SF hi
  · rw [if_pos (by omega), show 17 + i - 1 = 16 + i by omega, ext_get _ _ _ _ (by decide) (by omega), show 33 + (16 + i) = 49 + i by omega]; exact s.at_SD hi
  · rw [if_neg (by omega)]; exact s.at_SF hi
  · rw [if_neg (by omega)]; exact s.at_SD hi
set_option maxHeartbeats 800000 in
theorem new_yes {n : Nat} {w : World} (h1 : 1 ≤ n) (h2 : n ≤ 1024) :
    Calls Tryd.prog 7 #[.int .i64 n] w fun e w' => e = .returned (pt w.heap.size) ∧ IsA w' w.heap.size (St.new n) ∧ Upd [] w w' := by
  have h1' : ¬ ((n : Int) < 1) := by omega
  go_enter Tryd.func7, Tryd.ntmps7
  go_wp2_with (first
    | (refine wpList_build rfl 48 #[(0, .tmp 11)] rfl [(0, .int .i64 n)] rfl _ (build_new n _) ?_)
    | (refine wpList_box rfl 48 (.tmp 12) rfl (.agg (blank n)) rfl ?_))
  go_loopw [15] (fun i wr => ∃ k : Nat, k ≤ n ∧ i = .int .i64 k ∧ IsA wr w.heap.size (St.part n k) ∧ Upd [] w wr) (fun i _ => n - (intOf i).toNat)
  case atStart =>
    refine ⟨0, by omega, rfl, ⟨?_, St.part_ok h1 h2 (by omega)⟩, (Upd.refl _ _).alloc _⟩
    rw [heap_alloc_new, ← blank_cells]
  case round =>
    obtain ⟨k, hk, rfl, hA, hU⟩ := hrel
    have H := Lib.hid hA
    have HU := Lib.hid hU
    generalize hbn : w.heap.size = b at *
    have HBn := Lib.hid hbn
    clear hU hbn
    by_cases hlt : k < n
    · have hc := hA.cell (1 + k / 64) (by omega)
      rw [St.cell, if_neg (by omega), if_pos (by omega), show 1 + k / 64 - 1 = k / 64 by omega, u64] at hc
      have hz := (cells_of hA.1).2 (1 + k / 64)
      clear hA
      go_wp2
      go_region
      go_wp2
      go_roundw
      case rel =>
        refine ⟨k + 1, by omega, by go_num, ?_, (HU.out.setCell (.inr (by have := HBn.out; show w.heap.size ≤ b; omega)) _).drew⟩
        have hw := put_word (St.part n k).F (k : Int) (by omega) (by omega)
        simp only [Int.toNat_natCast, show ((k : Int) / 64).toNat = k / 64 by omega, show ((k : Int) % 64).toNat = k % 64 by omega] at hw
        rw [hw]
        have e1 : (St.part n (k + 1)) = { St.part n k with F := put (St.part n k).F k } := by simp only [St.part, put_next]
        have e2 : (put (St.part n k).F k) = (St.part n (k + 1)).F := by rw [e1]
        refine IsA.put (H.out.setU (1 + k / 64) _) (St.part_ok h1 h2 (by omega)) fun j hj => ?_
        rw [e1]
        simp only [St.cell, wd_put]
        by_cases ej : j = 1 + k / 64
        · subst ej
          rw [if_neg (by omega), if_pos (by omega), if_pos (by omega), if_pos rfl]
          simp [u64]
        · rw [if_neg ej]
          by_cases h0 : j = 0
          · rw [if_pos h0, if_pos h0]
          · by_cases h1 : j ≤ 16
            · rw [if_neg h0, if_neg h0, if_pos h1, if_pos h1, if_neg (by omega)]
            · rw [if_neg h0, if_neg h0, if_neg h1, if_neg h1]
      case measure => simp [intOf]; omega
    · obtain rfl : k = n := by omega
      clear hA
      go_wp2_with (first
        | (refine wpList_load_part rfl 46 (.tmp 38) rfl b 1 32 rfl _ _ _ _ H.out.1 Tryd.underlying46 rfl infoState (by rw [St.cells_size]; decide) ?_)
        | (refine wpList_store_part rfl 46 (.tmp 41) (.tmp 39) rfl b 33 _ rfl rfl _ _ _ H.out.1 (by rw [Array.size_extract, St.cells_size]; exact infoState) (by rw [Array.size_extract, St.cells_size]; decide) (cells_plain _ _ _) (save_cells _) ?_; intro w1 hb1 hu1 _))
      go_ret
      rw [HBn.out]
      exact ⟨rfl, ⟨hb1, St.new_ok h1 h2⟩, HU.out.step hu1 (by have := HBn.out; simp; omega)⟩
set_option maxHeartbeats 800000 in
theorem drop_any {b : Nat} {s : St} {p : Int} {w : World} (h : IsA w b s) :
    Calls Tryd.prog 12 #[pt b, .int .i64 p] w fun e w' => e = .returned (.bool (s.canDrop p)) ∧ IsA w' b (s.drop p) ∧ Upd [b] w w' := by
  have hn := h.2.2.1
  cases ht : s.there p
  · have hc : s.canDrop p = false := by simp [St.canDrop, ht]
    have hd : s.drop p = s := by simp [St.drop, hc]
    have Ht := Lib.hid ht
    have Hc := Lib.hid hc
    have Hd := Lib.hid hd
    have H := Lib.hid h
    clear ht hc hd h
    go_enter Tryd.func12, Tryd.ntmps12
    go_wp2_with (go_at_call 30; refine (there_any H.out).mono ?_; rintro e w' ⟨rfl, rfl⟩; rw [Ht.out])
    go_ret
    rw [Hc.out, Hd.out]
    exact ⟨rfl, H.out, Upd.refl _ _⟩
  · have hp : 0 ≤ p ∧ p < s.n := by simpa [St.there] using ht
    cases hf : s.isFree p
    · have hfb : s.F.testBit p.toNat = false := by simpa [St.isFree, ht] using hf
      have hcD := h.cell (17 + (p / 64).toNat) (by omega)
      rw [St.cell, if_neg (by omega), if_neg (by omega), if_pos (by omega), show 17 + (p / 64).toNat - 17 = (p / 64).toNat by omega, u64] at hcD
      have hz := (cells_of h.1).2 (17 + (p / 64).toNat)
      have hb := bit_test s.D p hp.1
      cases hdd : s.D.testBit p.toNat
      · have hc : s.canDrop p = true := by simp [St.canDrop, ht, hfb, hdd]
        have hd : s.drop p = { s with D := put s.D p.toNat } := by simp [St.drop, hc]
        have hok := St.drop_ok h.2 p
        rw [hd] at hok
        rw [hdd] at hb
        have Ht := Lib.hid ht
        have Hf := Lib.hid hf
        have Hc := Lib.hid hc
        have Hd := Lib.hid hd
        have H := Lib.hid h
        obtain ⟨hp0, hp1⟩ := hp
        clear ht hf hfb hdd hc hd h
        go_enter Tryd.func12, Tryd.ntmps12
        go_wp2_with (first | (go_at_call 30; refine (there_any H.out).mono ?_; rintro e w' ⟨rfl, rfl⟩; rw [Ht.out]) | (go_at_call 23; refine (isFree_any H.out).mono ?_; rintro e w' ⟨rfl, rfl⟩; rw [Hf.out]))
        go_region
        go_wp2
        go_ret
        rw [put_word s.D p hp0 (by omega), Hc.out, Hd.out]
        refine ⟨by simp, IsA.put (H.out.setU (17 + (p / 64).toNat) _) hok fun j hj => ?_, ((Upd.refl _ _).setCell (.inl (by simp)) _).drew⟩
        simp only [St.cell, wd_put]
        have e1 : (p / 64).toNat = p.toNat / 64 := by omega
        rw [e1]
        by_cases ej : j = 17 + p.toNat / 64
        · subst ej
          rw [if_neg (by omega), if_neg (by omega), if_pos (by omega), if_pos (by omega), if_pos rfl]
          simp [u64]
        · rw [if_neg ej]
          by_cases h0 : j = 0
          · rw [if_pos h0, if_pos h0]
          · by_cases h1 : j ≤ 16
            · rw [if_neg h0, if_neg h0, if_pos h1, if_pos h1]
            · by_cases h2 : j ≤ 32
              · rw [if_neg h0, if_neg h0, if_neg h1, if_neg h1, if_pos h2, if_pos h2, if_neg (by omega)]
              · rw [if_neg h0, if_neg h0, if_neg h1, if_neg h1, if_neg h2, if_neg h2]
      · have hc : s.canDrop p = false := by simp [St.canDrop, hdd]
        have hd : s.drop p = s := by simp [St.drop, hc]
        rw [hdd] at hb
        have Ht := Lib.hid ht
        have Hf := Lib.hid hf
        have Hc := Lib.hid hc
        have Hd := Lib.hid hd
        have H := Lib.hid h
        obtain ⟨hp0, hp1⟩ := hp
        clear ht hf hfb hdd hc hd h
        go_enter Tryd.func12, Tryd.ntmps12
        go_wp2_with (first | (go_at_call 30; refine (there_any H.out).mono ?_; rintro e w' ⟨rfl, rfl⟩; rw [Ht.out]) | (go_at_call 23; refine (isFree_any H.out).mono ?_; rintro e w' ⟨rfl, rfl⟩; rw [Hf.out]))
        go_ret
        rw [Hc.out, Hd.out]
        exact ⟨rfl, H.out, Upd.refl _ _⟩
    · have hfb : s.F.testBit p.toNat = true := by simpa [St.isFree, ht] using hf
      have hc : s.canDrop p = false := by simp [St.canDrop, hfb]
      have hd : s.drop p = s := by simp [St.drop, hc]
      have Ht := Lib.hid ht
      have Hf := Lib.hid hf
      have Hc := Lib.hid hc
      have Hd := Lib.hid hd
      have H := Lib.hid h
      clear ht hf hfb hc hd h
      go_enter Tryd.func12, Tryd.ntmps12
      go_wp2_with (first | (go_at_call 30; refine (there_any H.out).mono ?_; rintro e w' ⟨rfl, rfl⟩; rw [Ht.out]) | (go_at_call 23; refine (isFree_any H.out).mono ?_; rintro e w' ⟨rfl, rfl⟩; rw [Hf.out]))
      go_ret
      rw [Hc.out, Hd.out]
      exact ⟨rfl, H.out, Upd.refl _ _⟩

theorem at_dropped (s : St) (k : Nat) (hk : k < 16) : ∀ w, (Instr.index 44 (.agg (s.cells.extract 17 33)) (.int .i64 (k : Int))).run Tryd.prog w = .ok (.int .u64 (wd s.D k : Int)) w :=
  fun w => run_index_agg w Tryd.underlying44 Tryd.underlying43 rfl info64 hk (by
    have := ext_get s 17 33 k (by decide) (by omega)
    rw [Array.getElem?_toList] at this
    rw [this, s.at_D hk]; rfl) _
set_option maxHeartbeats 400000 in
theorem undo_any {b : Nat} {s : St} {w : World} (h : IsA w b s) :
    Calls Tryd.prog 20 #[pt b] w fun e w' => e = .returned (.tuple #[]) ∧ IsA w' b s.undo ∧ Upd [b] w w' := by
  have H := Lib.hid h
  clear h
  go_enter Tryd.func20, Tryd.ntmps20
  go_wp2_with (first
    | (refine wpList_load_part rfl 46 (.tmp 5) rfl b 33 32 rfl _ _ _ _ H.out.1 Tryd.underlying46 rfl infoState (by rw [St.cells_size]; decide) ?_)
    | (refine wpList_store_part rfl 46 (.tmp 8) (.tmp 6) rfl b 1 _ rfl rfl _ _ _ H.out.1 (by rw [Array.size_extract, St.cells_size]; exact infoState) (by rw [Array.size_extract, St.cells_size]; decide) (cells_plain _ _ _) (undo_cells _) ?_; intro w1 hb1 hu1 _))
  go_end0
  exact ⟨rfl, ⟨hb1, St.undo_ok H.out.2⟩, hu1⟩

/-- Settled half way: the words below k are done. -/
def hi (D k : Nat) : Nat := D / 2 ^ (64 * k) * 2 ^ (64 * k)
def lo (D k : Nat) : Nat := D % 2 ^ (64 * k)
def St.half (s : St) (k : Nat) : St := { s with F := s.F ||| lo s.D k, D := hi s.D k }
theorem hi_bit (D k j : Nat) : (hi D k).testBit j = (decide (64 * k ≤ j) && D.testBit j) := by
  unfold hi
  rw [Nat.testBit_mul_two_pow, Nat.testBit_div_two_pow]
  by_cases h : 64 * k ≤ j
  · simp [h]
  · simp [h]
theorem lo_bit (D k j : Nat) : (lo D k).testBit j = (decide (j < 64 * k) && D.testBit j) := by
  unfold lo; rw [Nat.testBit_mod_two_pow]
theorem St.half_zero (s : St) : s.half 0 = s := by
  simp [St.half, hi, lo, Nat.mod_one]
theorem wd_half (s : St) (k i : Nat) : wd (s.half k).F i = if i < k then wd s.F i ||| wd s.D i else wd s.F i := by
  symm
  split
  · rw [← wd_or]
    refine wd_ext (wd_lt _ _) fun j hj => ?_
    rw [wd_bit, St.half, Nat.testBit_or, Nat.testBit_or, lo_bit, show decide (64 * i + j < 64 * k) = true by simp; omega]
    simp [hj]
  · refine wd_ext (wd_lt _ _) fun j hj => ?_
    rw [wd_bit, St.half, Nat.testBit_or, lo_bit, show decide (64 * i + j < 64 * k) = false by simp; omega]
    simp [hj]
theorem wd_halfD (s : St) (k i : Nat) : wd (s.half k).D i = if i < k then 0 else wd s.D i := by
  symm
  split
  · refine wd_ext (by decide) fun j hj => ?_
    rw [St.half, hi_bit, show decide (64 * k ≤ 64 * i + j) = false by simp; omega]
    simp
  · refine wd_ext (wd_lt _ _) fun j hj => ?_
    rw [wd_bit, St.half, hi_bit, show decide (64 * k ≤ 64 * i + j) = true by simp; omega]
    simp [hj]
theorem St.half_ok {s : St} (h : s.ok) (k : Nat) : (s.half k).ok := by
  obtain ⟨a, b, c, d, e⟩ := h
  refine ⟨a, b, lt_of_bits fun j hj => ?_, lt_of_bits fun j hj => ?_, e⟩
  · rw [St.half, Nat.testBit_or, lo_bit, bit_of_lt c hj, bit_of_lt d hj]; simp
  · rw [St.half, hi_bit, bit_of_lt d hj]; simp
theorem St.half_end {s : St} (h : s.ok) {k : Nat} (hk : s.n ≤ 64 * k) : s.half k = { s with F := s.F ||| s.D, D := 0 } := by
  have hd : s.D < 2 ^ (64 * k) := Nat.lt_of_lt_of_le h.2.2.2.1 (Nat.pow_le_pow_right (by decide) hk)
  have e1 : hi s.D k = 0 := by unfold hi; rw [Nat.div_eq_of_lt hd, Nat.zero_mul]
  have e2 : lo s.D k = s.D := Nat.mod_eq_of_lt hd
  rw [St.half, e1, e2]
theorem half_step {s : St} {k : Nat} (hk : k < 16) : (((s.half k).cells.setIfInBounds (1 + k) (u64 (wd s.F k ||| wd s.D k))).setIfInBounds (17 + k) (u64 0)) = (s.half (k + 1)).cells := by
  have hsz : (((s.half k).cells.setIfInBounds (1 + k) (u64 (wd s.F k ||| wd s.D k))).setIfInBounds (17 + k) (u64 0)).size = 65 := by simp [St.cells_size]
  have hget : ∀ j, j < 65 → (((s.half k).cells.setIfInBounds (1 + k) (u64 (wd s.F k ||| wd s.D k))).setIfInBounds (17 + k) (u64 0))[j]? =
      if j = 17 + k then some (u64 0) else if j = 1 + k then some (u64 (wd s.F k ||| wd s.D k)) else (s.half k).cells[j]? := by
    intro j hj
    rw [Array.getElem?_setIfInBounds, Array.getElem?_setIfInBounds, Array.size_setIfInBounds, St.cells_size]
    by_cases h1 : 17 + k = j
    · rw [if_pos h1, if_pos h1.symm, if_pos (by omega)]
    · rw [if_neg h1, if_neg (Ne.symm h1)]
      by_cases h2 : 1 + k = j
      · rw [if_pos h2, if_pos h2.symm, if_pos (by omega)]
      · rw [if_neg h2, if_neg (Ne.symm h2)]
  refine St.cells_eq hsz ?_ (fun i hi => ?_) (fun i hi => ?_) (fun i hi => ?_) (fun i hi => ?_) <;> rw [hget _ (by omega)]
  · rw [if_neg (by omega), if_neg (by omega)]; exact (s.half k).at_n
  · rw [if_neg (by omega), wd_half]
    by_cases e : i = k
    · subst e; rw [if_pos rfl, if_pos (by omega)]
    · rw [if_neg (by omega), St.at_F _ hi, wd_half]
      by_cases h2 : i < k
      · rw [if_pos h2, if_pos (by omega)]
      · rw [if_neg h2, if_neg (by omega)]
  · rw [wd_halfD]
    by_cases e : i = k
    · subst e; rw [if_pos rfl, if_pos (by omega)]
    · rw [if_neg (by omega), if_neg (by omega), St.at_D _ hi, wd_halfD]
      by_cases h2 : i < k
      · rw [if_pos h2, if_pos (by omega)]
      · rw [if_neg h2, if_neg (by omega)]
  · rw [if_neg (by omega), if_neg (by omega)]; exact (s.half k).at_SF hi
  · rw [if_neg (by omega), if_neg (by omega)]; exact (s.half k).at_SD hi

set_option maxHeartbeats 800000 in
theorem settle_any {b : Nat} {s : St} {w : World} (h : IsA w b s) :
    Calls Tryd.prog 13 #[pt b] w fun e w' => e = .returned (.tuple #[]) ∧ IsA w' b s.settle ∧ Upd [b] w w' := by
  have H := Lib.hid h
  have HP := Lib.hid (at_dropped s)
  clear h
  go_enter Tryd.func13, Tryd.ntmps13
  go_wp2_with (refine wpList_load_part rfl 44 (.tmp 7) rfl b 17 16 rfl _ _ _ _ H.out.1 Tryd.underlying44 rfl infoArr (by rw [s.cells_size]; decide) ?_)
  go_loopw [9] (fun i wr => ∃ k : Nat, k ≤ 16 ∧ i = .int .i64 k ∧ IsA wr b (s.half k) ∧ Upd [b] w wr) (fun i _ => 16 - (intOf i).toNat)
  case atStart => exact ⟨0, by omega, rfl, by rw [St.half_zero]; exact H.out, Upd.refl _ _⟩
  case round =>
    obtain ⟨k, hk, rfl, hA, hU⟩ := hrel
    have HA := Lib.hid hA
    have HU := Lib.hid hU
    clear hU
    by_cases hlt : k < 16
    · have hp := HP.out k hlt
      have hc := hA.cell (1 + k) (by omega)
      rw [St.cell_F _ hlt, wd_half, if_neg (by omega), u64] at hc
      have hcD := hA.cell (17 + k) (by omega)
      have hz := (cells_of hA.1).2 (1 + k)
      have hzD := (cells_of hA.1).2 (17 + k)
      have ho := u64_or_nat (wd s.F k) (wd s.D k) (wd_lt _ _) (wd_lt _ _)
      clear hA
      go_wp2
      go_region
      go_wp2
      go_roundw
      case rel =>
        refine ⟨k + 1, by omega, by go_num, ⟨?_, St.half_ok H.out.2 _⟩, ((HU.out.setCell (.inl (by simp)) _).setCell (.inl (by simp)) _).drew⟩
        rw [← half_step hlt]
        refine heap_setCell_same _ b (17 + k) _ _ _ (heap_setCell_same wr b (1 + k) _ _ _ ?_)
        exact HA.out.1
      case measure => simp [intOf]; omega
    · obtain rfl : k = 16 := by omega
      have he := St.half_end H.out.2 (k := 16) (by have := H.out.2.2.1; omega)
      rw [he] at hA
      have HA := Lib.hid hA
      clear hA he
      go_wp2_with (first
        | (refine wpList_load_part rfl 46 (.tmp 36) rfl b 1 32 rfl _ _ _ _ HA.out.1 Tryd.underlying46 rfl infoState (by rw [St.cells_size]; decide) ?_)
        | (refine wpList_store_part rfl 46 (.tmp 39) (.tmp 37) rfl b 33 _ rfl rfl _ _ _ HA.out.1 (by rw [Array.size_extract, St.cells_size]; exact infoState) (by rw [Array.size_extract, St.cells_size]; decide) (cells_plain _ _ _) (save_cells _) ?_; intro w1 hb1 hu1 _))
      go_end0
      exact ⟨rfl, ⟨hb1, St.settle_ok H.out.2⟩, HU.out.trans hu1⟩
end Go.Proofs.YtmecndmoobddkaaDoor
