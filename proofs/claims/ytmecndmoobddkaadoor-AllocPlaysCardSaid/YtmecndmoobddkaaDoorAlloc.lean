/-
  PROVED HERE: what each function of package alloc does to the block that holds an allocator. Conditions: the block is the allocator's, whole; the table of math/bits lies as its text lays it.
-/
import Derived.Test.YtmecndmoobddkaaDoorRows
import Derived.Test.YtmecndmoobddkaaDoorAllocPlain
import Derived.RegionTactic
import Derived.BigRegion
import Derived.Laws.Bits64b
import Derived.Laws.BitsAllLaws
import Derived.Lib.TrailingZeros
namespace Go.Proofs.YtmecndmoobddkaaDoor
open Go.RowKit

/-- Block b is an allocator in state s. -/
def IsA (w : World) (b : Nat) (s : St) : Prop := w.heap[b]? = some (.cells s.cells 48 (0, 0)) ∧ s.ok
theorem IsA.cell {w : World} {b : Nat} {s : St} (h : IsA w b s) (j : Nat) (hj : j < 65) : w.cell? ⟨b, j, none⟩ = some (s.cell j) := by
  rw [(cells_of h.1).1, s.cells_get, if_pos hj]
theorem IsA.upd {w w' : World} {b : Nat} {s : St} {S : List Nat} (h : IsA w b s) (u : Upd S w w') (hs : b ∉ S) : IsA w' b s := ⟨u.get h.1 hs, h.2⟩
abbrev pt (b : Nat) : Value := .pointer (some ⟨b, 0, none⟩)

set_option maxHeartbeats 400000 in
theorem there_any {b : Nat} {s : St} {p : Int} {w : World} (h : IsA w b s) :
    Calls Tryd.prog 30 #[pt b, .int .i64 p] w fun e w' => e = .returned (.bool (s.there p)) ∧ w' = w := by
  have hc : w.cell? ⟨b, 0, none⟩ = some (.int .i64 (s.n : Int)) := h.cell 0 (by decide)
  unfold St.there
  clear h
  by_cases h0 : 0 ≤ p
  · go_enter Tryd.func30, Tryd.ntmps30
    go_wp2
    go_ret
    exact ⟨by simp [h0], rfl⟩
  · go_enter Tryd.func30, Tryd.ntmps30
    go_wp2
    go_ret
    exact ⟨by simp; omega, rfl⟩

theorem bit_test (F : Nat) (p : Int) (hp : 0 ≤ p) : (bits BinOp.and IntKind.u64 ((wd F (p / 64).toNat : Int) / 2 ^ (p % 64).toNat) 1 == 1) = F.testBit p.toNat := by
  have h1 := wd_lt F (p / 64).toNat
  have h2 : (wd F (p / 64).toNat : Int) / 2 ^ (p % 64).toNat = ((wd F (p / 64).toNat / 2 ^ (p % 64).toNat : Nat) : Int) := by simp
  rw [h2, show (1 : Int) = ((1 : Nat) : Int) from rfl, bits_and_u64_nat _ _ (Nat.lt_of_le_of_lt (Nat.div_le_self _ _) h1) (by decide), Nat.and_one_is_mod,
    show (p / 64).toNat = p.toNat / 64 by omega, show (p % 64).toNat = p.toNat % 64 by omega, wd_at]
  cases F.testBit p.toNat <;> rfl

set_option maxHeartbeats 400000 in
theorem isFree_any {b : Nat} {s : St} {p : Int} {w : World} (h : IsA w b s) :
    Calls Tryd.prog 23 #[pt b, .int .i64 p] w fun e w' => e = .returned (.bool (s.isFree p)) ∧ w' = w := by
  unfold St.isFree
  cases ht : s.there p
  · have Ht := Lib.hid ht; clear ht
    go_enter Tryd.func23, Tryd.ntmps23
    go_wp2_with (go_at_call 30; refine (there_any h).mono ?_; rintro e w' ⟨rfl, rfl⟩; rw [Ht.out])
    go_ret
    exact ⟨rfl, rfl⟩
  · have Ht := Lib.hid ht; clear ht
    have hp : 0 ≤ p ∧ p < s.n := by simpa [St.there] using Ht.out
    have hn := h.2.2.1
    have hc := h.cell (1 + (p / 64).toNat) (by omega)
    rw [St.cell, if_neg (by omega), if_pos (by omega), show 1 + (p / 64).toNat - 1 = (p / 64).toNat by omega, u64] at hc
    have hb := bit_test s.F p hp.1
    obtain ⟨hp0, hp1⟩ := hp
    go_enter Tryd.func23, Tryd.ntmps23
    go_wp2_with (go_at_call 30; refine (there_any h).mono ?_; rintro e w' ⟨rfl, rfl⟩; rw [Ht.out])
    go_ret
    exact ⟨by simp, rfl⟩

/-- A block whose cells have been turned at one place. -/
theorem IsA.setU {w : World} {b : Nat} {s : St} (h : IsA w b s) (i : Nat) (v : Value) : (w.setCell ⟨b, i, none⟩ v).drew.heap[b]? = some (.cells (s.cells.setIfInBounds i v) 48 (0, 0)) :=
  heap_setCell_same w b i s.cells _ v h.1
theorem IsA.put {w : World} {b i : Nat} {s s' : St} {v : Value} (h : w.heap[b]? = some (.cells (s.cells.setIfInBounds i v) 48 (0, 0))) (hok : s'.ok)
    (hc : ∀ j, j < 65 → s'.cell j = if j = i then v else s.cell j) : IsA w b s' := by
  refine ⟨?_, hok⟩
  rw [h]
  congr 2
  refine s'.cells_of _ (by simp [s.cells_size]) fun j hj => ?_
  rw [hc j hj, Array.getElem?_setIfInBounds, s.cells_size, s.cells_get, if_pos hj]
  by_cases e : i = j
  · subst e; simp [hj]
  · simp [e, Ne.symm e]
theorem wrap_pow (p : Int) (hp : 0 ≤ p) : IntKind.u64.wrap (2 ^ (p % 64).toNat) = ((2 ^ (p.toNat % 64) : Nat) : Int) := by
  have h1 : 2 ^ (p.toNat % 64) < 2 ^ 64 := Nat.pow_lt_pow_right (by decide) (Nat.mod_lt _ (by decide))
  rw [show (p % 64).toNat = p.toNat % 64 by omega, IntKind.wrap_u64]
  have e : (2 : Int) ^ (p.toNat % 64) = ((2 ^ (p.toNat % 64) : Nat) : Int) := by simp
  rw [e]
  generalize 2 ^ (p.toNat % 64) = x at *
  omega
theorem clr_word (F : Nat) (p : Int) (hp : 0 ≤ p) (_h : p < 1024) : bits BinOp.andNot IntKind.u64 (wd F (p / 64).toNat : Int) (IntKind.u64.wrap (2 ^ (p % 64).toNat)) = (wd (clr F p.toNat) (p.toNat / 64) : Int) := by
  rw [wrap_pow p hp, u64_andNot_nat _ _ (wd_lt _ _) (by rw [show 18446744073709551616 = 2 ^ 64 by decide]; exact Nat.pow_lt_pow_right (by decide) (Nat.mod_lt _ (by decide))), wd_clr, if_pos rfl, show (p / 64).toNat = p.toNat / 64 by omega]
theorem put_word (F : Nat) (p : Int) (hp : 0 ≤ p) (_h : p < 1024) : bits BinOp.or IntKind.u64 (wd F (p / 64).toNat : Int) (IntKind.u64.wrap (2 ^ (p % 64).toNat)) = (wd (put F p.toNat) (p.toNat / 64) : Int) := by
  rw [wrap_pow p hp, u64_or_nat _ _ (wd_lt _ _) (by rw [show 18446744073709551616 = 2 ^ 64 by decide]; exact Nat.pow_lt_pow_right (by decide) (Nat.mod_lt _ (by decide))), wd_put, if_pos rfl, show (p / 64).toNat = p.toNat / 64 by omega]

set_option maxHeartbeats 400000 in
theorem mark_any {b : Nat} {s : St} {p : Int} {w : World} (h : IsA w b s) :
    Calls Tryd.prog 15 #[pt b, .int .i64 p] w fun e w' => e = .returned (.bool (s.isFree p)) ∧ IsA w' b (s.mark p) ∧ Upd [b] w w' := by
  cases hf : s.isFree p
  · have hm : s.mark p = s := by simp [St.mark, hf]
    rw [hm]
    have Hf := Lib.hid hf; clear hf hm
    go_enter Tryd.func15, Tryd.ntmps15
    go_wp2_with (go_at_call 23; refine (isFree_any h).mono ?_; rintro e w' ⟨rfl, rfl⟩; rw [Hf.out])
    go_ret
    exact ⟨rfl, by assumption, Upd.refl _ _⟩
  · have hp : 0 ≤ p ∧ p < s.n := by
      have : s.there p = true := by simp only [St.isFree, Bool.and_eq_true] at hf; exact hf.1
      simpa [St.there] using this
    have hok := St.mark_ok h.2 p
    have hm : s.mark p = { s with F := clr s.F p.toNat } := by simp [St.mark, hf]
    have Hm := Lib.hid hm
    have Hf := Lib.hid hf
    clear hf hm
    have hn := h.2.2.1
    have hc := h.cell (1 + (p / 64).toNat) (by omega)
    rw [St.cell, if_neg (by omega), if_pos (by omega), show 1 + (p / 64).toNat - 1 = (p / 64).toNat by omega, u64] at hc
    have hz := (cells_of h.1).2 (1 + (p / 64).toNat)
    obtain ⟨hp0, hp1⟩ := hp
    have H := Lib.hid h
    clear h
    go_enter Tryd.func15, Tryd.ntmps15
    go_wp2_with (go_at_call 23; refine (isFree_any H.out).mono ?_; rintro e w' ⟨rfl, rfl⟩; rw [Hf.out])
    go_region
    go_wp2
    go_ret
    have he := clr_word s.F p hp0 (by omega)
    rw [he, Hm.out]
    rw [Hm.out] at hok
    refine ⟨by simp, IsA.put (H.out.setU (1 + (p / 64).toNat) _) hok fun j hj => ?_, ((Upd.refl _ _).setCell (.inl (by simp)) _).drew⟩
    simp only [St.cell, wd_clr]
    have e1 : (p / 64).toNat = p.toNat / 64 := by omega
    rw [e1]
    by_cases ej : j = 1 + p.toNat / 64
    · subst ej
      rw [if_neg (by omega), if_pos (by omega), if_pos (by omega), if_pos rfl]
      simp [u64]
    · rw [if_neg ej]
      by_cases h0 : j = 0
      · rw [if_pos h0, if_pos h0]
      · by_cases h1 : j ≤ 16
        · rw [if_neg h0, if_neg h0, if_pos h1, if_pos h1, if_neg (by omega)]
        · rw [if_neg h0, if_neg h0, if_neg h1, if_neg h1]
end Go.Proofs.YtmecndmoobddkaaDoor
