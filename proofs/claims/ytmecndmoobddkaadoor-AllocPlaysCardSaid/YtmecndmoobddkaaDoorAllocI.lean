/-
  PROVED HERE: two lists of entries that are the same are told to be the same. Conditions: both are lists of entries in memory of their own, the first not in the block of the second.
-/
import Derived.Test.YtmecndmoobddkaaDoorAllocH
namespace Go.Proofs.YtmecndmoobddkaaDoor
open Go.RowKit

theorem ents_at (l : List (Nat × Nat)) (i : Nat) (hi : i < l.length) : (ents l)[i * 2]? = some (.int .i64 (l[i].1 : Int)) ∧ (ents l)[i * 2 + 1]? = some (.int .i64 (l[i].2 : Int)) := by
  induction l generalizing i with
  | nil => simp at hi
  | cons x l ih =>
    cases i with
    | zero => exact ⟨rfl, rfl⟩
    | succ i =>
      have := ih i (by simpa using hi)
      rw [show (i + 1) * 2 = i * 2 + 2 by omega, show i * 2 + 2 + 1 = (i * 2 + 1) + 2 by omega]
      exact this
/-- The block of such a list, whole. -/
theorem IsEnts.block {w : World} {B : Nat} {v : Value} {l : List (Nat × Nat)} (h : IsEnts w B v l) (hl : l ≠ []) :
    ∃ g c cur, v = .slice (some ⟨g, 0, none⟩) l.length c ∧ B ≤ g ∧ w.heap[g]? = some (.cells cur 32 (0, 0)) ∧ l.length * 2 ≤ cur.size ∧ l.length ≤ 9223372036854775807 ∧
      ∀ i (hi : i < l.length), cur[i * 2]? = some (.int .i64 (l[i].1 : Int)) ∧ cur[i * 2 + 1]? = some (.int .i64 (l[i].2 : Int)) := by
  obtain ⟨hlen, h2⟩ := h
  rcases h2 with ⟨rfl, h0⟩ | ⟨g, cap, cur, rfl, hg, hb, hn, hc, hcs, ht⟩
  · exact absurd (List.length_eq_zero_iff.1 h0) hl
  · have hgen : ∀ j, j < l.length * 2 → cur[j]? = (ents l)[j]? := by
      intro j hj
      rw [← ht, List.getElem?_take_of_lt hj]; simp
    refine ⟨g, cap, cur, rfl, hg, hb, by rw [hcs]; omega, by unfold maxLen at hc; omega, fun i hi => ?_⟩
    rw [hgen _ (by omega), hgen _ (by omega)]
    exact ents_at l i hi
theorem Upd.drewN {S : List Nat} {a w : World} (h : Upd S a w) (n : Nat) : Upd S a (w.drewN n) := ⟨h.os, h.tape, h.output, h.size, h.block⟩
theorem build_none : ∀ w, (Instr.build 32 #[(0, .int .i64 (-1))]).run Tryd.prog w = .ok (.agg #[.int .i64 (-1), .int .i64 0]) w := fun w => by kernel_rfl

set_option maxHeartbeats 1600000 in
theorem entries_same {w : World} {B1 B2 : Nat} {v1 v2 : Value} {l : List (Nat × Nat)} (h1 : IsEnts w B1 v1 l) (h2 : IsEnts w B2 v2 l) (hsep : v1.ownBlock ≠ v2.ownBlock ∨ l = []) :
    Calls Tryd.prog 25 #[v1, v2] w fun e w' => e = .returned (.bool true) ∧ Upd v1.ownBlock.toList w w' := by
  by_cases hl : l = []
  · subst hl
    obtain ⟨a1, c1, rfl⟩ := h1.shape
    obtain ⟨a2, c2, rfl⟩ := h2.shape
    clear h1 h2 hsep
    go_enter Tryd.func25, Tryd.ntmps25
    go_wp2
    go_loop [5, 6] (fun s i => s = .bool true ∧ i = .int .i64 0) (fun _ _ => 0)
    case atStart => exact ⟨by simp, rfl⟩
    case round =>
      obtain ⟨rfl, rfl⟩ := hrel
      go_wp2
      go_ret
      exact ⟨rfl, Upd.refl _ _⟩
  · obtain ⟨g1, c1, cur1, rfl, hg1, hb1, hs1, hn1, hat1⟩ := h1.block hl
    obtain ⟨g2, c2, cur2, rfl, hg2, hb2, hs2, hn2, hat2⟩ := h2.block hl
    have hne : g1 ≠ g2 := by
      rcases hsep with h | h
      · intro e; apply h; simp [Value.ownBlock, e]
      · exact absurd h hl
    have HB1 := Lib.hid hb1
    have HB2 := Lib.hid hb2
    have HAT1 := Lib.hid hat1
    have HAT2 := Lib.hid hat2
    have HS1 := Lib.hid hs1
    clear hb1 hb2 hat1 hat2 hs1 hs2 h1 h2 hsep hl
    show Calls _ _ _ w fun e w' => e = .returned (.bool true) ∧ Upd [g1] w w'
    go_enter Tryd.func25, Tryd.ntmps25
    go_wp2
    go_loopw [5, 6] (fun s i wr => ∃ k : Nat, k ≤ l.length ∧ i = .int .i64 k ∧ s = .bool true ∧ Upd [g1] w wr ∧ ∃ cs, wr.heap[g1]? = some (.cells cs 32 (0, 0)) ∧ cs.size = cur1.size ∧ Hid (∀ j, k * 2 ≤ j → cs[j]? = cur1[j]?)) (fun _ i _ => l.length - (intOf i).toNat)
    case atStart => exact ⟨0, by omega, rfl, by simp, Upd.refl _ _, cur1, HB1.out, rfl, fun j _ => rfl⟩
    case round =>
      obtain ⟨k, hk, rfl, rfl, hU, cs, hb, hsz, hcs⟩ := hrel
      by_cases hlt : k < l.length
      · have hb2 := hU.get HB2.out (by simp; omega)
        obtain ⟨p1, p2⟩ := HAT1.out k hlt
        obtain ⟨q1, q2⟩ := HAT2.out k hlt
        have d1 : wr.cell? ⟨g1, k * 2, none⟩ = some (.int .i64 (l[k].1 : Int)) := by rw [(cells_of hb).1, hcs.out _ (by omega), p1]
        have d2 : wr.cell? ⟨g1, k * 2 + 1, none⟩ = some (.int .i64 (l[k].2 : Int)) := by rw [(cells_of hb).1, hcs.out _ (by omega), p2]
        have d3 : wr.cell? ⟨g2, k * 2, none⟩ = some (.int .i64 (l[k].1 : Int)) := by rw [(cells_of hb2).1, q1]
        have d4 : wr.cell? ⟨g2, k * 2 + 1, none⟩ = some (.int .i64 (l[k].2 : Int)) := by rw [(cells_of hb2).1, q2]
        have HB := Lib.hid hb
        have HU := Lib.hid hU
        have HSZ := Lib.hid hsz
        clear hb hb2 hU hsz p1 p2 q1 q2
        go_wp2
        go_quiet (fail)
        go_wp2_with (first
          | (refine wpList_build rfl 32 #[(0, .const (.int .i64 (-1)))] rfl [(0, .int .i64 (-1))] rfl _ (build_none _) ?_)
          | (refine wpList_store_part rfl 32 (.tmp 33) (.tmp 32) rfl g1 (k * 2) #[.int .i64 (-1), .int .i64 0] rfl rfl _ _ _ HB.out (by kernel_rfl) (by have := HS1.out; have := HSZ.out; simp; omega) (by simp [Value.oneCell']) rfl ?_; intro w1 hb1 hu1 _))
        go_roundw
        case rel =>
          refine ⟨k + 1, by omega, by go_num, by simp, (HU.out.drewN nq).trans hu1, _, hb1, ?_, fun j hj => ?_⟩
          · rw [splice_size _ _ _ (by have := HS1.out; have := HSZ.out; simp; omega)]; exact HSZ.out
          · rw [splice_get _ _ _ (by have := HS1.out; have := HSZ.out; simp; omega), if_neg (by simp; omega)]
            exact hcs.out j (by omega)
        case measure => simp [intOf]; omega
      · obtain rfl : k = l.length := by omega
        go_wp2
        go_ret
        exact ⟨rfl, hU⟩
end Go.Proofs.YtmecndmoobddkaaDoor
