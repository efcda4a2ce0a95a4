/-
  PROVED HERE: what package codec's reader does: numbers are taken from the bytes that are left. Conditions: the reader's block is its own, and does not hold the bytes; as many are left as are taken.
-/
import Derived.Test.YtgmabhfffgnjjaaFramed
namespace Go.Proofs.Ytgmabhfffgnjjaa
open Go.RowKit

/-- Block r is a reader of which the bytes l are left; they lie in block q. -/
structure IsRd (w : World) (r : Nat) (q : Option Nat) (l : List Nat) : Prop where
  blk : ∃ a cap, w.heap[r]? = some (.cells #[.slice a l.length cap] 70 (0, 0)) ∧ IsBytes w a l ∧ l.length ≤ cap ∧ cap ≤ maxLen ∧ (∀ b o, a = some ⟨b, o, none⟩ → some b = q)
  ne : some r ≠ q
theorem IsRd.upd {w w' : World} {r : Nat} {q : Option Nat} {l : List Nat} {S : List Nat} (h : IsRd w r q l) (u : Upd S w w') (hr : r ∉ S) (hq : ∀ b, q = some b → b ∉ S) : IsRd w' r q l := by
  obtain ⟨⟨a, cap, hb, hy, h1, h2, h3⟩, h4⟩ := h
  exact ⟨⟨a, cap, u.get hb hr, hy.upd u (fun b o e => hq b (h3 b o e).symm), h1, h2, h3⟩, h4⟩
theorem IsBytes.drop {w : World} {b o : Nat} {l : List Nat} (h : IsBytes w (some ⟨b, o, none⟩) l) (k : Nat) : IsBytes w (some ⟨b, o + k, none⟩) (l.drop k) :=
  ⟨BytesOk.drop h.1 k, fun i hi => by
    rw [List.length_drop] at hi
    obtain ⟨b', o', e, hc⟩ := h.2 (k + i) (by omega)
    cases e
    exact ⟨b, o + k, rfl, by rw [List.getElem_drop, Nat.add_assoc]; exact hc⟩⟩
theorem IsRd.moved {w : World} {r n cap' : Nat} {q : Option Nat} {x : Value} {a' : Option Addr} {l' : List Nat} (hb : w.heap[r]? = some (.cells #[x] 70 (0, 0))) (hy : IsBytes w a' l') (hn : n = l'.length)
    (hc : n ≤ cap') (hm : cap' ≤ maxLen) (hq : ∀ b o, a' = some ⟨b, o, none⟩ → some b = q) (hne : some r ≠ q) : IsRd (w.setCell ⟨r, 0, none⟩ (.slice a' n cap')) r q l' ∧ Upd [r] w (w.setCell ⟨r, 0, none⟩ (.slice a' n cap')) := by
  subst hn
  have hu : Upd [r] w (w.setCell ⟨r, 0, none⟩ (.slice a' l'.length cap')) := (Upd.refl _ _).setCell (.inl (by simp)) _
  refine ⟨⟨⟨a', cap', by simpa using heap_setCell_same w r 0 _ _ (.slice a' l'.length cap') hb, hy.upd hu fun b o e hm => ?_, hc, hm, hq⟩, hne⟩, hu⟩
  rw [List.mem_singleton] at hm
  subst hm
  exact hne (hq _ _ e)
theorem numi_snoc {l : List Nat} {b : Nat} (hm : num l < 72057594037927936) (hb : b < 256) : numi (l ++ [b]) = bits .or .i64 (wrap64 ((num l : Int) * 256)) (b : Int) := by
  rw [shift_or _ _ hm hb]; unfold numi; rw [num_snoc]
set_option maxRecDepth 100000 in
set_option maxHeartbeats 1600000 in
theorem get_any {w : World} {r k : Nat} {q : Option Nat} {l : List Nat} (h : IsRd w r q l) (hk : k ≤ 8) (h1 : k ≤ l.length) :
    Calls Try.prog 42 #[pt r, .int .i64 k] w fun e w' => e = .returned (.int .i64 (numi (l.take k))) ∧ IsRd w' r q (l.drop k) ∧ Upd [r] w w' := by
  obtain ⟨⟨a, cap, hb, hy, hc, hm, hq⟩, hne⟩ := h
  have hcell := (cells_of hb).1 0
  have hfz := (cells_of hb).2 0
  simp only [List.getElem?_toArray, List.getElem?_cons_zero] at hcell
  unfold maxLen at hm
  have HB := Lib.hid hb
  have HY := Lib.hid hy
  have HQ := Lib.hid hq
  have HNE := Lib.hid hne
  clear hb hy hq hne
  go_enter Try.func42, Try.ntmps42
  go_wp2
  go_loop [5, 7, 15] (fun n _ i => ∃ j : Nat, j ≤ k ∧ i = .int .i64 j ∧ n = .int .i64 (numi (l.take j))) (fun _ _ i => k - (intOf i).toNat)
  case atStart => exact ⟨0, by omega, rfl, by rw [List.take_zero, numi_nil]⟩
  case round =>
    obtain ⟨j, hj, rfl, rfl⟩ := hrel
    by_cases hlt : j < k
    · obtain ⟨b, o, rfl, hcj⟩ := HY.out.2 j (by omega)
      have hv := HY.out.1 l[j] (List.getElem_mem (by omega))
      have ht : BytesOk (l.take j) := BytesOk.take HY.out.1 j
      have hn := num_lt ht
      have hp : 256 ^ (l.take j).length ≤ 256 ^ 7 := Nat.pow_le_pow_right (by decide) (by rw [List.length_take]; omega)
      have h7 : (256 : Nat) ^ 7 = 72057594037927936 := by decide
      have hm7 : num (l.take j) < 72057594037927936 := by omega
      have hst : numi (l.take (j + 1)) = bits .or .i64 (wrap64 ((num (l.take j) : Int) * 256)) (l[j] : Int) := by
        rw [List.take_succ_eq_append_getElem (by omega), numi_snoc hm7 hv]
      have hni := numi_eq ht (by rw [List.length_take]; omega)
      rw [hni]
      have HST := Lib.hid hst
      clear hn hp h7 hni hst ht
      generalize num (l.take j) = m at *
      generalize l[j] = v at *
      go_wp2
      go_round
      case rel => exact ⟨j + 1, by omega, by go_num, by rw [HST.out]⟩
      case measure => simp [intOf]; omega
    · obtain rfl : j = k := by omega
      go_wp2
      all_goals go_ret
      · subst h
        have e : l.drop cap = [] := List.drop_eq_nil_of_le hc
        have := IsRd.moved (l' := l.drop cap) (a' := a) (n := l.length - cap) (cap' := 0) HB.out ⟨BytesOk.drop HY.out.1 _, fun i hi => by rw [e] at hi; cases hi⟩ (by simp) (by omega) (by decide) HQ.out HNE.out
        exact ⟨rfl, this.1, this.2⟩
      · have hy : IsBytes w (Option.map (fun x => x.add j) a) (l.drop j) := by
          refine ⟨BytesOk.drop HY.out.1 _, fun i hi => ?_⟩
          rw [List.length_drop] at hi
          obtain ⟨b, o, rfl, hcj⟩ := HY.out.2 (j + i) (by omega)
          exact ⟨b, o + j, by simp [add_off], by rw [List.getElem_drop, Nat.add_assoc]; exact hcj⟩
        have hq : ∀ b o, Option.map (fun x => Addr.add x j) a = some ⟨b, o, none⟩ → some b = q := by
          intro b o e
          by_cases h0 : j = 0
          · subst h0
            refine HQ.out b o ?_
            cases a with
            | none => simp at e
            | some x => simpa [Addr.add] using e
          · obtain ⟨b', o', rfl, _⟩ := HY.out.2 0 (by omega)
            rw [Option.map_some, add_off] at e
            cases e
            exact HQ.out _ _ rfl
        have := IsRd.moved (l' := l.drop j) (n := l.length - j) (cap' := cap - j) HB.out hy (by simp) (by omega) (by unfold maxLen; omega) hq HNE.out
        exact ⟨rfl, this.1, this.2⟩
end Go.Proofs.Ytgmabhfffgnjjaa
