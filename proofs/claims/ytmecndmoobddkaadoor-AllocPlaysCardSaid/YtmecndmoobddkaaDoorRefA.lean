/-
  PROVED HERE: what the reference's allocator (polderref08) does: it stands for the same plain state. Conditions: its blocks are its own.
-/
import Derived.Test.YtmecndmoobddkaaDoorAllocJ
namespace Go.Proofs.YtmecndmoobddkaaDoor
open Go.RowKit

/-- A page's state as a number: free, taken, dropped. -/
def pst (F D q : Nat) : Int := if F.testBit q then 0 else if D.testBit q then 2 else 1
/-- No page is free and dropped at once. -/
def St.clean (s : St) : Prop := (∀ q, s.D.testBit q = true → s.F.testBit q = false) ∧ (∀ q, s.SD.testBit q = true → s.SF.testBit q = false)
/-- A row of numbers in a block, with spare room behind. -/
def Holds (w : World) (g n : Nat) (f : Nat → Int) : Prop := ∃ cs, w.heap[g]? = some (.cells cs 3 (0, 0)) ∧ n ≤ cs.size ∧ ∀ q, q < n → cs[q]? = some (.int .i64 (f q))
theorem Holds.upd {w w' : World} {g n : Nat} {f : Nat → Int} {S : List Nat} (h : Holds w g n f) (u : Upd S w w') (hs : g ∉ S) : Holds w' g n f := by
  obtain ⟨cs, hb, r⟩ := h
  exact ⟨cs, u.get hb hs, r⟩
theorem Holds.cell {w : World} {g n : Nat} {f : Nat → Int} (h : Holds w g n f) {q : Nat} (hq : q < n) : w.cell? ⟨g, q, none⟩ = some (.int .i64 (f q)) := by
  obtain ⟨cs, hb, _, hc⟩ := h
  rw [(cells_of hb).1, hc q hq]
theorem Holds.free {w : World} {g n : Nat} {f : Nat → Int} (h : Holds w g n f) (q : Nat) : w.frozen? ⟨g, q, none⟩ = false := by
  obtain ⟨cs, hb, _, hc⟩ := h
  exact (cells_of hb).2 q
theorem Holds.lt {w : World} {g n : Nat} {f : Nat → Int} (h : Holds w g n f) : g < w.heap.size := by
  obtain ⟨cs, hb, _⟩ := h; exact lt_of_block hb
theorem Holds.set {w : World} {g n : Nat} {f f' : Nat → Int} (h : Holds w g n f) (q : Nat) (hq : q < n) (v : Int) (hf : ∀ i, i < n → f' i = if i = q then v else f i) : Holds (w.setCell ⟨g, q, none⟩ (.int .i64 v)) g n f' := by
  obtain ⟨cs, hb, hn, hc⟩ := h
  refine ⟨_, heap_setCell_same w g q cs _ _ hb, by simpa using hn, fun i hi => ?_⟩
  rw [Array.getElem?_setIfInBounds, hf i hi]
  by_cases e : q = i
  · subst e; rw [if_pos rfl, if_pos rfl, if_pos (by omega)]
  · rw [if_neg e, if_neg (Ne.symm e)]; exact hc i hi
theorem Holds.congr {w : World} {g n : Nat} {f f' : Nat → Int} (h : Holds w g n f) (e : ∀ i, i < n → f i = f' i) : Holds w g n f' := by
  obtain ⟨cs, hb, hn, hc⟩ := h
  exact ⟨cs, hb, hn, fun q hq => by rw [← e q hq]; exact hc q hq⟩
theorem Holds.heap {w w' : World} {g n : Nat} {f : Nat → Int} (h : Holds w g n f) (e : w'.heap = w.heap) : Holds w' g n f := by
  obtain ⟨cs, hb, r⟩ := h
  exact ⟨cs, by rw [e]; exact hb, r⟩

/-- The reference's allocator at r, its two rows at g1 and g2. -/
structure IsR (w : World) (r g1 g2 : Nat) (s : St) : Prop where
  obj : ∃ c1 c2, s.n ≤ c1 ∧ s.n ≤ c2 ∧ w.heap[r]? = some (.cells #[.slice (some ⟨g1, 0, none⟩) s.n c1, .slice (some ⟨g2, 0, none⟩) s.n c2] 52 (0, 0))
  now : Holds w g1 s.n (pst s.F s.D)
  set : Holds w g2 s.n (pst s.SF s.SD)
  ne1 : g1 ≠ r
  ne2 : g2 ≠ r
  ne3 : g1 ≠ g2
  ok : s.ok
  clean : s.clean
theorem IsR.upd {w w' : World} {r g1 g2 : Nat} {s : St} {S : List Nat} (h : IsR w r g1 g2 s) (u : Upd S w w') (hr : r ∉ S) (h1 : g1 ∉ S) (h2 : g2 ∉ S) : IsR w' r g1 g2 s := by
  obtain ⟨⟨c1, c2, k1, k2, ho⟩, hn, hs, a, b, c, d, e⟩ := h
  exact ⟨⟨c1, c2, k1, k2, u.get ho hr⟩, hn.upd u h1, hs.upd u h2, a, b, c, d, e⟩

theorem pst_free (F D q : Nat) : (pst F D q == 0) = F.testBit q := by
  unfold pst; cases F.testBit q <;> cases D.testBit q <;> rfl
theorem pst_taken (F D q : Nat) : (pst F D q == 1) = (!F.testBit q && !D.testBit q) := by
  unfold pst; cases F.testBit q <;> cases D.testBit q <;> rfl
theorem pst_dropped {F D q : Nat} (h : D.testBit q = true → F.testBit q = false) : (pst F D q == 2) = D.testBit q := by
  unfold pst
  cases hf : F.testBit q <;> cases hd : D.testBit q
  · rfl
  · rfl
  · rfl
  · rw [h hd] at hf; cases hf

set_option maxHeartbeats 800000 in
theorem is_any {r g1 g2 : Nat} {s : St} {p st : Int} {w : World} (h : IsR w r g1 g2 s) :
    Calls Tryd.prog 31 #[pt r, .int .i64 p, .int .i64 st] w fun e w' => e = .returned (.bool (s.there p && (pst s.F s.D p.toNat == st))) ∧ w' = w := by
  obtain ⟨⟨c1, c2, k1, k2, ho⟩, hn, hs, _, _, _, hok, _⟩ := h
  have c0 := (cells_of ho).1 0
  have h10 := hok.2.1
  simp only [List.getElem?_toArray, List.getElem?_cons_zero] at c0
  have HH := Lib.hid hn
  clear ho hn hs hok
  by_cases hp : 0 ≤ p
  · by_cases hp2 : p < s.n
    · have ht : s.there p = true := by unfold St.there; exact decide_eq_true ⟨hp, hp2⟩
      rw [ht, Bool.true_and]
      have hc := HH.out.cell (q := p.toNat) (by omega)
      clear ht
      go_enter Tryd.func31, Tryd.ntmps31
      go_wp2
      go_ret
      exact ⟨by simp, rfl⟩
    · have ht : s.there p = false := by unfold St.there; exact decide_eq_false (by omega)
      rw [ht, Bool.false_and]
      clear ht
      go_enter Tryd.func31, Tryd.ntmps31
      go_wp2
      go_ret
      exact ⟨by simp, rfl⟩
  · have ht : s.there p = false := by unfold St.there; exact decide_eq_false (by omega)
    rw [ht, Bool.false_and]
    clear ht
    go_enter Tryd.func31, Tryd.ntmps31
    go_wp2
    go_ret
    exact ⟨by simp, rfl⟩
end Go.Proofs.YtmecndmoobddkaaDoor
