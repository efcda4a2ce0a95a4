/-
  PROVED HERE: a step on both disks: a read. Conditions: those that each theorem names.
-/
import Derived.Test.YtpnpjffhkaejgaaDoesB
namespace Go.Proofs.Ytpnpjffhkaejgaa
open Go.RowKit

/-- A row of bytes beside the two disks, that may be written. -/
def RowT (w wr : World) (d r : Nat) (K : List (Nat × Obj)) (S T : Dk) (v : Value) (n : Nat) : Prop :=
  (n = 0 ∧ (∃ a cap, v = .slice a 0 cap) ∧ Two w wr d r K S T) ∨ ∃ g cap cur, v = .slice (some ⟨g, 0, none⟩) n cap ∧ 0 < n ∧ (∀ i, i < n → ∃ y : Int, cur[i]? = some (.int .u8 y)) ∧ w.heap.size ≤ g ∧ (∀ p ∈ K, p.1 ≠ g) ∧ Two w wr d r ((g, .cells cur 5 (0, 0)) :: K) S T
section
variable {w wr : World} {d r : Nat} {K : List (Nat × Obj)} {S T : Dk} {v : Value} {n : Nat}
theorem RowT.two (h : RowT w wr d r K S T v n) : Two w wr d r K S T := by
  rcases h with ⟨_, _, h⟩ | ⟨g, cap, cur, _, _, _, _, _, h⟩
  · exact h
  · exact h.drop fun p hp => List.mem_cons_of_mem _ hp
theorem RowT.slice (h : RowT w wr d r K S T v n) : ∃ a cap, v = .slice a n cap := by
  rcases h with ⟨rfl, h, _⟩ | ⟨g, cap, cur, h, _⟩
  · exact h
  · exact ⟨_, _, h⟩
theorem RowT.up {w' : World} (h : RowT w wr d r K S T v n) (u : Upd [] wr w') : RowT w w' d r K S T v n := by
  rcases h with ⟨h1, h2, h⟩ | ⟨g, cap, cur, h1, h2, h3, h4, h5, h⟩
  · exact .inl ⟨h1, h2, h.up u⟩
  · exact .inr ⟨g, cap, cur, h1, h2, h3, h4, h5, h.up u⟩
theorem RowT.at (h : RowT w wr d r K S T v n) {i : Nat} (hi : i < n) : ∃ g cap, v = .slice (some ⟨g, 0, none⟩) n cap ∧ (∃ y : Int, wr.cell? ⟨g, i, none⟩ = some (.int .u8 y)) ∧ wr.frozen? ⟨g, i, none⟩ = false ∧ ∀ y : Int, RowT w (wr.setCell ⟨g, i, none⟩ (.int .u8 y)) d r K S T v n := by
  rcases h with ⟨h1, h2, h⟩ | ⟨g, cap, cur, h1, h2, h3, h4, h5, h⟩
  · omega
  · have hb := h.get (List.mem_cons_self ..)
    obtain ⟨k1, k2⟩ := cells_of hb
    obtain ⟨y, hy⟩ := h3 i hi
    refine ⟨g, cap, h1, ⟨y, by rw [k1, hy]⟩, k2 i, fun z => .inr ⟨g, cap, cur.setIfInBounds i (.int .u8 z), h1, h2, fun j hj => ?_, h4, h5, ?_⟩⟩
    · rw [Array.getElem?_setIfInBounds]
      split
      · subst_vars
        have : j < cur.size := by
          by_cases q : j < cur.size
          · exact q
          · rw [Array.getElem?_eq_none (by omega)] at hy; cases hy
        exact ⟨z, by simp [this]⟩
      · exact h3 j hj
    · exact h.put h4 h5 ((Upd.refl [g] wr).setCell (.inl (by simp)) _) (heap_setCell_same wr g i _ _ _ hb)
/-- The blocks of K1 are those of a row that is new. -/
def KRow (B : Nat) (K1 : List (Nat × Obj)) (v : Value) : Prop := (∀ x ∈ v.ownBlock.toList, ∃ o, (x, o) ∈ K1) ∧ ∀ p ∈ K1, B ≤ p.1
theorem two_row {F G : Nat → Prop} {B : Nat} {l : List Nat} (h1 : DiskX wr d F S) (h2 : RefX wr r G T) (h3 : ∀ x, F x → ¬ G x) (h4 : ∀ y, F y → w.heap.size ≤ y) (h5 : ∀ y, G y → w.heap.size ≤ y) (h6 : ∀ p ∈ K, ¬ F p.1 ∧ ¬ G p.1 ∧ wr.heap[p.1]? = some p.2) (h7 : Upd [] w wr)
    (hF : ∀ x, F x → x < B) (hG : ∀ x, G x → x < B) (hr : IsRow wr B v l) : ∃ K1, KRow B K1 v ∧ Two w wr d r (K1 ++ K) S T := by
  obtain ⟨⟨hl, ⟨rfl, e⟩ | ⟨g, cap, cur, rfl, hg, hb, hc, hm, hs, ht⟩⟩, ok⟩ := hr
  · exact ⟨[], ⟨by simp [Value.ownBlock], by simp⟩, F, G, h1, h2, h3, h4, h5, h6, h7⟩
  · refine ⟨[(g, .cells cur 5 (0, 0))], ⟨fun x hx => ?_, by simpa using hg⟩, F, G, h1, h2, h3, h4, h5, fun p hp => ?_, h7⟩
    · have : x = g := by simpa [Value.ownBlock] using hx
      exact ⟨_, by rw [this]; exact List.mem_cons_self ..⟩
    · rcases List.mem_cons.1 hp with rfl | hp
      · exact ⟨fun e => by have := hF _ e; dsimp only at this; omega, fun e => by have := hG _ e; dsimp only at this; omega, hb⟩
      · exact h6 p hp
theorem KRow.row {B C : Nat} {K1 : List (Nat × Obj)} {w1 w2 : World} {S1 T1 S2 T2 : Dk} {l : List Nat} (hk : KRow C K1 v) (hr : IsRow w1 B v l) (h1 : Two w w1 d r (K1 ++ K) S1 T1) {K2 : List (Nat × Obj)} (h2 : Two w w2 d r K2 S2 T2) (h12 : ∀ p ∈ K1, p ∈ K2) : IsRow w2 B v l := by
  obtain ⟨⟨hl, ⟨rfl, h0⟩ | ⟨g, cap, cur, rfl, hg, hb, q⟩⟩, ok⟩ := hr
  · exact ⟨⟨hl, .inl ⟨rfl, h0⟩⟩, ok⟩
  · obtain ⟨o, ho⟩ := hk.1 g (by simp [Value.ownBlock])
    have e1 := h1.get (List.mem_append_left K ho)
    have e2 := h2.get (h12 _ ho)
    rw [hb] at e1
    cases e1
    exact ⟨⟨hl, .inr ⟨g, cap, cur, rfl, hg, e2, q⟩⟩, ok⟩
theorem KRow.rowT {B C : Nat} {K1 K2 : List (Nat × Obj)} {l : List Nat} (hk : KRow C K1 v) (hr : IsRow wr B v l) (h : Two w wr d r K2 S T) (h1 : ∀ p ∈ K1, p ∈ K2) (hK : ∀ p ∈ K, p ∈ K2 ∧ p.1 < C) (hw : w.heap.size ≤ C) (hn : l.length = n) : RowT w wr d r K S T v n := by
  subst hn
  obtain ⟨⟨hl, ⟨rfl, h0⟩ | ⟨g, cap, cur, rfl, hg, hb, hc, hm, hs, ht⟩⟩, ok⟩ := hr
  · exact .inl ⟨h0, ⟨none, 0, rfl⟩, h.drop fun p hp => (hK p hp).1⟩
  · by_cases hz : l.length = 0
    · exact .inl ⟨hz, ⟨_, cap, by rw [hz]⟩, h.drop fun p hp => (hK p hp).1⟩
    · obtain ⟨o, ho⟩ := hk.1 g (by simp [Value.ownBlock])
      have hC : C ≤ g := hk.2 _ ho
      have e1 := h.get (h1 _ ho)
      rw [hb] at e1
      cases e1
      refine .inr ⟨g, cap, cur, rfl, by omega, fun i hi => ?_, by omega, fun p hp e => ?_, h.drop fun p hp => ?_⟩
      · have e : (cur.toList.take (l.length * 1))[i]? = (u8s l)[i]? := by rw [ht]
        rw [List.getElem?_take_of_lt (by omega), u8s_get, List.getElem?_eq_getElem hi] at e
        exact ⟨(l[i] : Nat), by simpa using e⟩
      · have := (hK p hp).2
        omega
      · rcases List.mem_cons.1 hp with rfl | hp
        · exact h1 _ ho
        · exact (hK p hp).1
theorem Two.low (h : Two w wr d r K S T) : ∀ p ∈ K, p.1 < wr.heap.size := fun p hp => lt_of_block (h.get (g := p.1) (o := p.2) hp)
/-- What a read answers, with its row kept. -/
def ReadK (w : World) (d r : Nat) (K : List (Nat × Obj)) (S T : Dk) (B : Nat) (o : List Nat × Int) (e : Ending) (w' : World) : Prop := ∃ v K1, e = .returned (.tuple #[v, .int .i64 o.2]) ∧ IsRow w' B v o.1 ∧ KRow B K1 v ∧ Two w w' d r (K1 ++ K) S T
theorem td_readK (h : Two w wr d r K S T) (p c : Int) : Calls Try.prog 12 #[.pointer (some ⟨d, 0, none⟩), .int .i64 p, .int .i64 c] wr (ReadK w d r K (S.read p c).2 T wr.heap.size (S.read p c).1) := by
  obtain ⟨F, G, h1, h2, h3, h4, h5, h6, h7⟩ := h
  refine (x_read h1 p c).mono fun e w' ⟨⟨v, k1, k1'⟩, k2, k3⟩ => ?_
  have u : UpdP F wr w' := k3.p (F := F) (by simpa using h1.fd)
  obtain ⟨K1, q1, q2⟩ := two_row (K := K) k2 (h2.upd u fun x hg hf => h3 x hf hg) h3 h4 h5 (fun p hp => ⟨(h6 p hp).1, (h6 p hp).2.1, u.get (h6 p hp).2.2 (h6 p hp).1⟩) ((h7.p (F := fun _ => False) (by simp)).step u fun x hx => .inr (h4 x hx)).upd0 h1.old h2.old k1'
  exact ⟨v, K1, k1, k1', q1, q2⟩
theorem tr_readK (h : Two w wr d r K S T) (p c : Int) : Calls Try.prog 25 #[.pointer (some ⟨r, 0, none⟩), .int .i64 p, .int .i64 c] wr (ReadK w d r K S (T.read p c).2 wr.heap.size (T.read p c).1) := by
  obtain ⟨F, G, h1, ⟨L, h2⟩, h3, h4, h5, h6, h7⟩ := h
  refine (rread_any h2 p c).mono fun e w' ⟨⟨v, k1, k1'⟩, k2, k3⟩ => ?_
  have u : UpdP G wr w' := k3.p (F := G) (by simpa using h2.fr)
  obtain ⟨K1, q1, q2⟩ := two_row (K := K) (h1.upd u h3) ⟨L, k2⟩ h3 h4 h5 (fun p hp => ⟨(h6 p hp).1, (h6 p hp).2.1, u.get (h6 p hp).2.2 (h6 p hp).2.1⟩) ((h7.p (F := fun _ => False) (by simp)).step u fun x hx => .inr (h5 x hx)).upd0 h1.old h2.old k1'
  exact ⟨v, K1, k1, k1', q1, q2⟩
def DataK (w : World) (d r : Nat) (K : List (Nat × Obj)) (S T : Dk) (B : Nat) (l : List Nat) (e : Ending) (w' : World) : Prop := ∃ v K1, e = .returned v ∧ IsRow w' B v l ∧ KRow B K1 v ∧ Two w w' d r (K1 ++ K) S T
theorem t_data (h : Two w wr d r K S T) (k a c b f : Int) (u : Bool) (p : Value) :
    Calls Try.prog 14 #[.agg #[.int .i64 k, .int .i64 a, .int .i64 c, .int .i64 b, .int .i64 f, .bool u, p]] wr (DataK w d r K S T wr.heap.size (opData c b f)) := by
  obtain ⟨F, G, h1, h2, h3, h4, h5, h6, h7⟩ := h
  refine (data_any k a c b f u p).mono fun e w' ⟨⟨v, k1, k1'⟩, k3⟩ => ?_
  obtain ⟨K1, q1, q2⟩ := two_row (K := K) (h1.up k3 (by simp)) (h2.up k3 (by simp)) h3 h4 h5 (fun p hp => ⟨(h6 p hp).1, (h6 p hp).2.1, k3.get (h6 p hp).2.2 (by simp)⟩) (h7.trans k3) h1.old h2.old k1'
  exact ⟨v, K1, k1, k1', q1, q2⟩
end
end Go.Proofs.Ytpnpjffhkaejgaa
