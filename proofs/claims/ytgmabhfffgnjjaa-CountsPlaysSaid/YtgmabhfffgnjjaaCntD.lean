/-
  PROVED HERE: Undo of package counts. Conditions: those that each theorem names.
-/
import Derived.Test.YtgmabhfffgnjjaaCntC
import Derived.Test.YtgmabhfffgnjjaaOrder
import Derived.Shelf.SlIterI.Stops
import Derived.RangeFuncBox
import Derived.RangeFuncLeaves
import Derived.RangeFuncWrites
import Derived.Shelf.Abstract
import Derived.OwnWalkIn
import Derived.TacticsInMore
import Derived.LoopNIn
import Derived.LoopIn
namespace Go.Proofs.Ytgmabhfffgnjjaa
open Go.RowKit Go.Shelf Go.Maps Go.Sort

attribute [local go_sem] Oper.semAt_some

/-- A key of a map. -/
def KeyOf (M : Int → Option Value) : Type := { x : Int // (M x).isSome = true }
set_option maxRecDepth 100000 in
set_option maxHeartbeats 4000000 in
theorem ckeys1_in (F : Fence) (n : Nat) (h7 : F.fn 36) (hro : F.round = none) (hn : 1 ≤ n) (l Bm b : Nat) (M : Int → Option Value) (D0 : DataW Value) (hD : ∀ x, viewAt D0 x = M x) (J Jx : List (KeyOf M) → World → Prop)
    (hY : ∀ pre x W, J pre W → pre.length < Maps.size D0 → YieldAt F (n - 1) Try.prog l #[encZ x.1] W fun e W' =>
      (e = .returned (.bool true) ∧ J (pre ++ [x]) W' ∧ KeepsWalks W W') ∨ (e = .returned (.bool false) ∧ Jx (pre ++ [x]) W'))
    (W : World) (hJ : AbidesFrom W.heap.size J) (hm : W.cell? ⟨Bm, 0, none⟩ = some (.map (some b))) (hown : W.ownsMap Try.prog 3 heldR b (Maps.size D0) D0) (h0 : J [] W) :
    CallsIn F n Try.prog 36 #[.func (.yield l) #[] #[], .pointer (some ⟨Bm, 0, none⟩)] W fun e W' => (∃ v, e = .returned v) ∧
      ((∃ ss : List (KeyOf M), (∀ x, (M x).isSome = true → ∃ y ∈ ss, y.1 = x) ∧ J ss W') ∨ (∃ pre : List (KeyOf M), True ∧ Jx pre W')) := by
  refine callsIn_of_wp Try.func36 rfl h7 ?_ hro
  simp only [Try.ntmps36, List.size_toArray, List.length_cons, List.length_nil, Nat.reduceAdd, Nat.reduceSub, Array.replicate_succ, Array.replicate_zero, List.push_toArray, List.append_toArray, List.nil_append, List.cons_append]
  have HD := Lib.hid hD
  clear hD
  gi_wp2_with (first
    | (gi_at_range; refine wpListIn_range_own _ rfl _ 44 rfl 3 3 (int_keyed Try.underlying3) Try.underlying44 _ b (Maps.size D0) _ rfl hown ?_; intro w0 hrg0 hg0 hs0)
    | gi_in)
  go_frame
  gi_loopw [3] (fun _ wr => ∃ (left : Lit → Bool) (cnt : Nat) (ss : List (KeyOf M)), wr.ranges Try.prog 3 heldR b W.heap.size (Maps.size D0) D0 left cnt ∧ ss.length + cnt ≤ Maps.size D0 ∧ (∀ x, (M x).isSome = true → left (.int .i64 x) = true ∨ ∃ y ∈ ss, y.1 = x) ∧ J ss wr)
    (fun _ wr => wr.rangeLeft b W.heap.size)
  case atStart =>
    refine ⟨_, _, [], hrg0, by simp, fun x hx => .inl ?_, hJ [] W w0 none h0 hg0 (fun r e => by cases e)⟩
    rw [has_view hown Try.underlying3 x, HD.out]; exact hx
  case round =>
    obtain ⟨left, cnt, ss, hrg, hcs, hC, hJs⟩ := hrel
    have HC := Lib.hid hC
    clear hC
    gi_wp2_with (first
      | (gi_at_next; refine wpListIn_next_ranges _ rfl _ rfl 3 (int_keyed Try.underlying3) heldR encZ id (fun key kl hk => by obtain ⟨x, hx, _⟩ := Maps.keyOf_i64 Try.underlying3 hk; exact ⟨x, hx⟩) (fun v _ _ => ⟨v, rfl⟩) b W.heap.size (Maps.size D0) _ _ _ rfl hrg ?_ ?_)
      | gi_in)
    · intro hc0 hl0
      have HL0 := Lib.hid hl0
      clear hl0 hc0
      gi_wp2
      go_end0
      refine ⟨⟨_, rfl⟩, .inl ⟨ss, fun x hx => ?_, hJs⟩⟩
      rcases HC.out x hx with h | h
      · rw [HL0.out] at h; cases h
      · exact h
    · intro x c kl yd yp w2 cnt2 hkey hlk hv hat hrg2 hlt hg2 hs2 hen
      obtain ⟨x', ex, rfl, _⟩ := Maps.keyOf_i64 Try.underlying3 hkey
      obtain rfl : x = x' := encZ_inj ex
      have hMx : M x = some c := by
        have := heldR_inv hv
        simp only [Prod.mk.injEq] at this
        obtain ⟨rfl, _⟩ := this
        rw [← HD.out x]; simp [viewAt, hat]
      have hJ2 : J ss w2 := hJ ss wr w2 (some W.heap.size) hJs hg2 (fun r e => by cases e; exact ⟨Nat.le_refl _, hrg.iter_walk⟩)
      obtain ⟨kx, hkx⟩ : ∃ y : KeyOf M, y.1 = x := ⟨⟨x, by rw [hMx]; rfl⟩, rfl⟩
      obtain ⟨fn, tmps, assign, body, hy, hR⟩ := hY ss kx w2 hJ2 (by omega)
      rw [hkx] at hy
      have HR := Lib.hid hR
      have HKX := Lib.hid hkx
      clear hs2 hR hMx hkx
      gi_wp2
      refine HR.out.mono ?_
      rintro e W3 (⟨rfl, hJ3, hk3⟩ | ⟨rfl, hJx3⟩)
      · gi_wp2
        have hrg3 := hrg2.of_walks hk3
        go_roundw
        case rel =>
          refine ⟨_, cnt2, ss ++ [kx], hrg3, by simp; omega, fun z hz => ?_, hJ3⟩
          by_cases e : z = x
          · exact .inr ⟨kx, List.mem_append_right _ (List.mem_singleton.2 rfl), HKX.out.trans e.symm⟩
          · rcases HC.out z hz with h | ⟨y, hy1, hy2⟩
            · refine .inl ?_
              simp [h, Lit.sameKey, e]
            · exact .inr ⟨y, List.mem_append_left _ hy1, hy2⟩
        case measure => rw [hrg3.left_eq, hrg.left_eq]; exact hlt
      · gi_wp2
        refine bodyPost_ret (results_none rfl _ _ _) rfl ?_
        exact ⟨⟨_, rfl⟩, .inr ⟨_, trivial, hJx3⟩⟩
theorem ckeys_stops (F : Fence) (n : Nat) (h7 : F.fn 36) (hro : F.round = none) (hn : 1 ≤ n) (Bm b : Nat) (M : Int → Option Value) (D0 : DataW Value) (hD : ∀ x, viewAt D0 x = M x) (w : World) (hB : Bm < w.heap.size)
    (hm : w.cell? ⟨Bm, 0, none⟩ = some (.map (some b))) (hown : w.ownsMap Try.prog 3 heldR b (Maps.size D0) D0) :
    SeqStopsK F n Try.prog 36 #[.pointer (some ⟨Bm, 0, none⟩)] (fun x : KeyOf M => #[encZ x.1]) KeepsWalks (fun ss => ∀ x, (M x).isSome = true → ∃ y ∈ ss, y.1 = x) (fun _ => True) (Maps.size D0) w := fun l J Jx W hW hJ _ hY h0 => by
  have hown' : W.ownsMap Try.prog 3 heldR b (Maps.size D0) D0 := by
    have hbl := hown.lt
    obtain ⟨es, clock, hb, Ft, hs, hD⟩ := hown
    exact ⟨es, clock, (hW.block b hbl).trans hb, Ft, hs, hD⟩
  exact ckeys1_in F n h7 hro hn l Bm b M D0 hD J Jx hY W hJ ((hW.cell (p := ⟨Bm, 0, none⟩) hB).trans hm) hown' h0
theorem ckeys_in (F : Fence) (n : Nat) (h5 : F.fn 28) (hro : F.round = none) (mb : Option Nat) (w : World) :
    CallsIn F n Try.prog 28 #[.map mb] w fun e w' => e = .returned (.func (.func 36) #[] #[.pointer (some ⟨w.heap.size, 0, none⟩)]) ∧ w' = w.alloc (.cells #[.map mb] 44) := by
  refine callsIn_of_wp Try.func28 rfl h5 ?_ hro
  simp only [Try.ntmps28, List.size_toArray, List.length_cons, List.length_nil, Nat.reduceAdd, Nat.reduceSub, Array.replicate_succ, Array.replicate_zero, List.push_toArray, List.append_toArray, List.nil_append, List.cons_append]
  gi_wp2
  go_ret
  exact ⟨rfl, rfl⟩
/-- Between two rounds of Undo: what has come of the keys is as it was. -/
structure URnd (w : World) (b g m : Nat) (s : Ct) (M : Int → Option Value) (xs : List (KeyOf M)) (W : World) : Prop where
  box : W.heap[w.heap.size]? = some (.cells #[.pointer (some ⟨b, 0, none⟩)] 26 (0, 0))
  hd : W.heap[b]? = some (.cells #[.slice (some ⟨g, 0, none⟩) s.now.length s.now.length, .map (some m)] 46 (0, 0))
  row : ∃ l : List Int, W.heap[g]? = some (.cells (i64s l).toArray 3 (0, 0)) ∧ l.length = s.now.length ∧ (∀ x ∈ xs, ∀ i : Nat, x.1 = (i : Int) → l.getD i 0 = s.old.getD i 0) ∧ ∀ i : Nat, l.getD i 0 = s.old.getD i 0 ∨ l.getD i 0 = s.now.getD i 0
  map : IMap Try.prog 3 W m M
  upd : Upd [g] w W
theorem IMap.grown {P : Program} {k : TypeId} {w w' : World} {b : Nat} {M : Int → Option Value} (h : IMap P k w b M) {row : Option Nat} (hg : w.grownBy w' row) (hr : row ≠ some b) : IMap P k w' b M := h.upd (Upd.of_grown hg) (by
  cases row with
  | none => simp
  | some r => simp only [Option.toList_some, List.mem_singleton]; exact fun e => hr (by rw [e]))
theorem urnd_own {w : World} {b g m Bl : Nat} {s : Ct} {M : Int → Option Value} (hB : w.heap.size < Bl) (hb : b < w.heap.size) (hg : g < w.heap.size) (hm : m < w.heap.size) : OwnFrom Bl (URnd w b g m s M) := by
  intro xs A B row h hgr hr
  have u := Upd.of_grown hgr
  have hne : ∀ {x : Nat}, x < Bl → x ∉ row.toList := fun hx hm => by
    cases row with
    | none => simp at hm
    | some r => simp only [Option.toList_some, List.mem_singleton] at hm; have := (hr r rfl).1; omega
  obtain ⟨l, h1, h2⟩ := h.row
  exact ⟨u.get h.box (hne hB), u.get h.hd (hne (by omega)), ⟨l, u.get h1 (hne (by omega)), h2⟩, h.map.upd u (hne (by omega)), h.upd.step u fun x hx => .inr (by
    rcases Nat.lt_or_ge x Bl with h | h
    · exact absurd hx (hne h)
    · omega)⟩
end Go.Proofs.Ytgmabhfffgnjjaa
