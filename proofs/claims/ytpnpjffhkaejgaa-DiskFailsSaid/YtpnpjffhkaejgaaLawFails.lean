/-
  PROVED HERE: the statement DiskFails, of any kind and number. Conditions: none.
-/
import Derived.Test.YtpnpjffhkaejgaaLawCuts
namespace Go.Proofs.Ytpnpjffhkaejgaa
open Go.RowKit

theorem LawD.store {w wr : World} {d : Nat} {F : Nat → Prop} {T : List (Nat × Obj)} {S : Dk} {b i : Nat} {cs : Array Value} {t : TypeId} (h : LawD w wr d F ((b, .cells cs t (0, 0)) :: T) S) (hb : w.heap.size ≤ b) (hT : ∀ p ∈ T, p.1 ≠ b) (v : Value) :
    LawD w (wr.setCell ⟨b, i, none⟩ v) d F ((b, .cells (cs.setIfInBounds i v) t (0, 0)) :: T) S := by
  have hbb := h.2.2.1 _ (List.mem_cons_self ..)
  have u : Upd [b] wr (wr.setCell ⟨b, i, none⟩ v) := (Upd.refl [b] wr).setCell (.inl (by simp)) _
  refine ⟨h.1.up u (by simpa using hbb.1), h.2.1, fun p hp => ?_, ((h.2.2.2.p (F := fun _ => False) (by simp)).step (u.p (F := (· = b)) (by simp)) fun x hx => .inr (by omega)).upd0⟩
  rcases List.mem_cons.1 hp with rfl | hp
  · exact ⟨hbb.1, heap_setCell_same wr b i _ _ _ hbb.2⟩
  · have := h.2.2.1 p (List.mem_cons_of_mem _ hp)
    exact ⟨this.1, u.get this.2 (by simpa using hT p hp)⟩
theorem LawD.sub {w wr : World} {d : Nat} {F : Nat → Prop} {T T' : List (Nat × Obj)} {S : Dk} (h : LawD w wr d F T S) (hs : ∀ p ∈ T', p ∈ T) : LawD w wr d F T' S := ⟨h.1, h.2.1, fun p hp => h.2.2.1 p (hs p hp), h.2.2.2⟩
/-- A row that was read is kept, if there is one. -/
theorem LawD.row {w wr : World} {d B n : Nat} {F : Nat → Prop} {T : List (Nat × Obj)} {S : Dk} {e0 : Int} {v : Value} {l : List Nat} (h : LawD w wr d F T S) (hr : IsRow wr B v l) (hB : ∀ y, F y → y < B) (hl : e0 = 0 → l.length = n) (h0 : 0 < n) :
    ∃ T', LawD w wr d F (T ++ T') S ∧ (e0 = 0 → ∃ g cap o, v = .slice (some ⟨g, 0, none⟩) n cap ∧ (g, o) ∈ T' ∧ n ≤ cap ∧ cap ≤ 9223372036854775807 ∧ ∀ W : World, W.heap[g]? = some o → IsBytes W (some ⟨g, 0, none⟩) l) := by
  by_cases he : e0 = 0
  · obtain ⟨g, cap, rfl, hg, hgl, hc1, hc2, hb⟩ := row_some hr (hl he) h0
    have ho : wr.heap[g]? = some wr.heap[g] := Array.getElem?_eq_getElem hgl
    refine ⟨[(g, wr.heap[g])], (h.keep (g := g) (fun hf => by have := hB g hf; omega) ho).sub (fun p hp => by simpa [or_comm] using hp), fun _ => ⟨g, cap, wr.heap[g], rfl, by simp, hc1, hc2, fun W hW => hb.same (by rw [hW, ho])⟩⟩
  · exact ⟨[], by simpa using h, fun e => absurd e he⟩
def boxF (f : Int) : Array Value := #[.int .i64 0, .int .i64 0, .int .i64 1, .int .i64 0, .int .i64 f, .bool false, .slice none 0 0]
theorem FInv.vers {k n i : Nat} {S : Dk} (h : FInv k n i S) (hi : i ≤ 31) : ∀ j, j < S.n → (S.sec j).ver.length ≤ 2000000000000 := fun j _ => by have := h.ver j; omega
set_option maxRecDepth 100000 in
set_option maxHeartbeats 3200000 in
theorem fails_no {k n : Int} (w : World) (hc : k < 1 ∨ 3 < k ∨ n < 1 ∨ 1099511627776 < n) : Calls Try.prog 3 #[.int .i64 k, .int .i64 n] w fun e w' => e = .returned (.bool true) ∧ Upd [] w w' := by
  have HNEW := Lib.hid (ld_new4 (w := w))
  have HKN := Lib.hid known_any
  have he : ∀ S : Dk, S.fail k n = (1, S) := fun S => by unfold Dk.fail; rw [if_pos hc]
  have hc2 : k < 1 ∨ (1 ≤ k ∧ 3 < k) ∨ (1 ≤ k ∧ k ≤ 3 ∧ n < 1) ∨ (1 ≤ k ∧ k ≤ 3 ∧ 1 ≤ n ∧ 1099511627776 < n) := by omega
  clear hc
  rcases hc2 with h | ⟨h, h'⟩ | ⟨h, h', h2⟩ | ⟨h, h', h2, h3⟩
  all_goals
    go_enter Try.func3, Try.ntmps3
    go_wp2_with fail
    (with_reducible refine HNEW.out.mono ?_)
    rintro e w1 ⟨d, F, rfl, hL⟩
    have L1 := Lib.hid hL
    clear hL
    go_wp2_with fail
    (with_reducible refine (HKN.out _).mono ?_)
    rintro e w2 ⟨rfl, u2⟩
    have L2 := (L1.out.up u2).alloc (boxF 0) 29
    have HFA := Lib.hid (ld_fail L2 k n (he _))
    clear L2 u2
    unfold boxF at HFA
    go_wp2_with fail
    (with_reducible refine HFA.out.mono ?_)
    rintro e w3 ⟨rfl, L3⟩
    have U := Lib.hid L3.2.2.2
    clear L3
    go_wp2
    go_ret
    exact ⟨rfl, U.out⟩
set_option maxRecDepth 100000 in
set_option maxHeartbeats 6400000 in
theorem fails_yes {k n : Nat} (w : World) (hk : 1 ≤ k ∧ k ≤ 3) (hn : 1 ≤ n) (hn2 : n ≤ 1099511627776) : Calls Try.prog 3 #[.int .i64 (k : Nat), .int .i64 (n : Nat)] w fun e w' => e = .returned (.bool true) ∧ Upd [] w w' := by
  have HNEW := Lib.hid (ld_new4 (w := w))
  have HKN := Lib.hid known_any
  obtain ⟨S0, hS0, hI0⟩ : ∃ S0, (Dk.new 4).fail (k : Nat) (n : Nat) = (0, S0) ∧ FInv k n 1 S0 := ⟨_, by unfold Dk.fail; rw [if_neg (by omega)]; rfl, FInv.start⟩
  have C0 := Lib.hid hI0
  have hk3 : k = 1 ∨ k = 2 ∨ k = 3 := by omega
  have HK := Lib.hid hk
  go_enter Try.func3, Try.ntmps3
  go_wp2_with fail
  (with_reducible refine HNEW.out.mono ?_)
  rintro e w1 ⟨d, F, rfl, hL⟩
  have L1 := Lib.hid hL
  clear hL
  go_wp2_with fail
  (with_reducible refine (HKN.out _).mono ?_)
  rintro e w2 ⟨rfl, u2⟩
  have L2 := (L1.out.up u2).alloc (boxF 0) 29
  have HSW := Lib.hid (show w.heap.size ≤ w2.heap.size from by have := L1.out.2.2.2.size; have := u2.size; omega)
  have HFA := Lib.hid (ld_fail L2 k n hS0)
  clear L2 u2 hS0 hI0
  unfold boxF at HFA
  go_wp2_with fail
  (with_reducible refine HFA.out.mono ?_)
  rintro e w3 ⟨rfl, L3⟩
  have L3 := Lib.hid L3
  go_wp2_with fail
  go_loopw [9] (fun i wr => ∃ q : Nat, 1 ≤ q ∧ q ≤ 31 ∧ i = .int .i64 q ∧ ∃ S F f, FInv k n q S ∧ LawD w wr d F [(w2.heap.size, .cells (boxF f) 29 (0, 0))] S) (fun i _ => 31 - (RowKit.intOf i).toNat)
  case atStart => exact ⟨1, by omega, by omega, rfl, S0, F, 0, C0.out, L3.out⟩
  case round =>
    obtain ⟨q, hq1, hq, rfl, S, F, f, hC, hL⟩ := hrel
    have HC := Lib.hid hC
    by_cases hlt : q ≤ 30
    · have HLT := Lib.hid hlt
      have L4 := hL.store (i := 4) HSW.out (by simp) (.int .i64 (q : Nat))
      obtain ⟨b0, b1, b2, b3, b4, b5, b6⟩ := op_cells (hL.get (g := w2.heap.size) (o := .cells (boxF f) 29 (0, 0)) (by simp))
      have bz := (cells_of (hL.get (g := w2.heap.size) (o := .cells (boxF f) 29 (0, 0)) (by simp))).2 4
      obtain ⟨r1, r2, r3, r4, r5⟩ := hC.round HK.out hq1
      have hr2 : (S.read 1 1).2 = S.tick 1 := by
        have := read_one (S := S) (p := 1) (by rw [hC.n4]; decide)
        rw [show ((1 : Nat) : Int) = 1 from rfl] at this
        rw [this]
      have h0 : opData 1 0 (q : Nat) = List.replicate 256 (q % 256) := opData_one _ _ (by omega)
      have hlq : (List.replicate 256 (q % 256)).length = 256 := List.length_replicate
      have HLQ := Lib.hid hlq
      have H0 := Lib.hid h0
      have HR2 := Lib.hid r2
      have HR5 := Lib.hid r5
      have HLAST := Lib.hid hC.last
      have HLL := Lib.hid (Sec.last_ok (hL.1.ok.sec 1 (by rw [hC.n4]; decide))).1
      have HFO := Lib.hid L4.1.old
      have HVT : Hid (∀ j, j < (S.tick 1).n → ((S.tick 1).sec j).ver.length ≤ 2000000000000) := hC.vers hq
      have HN4 := Lib.hid hC.n4
      have hqn2 : q = n ∨ q ≠ n := by omega
      clear hL hC h0 hlq r2 r5
      have hk4 := hk3
      clear hk hk3
      rcases hqn2 with hqn | hqn <;> rcases hk4 with h | h | h
      all_goals
        have t1 : ((k : Int) == 1) = decide (k = 1) := by rw [Bool.eq_iff_iff]; simp; omega
        have t2 : ((k : Int) == 2) = decide (k = 2) := by rw [Bool.eq_iff_iff]; simp; omega
        have t3 : ((k : Int) == 3) = decide (k = 3) := by rw [Bool.eq_iff_iff]; simp; omega
        have t4 : ((q : Int) == (n : Int)) = decide (q = n) := by rw [Bool.eq_iff_iff]; simp; omega
        first
          | rw [decide_eq_true (show k = 1 by omega)] at t1
          | rw [decide_eq_false (show ¬ k = 1 by omega)] at t1
        first
          | rw [decide_eq_true (show k = 2 by omega)] at t2
          | rw [decide_eq_false (show ¬ k = 2 by omega)] at t2
        first
          | rw [decide_eq_true (show k = 3 by omega)] at t3
          | rw [decide_eq_false (show ¬ k = 3 by omega)] at t3
        first
          | rw [decide_eq_true (show q = n by omega)] at t4
          | rw [decide_eq_false (show ¬ q = n by omega)] at t4
        have HT := Lib.hid (And.intro t1 (And.intro t2 (And.intro t3 t4)))
        clear t1 t2 t3 t4
        first
          | rw [if_pos (by omega)] at r1
          | rw [if_neg (by omega)] at r1
        first
          | rw [if_pos (by omega)] at r3
          | rw [if_neg (by omega)] at r3
        first
          | rw [if_pos (by omega)] at r4
          | rw [if_neg (by omega)] at r4
        first
          | (have hE1 : S.read 1 1 = (((S.read 1 1).1.1, 10), S.tick 1) := by rw [← hr2, ← r1])
          | (have hE1 : S.read 1 1 = (((S.read 1 1).1.1, 0), S.tick 1) := by rw [← hr2, ← r1])
        first
          | (have hE2 : (S.tick 1).write 1 (List.replicate 256 (q % 256)) false = (11, ((S.tick 1).write 1 (List.replicate 256 (q % 256)) false).2) := by rw [← r3])
          | (have hE2 : (S.tick 1).write 1 (List.replicate 256 (q % 256)) false = (0, ((S.tick 1).write 1 (List.replicate 256 (q % 256)) false).2) := by rw [← r3])
        first
          | (have hE3 : ((S.tick 1).write 1 (List.replicate 256 (q % 256)) false).2.flush = (12, ((S.tick 1).write 1 (List.replicate 256 (q % 256)) false).2.flush.2) := by rw [← r4])
          | (have hE3 : ((S.tick 1).write 1 (List.replicate 256 (q % 256)) false).2.flush = (0, ((S.tick 1).write 1 (List.replicate 256 (q % 256)) false).2.flush.2) := by rw [← r4])
        have HRD := Lib.hid (ld_read L4 1 1 hE1)
        have HE2 := Lib.hid hE2
        have HE3 := Lib.hid hE3
        have HQN := Lib.hid hqn
        have HR1 := Lib.hid r1
        have HSO := Lib.hid hr2
        clear L4 hE1 hE2 hE3 hqn h r1 r3 r4 hr2
        go_wp2_with fail
        (with_reducible refine HRD.out.mono ?_)
        rintro e w4 ⟨⟨v4, rfl, R4⟩, L5⟩
        obtain ⟨T', L5, hrow⟩ := L5.row (e0 := (S.read 1 1).1.2) (n := 256) R4 HFO.out (fun e => by rw [HR2.out e]; exact HLL.out) (by decide)
        rw [HR1.out] at hrow
        rw [List.singleton_append] at L5
        have HROW := Lib.hid hrow
        obtain ⟨c0, c1, c2, c3, c4, c5, c6⟩ := op_cells (k := 0) (a := 0) (c := 1) (y := 0) (f := (q : Nat)) (u := false) (p := .slice none 0 0) (L5.get (g := w2.heap.size) (by simp [boxF]))
        have hdt := ld_data L5 0 0 1 0 (q : Nat) false (.slice none 0 0) (n := 256) (by rw [H0.out]; exact HLQ.out) (by decide)
        rw [H0.out] at hdt
        have HDT := Lib.hid hdt
        clear hrow
        clear R4 L5 hdt
        go_wp2_with fail
        (with_reducible refine HDT.out.mono ?_)
        rintro e w5 ⟨⟨g, cap, rfl, _, _, _, hgF, _, hb, _⟩, L6⟩
        have HWR := Lib.hid (ld_write (cap := cap) L6 1 false hb hgF HLQ.out (by decide) HVT.out HE2.out)
        clear hgF hb L6
        go_wp2_with fail
        (with_reducible refine HWR.out.mono ?_)
        rintro e w6 ⟨rfl, F6, L7⟩
        have HFL := Lib.hid (ld_flush L7 HE3.out)
        clear L7
        go_wp2_with fail
        (with_reducible refine HFL.out.mono ?_)
        rintro e w7 ⟨rfl, L8⟩
        have H8 := Lib.hid L8
        clear L8
        obtain ⟨t1, t2, t3, t4⟩ := HT.out
        have hthree : q ≤ 1 ∨ (1 < q ∧ ((n : Int) != (q : Int) - 1) = false) ∨ (1 < q ∧ ((n : Int) != (q : Int) - 1) = true ∧ (S.sec 1).last = List.replicate 256 ((q - 1) % 256)) := by
          rcases HLAST.out with e | e | e
          · exact .inl (by omega)
          · by_cases h1 : q ≤ 1
            · exact .inl h1
            · exact .inr (.inl ⟨by omega, by simp; omega⟩)
          · by_cases h1 : q ≤ 1
            · exact .inl h1
            · by_cases h2 : n + 1 = q
              · exact .inr (.inl ⟨by omega, by simp; omega⟩)
              · exact .inr (.inr ⟨by omega, by simp; omega, e⟩)
        rcases hthree with h3 | ⟨h3, h4⟩ | ⟨h3, h4, h5⟩
        · go_wp2
          go_roundw
          case rel => exact ⟨q + 1, by omega, by omega, by go_num, _, F6, (q : Nat), HR5.out, H8.out.sub (by simp [boxF])⟩
          case measure => simp [RowKit.intOf]; omega
        · go_wp2
          go_roundw
          case rel => exact ⟨q + 1, by omega, by omega, by go_num, _, F6, (q : Nat), HR5.out, H8.out.sub (by simp [boxF])⟩
          case measure => simp [RowKit.intOf]; omega
        · first
            | (obtain ⟨g4, cap4, o4, rfl, hm4, hc4, hd4, hb4⟩ := HROW.out (by trivial)
               have hx4 := (hb4 w7 (H8.out.get (List.mem_cons_of_mem _ hm4))).at 0 (by rw [HR2.out HR1.out, HLL.out]; decide)
               rw [HR2.out HR1.out, h5] at hx4
               have hx5 : w7.cell? ⟨g4, 0, none⟩ = some (.int .u8 ((q : Int) - 1)) := by
                 rw [show (⟨g4, 0, none⟩ : Addr) = ⟨g4, 0 + 0, none⟩ from rfl, hx4, show (List.replicate 256 ((q - 1) % 256)).getD 0 0 = (q - 1) % 256 from rfl, show (((q - 1) % 256 : Nat) : Int) = (q : Int) - 1 by omega]
               clear hb4 hx4 hm4 h5)
            | clear h5
          go_wp2
          go_roundw
          case rel => exact ⟨q + 1, by omega, by omega, by go_num, _, F6, (q : Nat), HR5.out, H8.out.sub (by simp [boxF])⟩
          case measure => simp [RowKit.intOf]; omega
    · have U := Lib.hid hL.2.2.2
      clear hL hC
      go_wp2
      go_ret
      exact ⟨rfl, U.out⟩
theorem fails_law {k n : Int} (w : World) : Calls Try.prog 3 #[.int .i64 k, .int .i64 n] w fun e w' => e = .returned (.bool true) ∧ Upd [] w w' := by
  by_cases h : k < 1 ∨ 3 < k ∨ n < 1 ∨ 1099511627776 < n
  · exact fails_no w h
  · obtain ⟨a, rfl⟩ := Int.eq_ofNat_of_zero_le (show 0 ≤ k by omega)
    obtain ⟨b, rfl⟩ := Int.eq_ofNat_of_zero_le (show 0 ≤ n by omega)
    exact fails_yes w (by omega) (by omega) (by omega)
end Go.Proofs.Ytpnpjffhkaejgaa
