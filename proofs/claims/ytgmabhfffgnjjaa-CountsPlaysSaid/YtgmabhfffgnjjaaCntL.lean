/-
  PROVED HERE: the statements' own small functions on counts (pick, numbers, lives), and how a script of deeds lies in memory. Conditions: those that each theorem names.
-/
import Derived.Test.YtgmabhfffgnjjaaCntF
import Derived.Deep.QuietTactic
import Derived.BigQuiet
namespace Go.Proofs.Ytgmabhfffgnjjaa
open Go.RowKit

theorem quiet_left {P : Program} {f : FuncId} {args : Array Value} {w : World} {n : Nat} {v : Value}
    (h : Calls P f args (w.drewN n) fun e w' => e = .returned v ∧ w.drewN n = w') : Calls P f args (w.drewN n) fun e w'' => e = .returned v ∧ ∃ m, w'' = w.drewN m :=
  h.mono fun _ _ ⟨he, hm⟩ => ⟨he, n, hm.symm⟩
theorem quiet_add_left {P : Program} {f : FuncId} {args : Array Value} {w : World} {a n : Nat} {v : Value}
    (h : Calls P f args (w.drewN (a + n)) fun e w' => e = .returned v ∧ w.drewN (a + n) = w') : Calls P f args (w.drewN (a + n)) fun e w'' => e = .returned v ∧ ∃ m, w'' = w.drewN (a + m) :=
  h.mono fun _ _ ⟨he, hm⟩ => ⟨he, n, hm.symm⟩
theorem Upd.drewN {S : List Nat} {a w : World} (h : Upd S a w) (n : Nat) : Upd S a (w.drewN n) := ⟨h.os, h.tape, h.output, h.size, h.block⟩
theorem IsC.drewN {w : World} {b g m : Nat} {s : Ct} (h : IsC w b g m s) (n : Nat) : IsC (w.drewN n) b g m s := h.stay ((Upd.refl [] w).drewN n)
theorem pick_any (c n : Int) (hn : 0 < n) (hm : n ≤ 1000) (hc : -9223372036854775808 ≤ c ∧ c ≤ 9223372036854775807) (w : World) : Calls Try.prog 18 #[.int .i64 c, .int .i64 n] w fun e w' => e = .returned (.int .i64 (kindOf c n)) ∧ w = w' := by
  obtain ⟨h1, h2⟩ := hc
  by_cases h : c < 0
  · have hb : 0 ≤ -(c + 1) := by omega
    have HK := Lib.hid (show kindOf c n = -(c + 1).tmod n by unfold kindOf; rw [if_pos h, ← Int.neg_tmod, Int.tmod_eq_emod_of_nonneg hb])
    go_enter Try.func18, Try.ntmps18
    go_wp2
    go_ret
    rw [HK.out]
    exact ⟨rfl, rfl⟩
  · have HK := Lib.hid (show kindOf c n = c % n by unfold kindOf; rw [if_neg h])
    have hb : 0 ≤ c := by omega
    go_enter Try.func18, Try.ntmps18
    go_wp2
    go_ret
    rw [HK.out]
    exact ⟨rfl, rfl⟩
set_option maxRecDepth 100000 in
set_option maxHeartbeats 1600000 in
theorem lives_any (w : World) : Calls Try.prog 7 #[] w fun e w' => e = .returned (.bool true) ∧ Upd [] w w' := by
  have L1 : (Ct.new 130).addE 5 3 = 0 := by decide +kernel
  have L2 : ((Ct.new 130).add 5 3).get 5 = 3 := by decide +kernel
  have L3 : ((Ct.new 130).add 5 3).undo.get 5 = 0 := by decide +kernel
  have L4 : ((Ct.new 130).add 5 3).undo.addE 5 (-1) = 21 := by decide +kernel
  have L5 : manyOf 130 = 2 := by decide
  have H1 := Lib.hid L1
  have H2 := Lib.hid L2
  have H3 := Lib.hid L3
  have H4 := Lib.hid L4
  have HM := Lib.hid (fun w => (show Calls Try.prog 13 #[.int .i64 130] w fun e w' => e = .returned (.int .i64 2) ∧ w = w' by have := many_yes 130 (by decide) (by decide) w; rw [L5] at this; exact this))
  have HN := Lib.hid (fun w => cnew_yes (w := w) 130 (by decide) (by decide))
  clear L1 L2 L3 L4 L5
  go_enter Try.func7, Try.ntmps7
  go_wp2_with fail
  refine (HN.out w).mono ?_
  rintro e w1 ⟨⟨b, g, m, rfl, hC, hb, hg, hm⟩, u1⟩
  have HC := Lib.hid hC
  have U1 := Lib.hid u1
  have HB := Lib.hid hb
  have HG := Lib.hid hg
  have HMM := Lib.hid hm
  clear hC u1 hb hg hm
  go_wp2_with fail
  refine (cadd_any HC.out 5 3).mono ?_
  rintro e w2 ⟨rfl, h2, u2⟩
  rw [H1.out]
  have C2 := Lib.hid h2
  have U2 := Lib.hid u2
  clear h2 u2
  go_wp2_with fail
  refine (cget_any C2.out 5).mono ?_
  rintro e w3 ⟨rfl, rfl⟩
  rw [H2.out]
  go_wp2_with fail
  refine (cundo_any C2.out).mono ?_
  rintro e w4 ⟨rfl, h4, u4⟩
  have C4 := Lib.hid h4
  have U4 := Lib.hid u4
  clear h4 u4
  have HGET := Lib.hid (cget_any C4.out 5)
  rw [H3.out] at HGET
  have HADD := Lib.hid (cadd_any C4.out 5 (-1))
  rw [H4.out] at HADD
  go_wp2_with (first
    | (go_at_call 10; (with_reducible refine HGET.out.mono ?_); rintro e w5 ⟨rfl, rfl⟩)
    | (go_at_call 8; (with_reducible refine HADD.out.mono ?_); rintro e w6 ⟨rfl, _, u6⟩; have U6 := Lib.hid u6; clear u6)
    | (go_at_call 13; (with_reducible refine (HM.out _).mono ?_); rintro e w7 ⟨rfl, rfl⟩))
  go_ret
  have hs : ∀ x, x ∈ [g, m] → x ∈ ([] : List Nat) ∨ w.heap.size ≤ x := fun x hx => .inr (by
    simp only [List.mem_cons, List.not_mem_nil, or_false] at hx
    rcases hx with rfl | rfl
    · exact HG.out
    · exact HMM.out)
  exact ⟨rfl, ((U1.out.step U2.out hs).step U4.out hs).step U6.out hs⟩
/-- A deed in memory: four cells; its bytes lay there before block B. -/
def DeedAt (w : World) (B g o : Nat) (x : Deed) : Prop :=
  ∃ pa pc, (w.cell? ⟨g, o, none⟩ = some (.int .i64 x.k) ∧ w.cell? ⟨g, o + 1, none⟩ = some (.int .i64 x.p) ∧ w.cell? ⟨g, o + 2, none⟩ = some (.int .i64 x.y) ∧ w.cell? ⟨g, o + 3, none⟩ = some (.slice pa x.body.length pc)) ∧
    IsBytes w pa x.body ∧ x.body.length ≤ pc ∧ pc ≤ 9223372036854775807 ∧ (0 < x.body.length → ∀ b o, pa = some ⟨b, o, none⟩ → b < B) ∧ g < B ∧ (-9223372036854775808 ≤ x.k ∧ x.k ≤ 9223372036854775807)
def IsDeeds (w : World) (B : Nat) (A : Option Addr) (l : List Deed) : Prop := ∀ i (h : i < l.length), ∃ g o, A = some ⟨g, o, none⟩ ∧ DeedAt w B g (o + i * 4) l[i]
theorem DeedAt.upd {w w' : World} {B g o : Nat} {x : Deed} {S : List Nat} (h : DeedAt w B g o x) (u : Upd S w w') (hs : ∀ y ∈ S, B ≤ y) : DeedAt w' B g o x := by
  obtain ⟨pa, pc, ⟨h0, h1, h2, h3⟩, hb, h4, h5, h6, h7, h8⟩ := h
  have t : ∀ {q : Nat} {v : Value}, w.cell? ⟨g, q, none⟩ = some v → w'.cell? ⟨g, q, none⟩ = some v := fun hc => by rw [← hc]; exact World.cell?_of_block (u.block g (World.block_lt_of_cell? _ _ hc) (fun hm => by have := hs g hm; omega))
  refine ⟨pa, pc, ⟨t h0, t h1, t h2, t h3⟩, ⟨hb.1, fun i hi => ?_⟩, h4, h5, h6, h7, h8⟩
  obtain ⟨b, o, e, hc⟩ := hb.2 i hi
  refine ⟨b, o, e, ?_⟩
  rw [← hc]
  exact World.cell?_of_block (u.block b (World.block_lt_of_cell? _ _ hc) (fun hm => by have := hs b hm; have := h6 (by omega) b o e; omega))
theorem IsDeeds.upd {w w' : World} {B : Nat} {A : Option Addr} {l : List Deed} {S : List Nat} (h : IsDeeds w B A l) (u : Upd S w w') (hs : ∀ y ∈ S, B ≤ y) : IsDeeds w' B A l := fun i hi => by
  obtain ⟨g, o, e, hd⟩ := h i hi
  exact ⟨g, o, e, hd.upd u hs⟩
end Go.Proofs.Ytgmabhfffgnjjaa
