/-
  PROVED HERE: a script of steps, as it lies in memory. Conditions: those that each theorem names.
-/
import Derived.Test.YtpnpjffhkaejgaaDoesF
namespace Go.Proofs.Ytpnpjffhkaejgaa
open Go.RowKit

structure Stp where
  k : Int
  a : Int
  c : Int
  b : Int
  f : Int
  u : Bool
  pa : Option Addr
  n : Nat
  pc : Nat
  picks : List Int
/-- Numbers that were there before block B. -/
def PicksAt (w : World) (B : Nat) (pa : Option Addr) (n : Nat) (picks : List Int) : Prop := IsIntsAt w pa picks ∧ picks.length = n ∧ n ≤ 9223372036854775807 ∧ (0 < n → ∀ b o, pa = some ⟨b, o, none⟩ → b < B)
def StepAt (w : World) (B g o : Nat) (x : Stp) : Prop :=
  (w.cell? ⟨g, o, none⟩ = some (.int .i64 x.k) ∧ w.cell? ⟨g, o + 1, none⟩ = some (.int .i64 x.a) ∧ w.cell? ⟨g, o + 2, none⟩ = some (.int .i64 x.c) ∧ w.cell? ⟨g, o + 3, none⟩ = some (.int .i64 x.b) ∧ w.cell? ⟨g, o + 4, none⟩ = some (.int .i64 x.f) ∧ w.cell? ⟨g, o + 5, none⟩ = some (.bool x.u) ∧ w.cell? ⟨g, o + 6, none⟩ = some (.slice x.pa x.n x.pc)) ∧ PicksAt w B x.pa x.n x.picks
def IsScript (w : World) (B : Nat) (A : Option Addr) (l : List Stp) : Prop := ∀ i (h : i < l.length), ∃ g o, A = some ⟨g, o, none⟩ ∧ StepAt w B g (o + i * 7) l[i]
theorem PicksAt.up {w w' : World} {B n : Nat} {pa : Option Addr} {picks : List Int} (h : PicksAt w B pa n picks) (u : Upd [] w w') : PicksAt w' B pa n picks := ⟨h.1.up u (by simp), h.2⟩
theorem StepAt.up {w w' : World} {B g o : Nat} {x : Stp} (h : StepAt w B g o x) (u : Upd [] w w') : StepAt w' B g o x := by
  obtain ⟨⟨h0, h1, h2, h3, h4, h5, h6⟩, hp⟩ := h
  have t : ∀ {q : Nat} {v : Value}, w.cell? ⟨g, q, none⟩ = some v → w'.cell? ⟨g, q, none⟩ = some v := fun hc => by rw [← hc]; exact World.cell?_of_block (u.block g (World.block_lt_of_cell? _ _ hc) (by simp))
  exact ⟨⟨t h0, t h1, t h2, t h3, t h4, t h5, t h6⟩, hp.up u⟩
theorem IsScript.up {w w' : World} {B : Nat} {A : Option Addr} {l : List Stp} (h : IsScript w B A l) (u : Upd [] w w') : IsScript w' B A l := fun i hi => by
  obtain ⟨g, o, e, hs⟩ := h i hi
  exact ⟨g, o, e, hs.up u⟩
def Dk.run (S : Dk) (l : List Stp) : Dk := l.foldl (fun S x => S.step x.k x.a x.c x.b x.f x.u x.picks) S
theorem Dk.run_succ (S : Dk) (l : List Stp) (i : Nat) (h : i < l.length) : S.run (l.take (i + 1)) = (S.run (l.take i)).step l[i].k l[i].a l[i].c l[i].b l[i].f l[i].u l[i].picks := by
  unfold Dk.run
  rw [List.take_succ_eq_append_getElem h, List.foldl_append]
  rfl
theorem Dk.run_ver (S : Dk) (l : List Stp) (i : Nat) : ((S.run l).sec i).ver.length ≤ (S.sec i).ver.length + l.length := by
  unfold Dk.run
  induction l generalizing S with
  | nil => exact Nat.le_refl _
  | cons x r ih =>
    have h1 := ih (S.step x.k x.a x.c x.b x.f x.u x.picks)
    have h2 := step_ver S x.k x.a x.c x.b x.f x.u x.picks i
    simp only [List.foldl_cons, List.length_cons]
    omega
theorem Dk.run_n (S : Dk) (l : List Stp) : (S.run l).n = S.n := by
  unfold Dk.run
  induction l generalizing S with
  | nil => rfl
  | cons x r ih => simp only [List.foldl_cons]; rw [ih, step_n]
def picksL : List Stp → List Int
  | [] => []
  | x :: r => if 0 < x.n then x.picks else picksL r
def PicksOut (B : Nat) (l : List Int) (e : Ending) (w' : World) : Prop := ∃ pa m pc, e = .returned (.slice pa m pc) ∧ PicksAt w' B pa m l
set_option maxRecDepth 100000 in
set_option maxHeartbeats 1600000 in
theorem picks_any {w : World} {B n cap : Nat} {A : Option Addr} {l : List Stp} (h : IsScript w B A l) (hn : l.length = n) (hl : n ≤ 9223372036854775807) :
    Calls Try.prog 23 #[.slice A n cap] w fun e w' => PicksOut B (picksL l) e w' ∧ Upd [] w w' := by
  have H := Lib.hid h
  have HN := Lib.hid hn
  clear h hn
  go_enter Try.func23, Try.ntmps23
  go_wp2
  go_loopw [3] (fun i wr => ∃ j : Nat, j ≤ n ∧ i = .int .i64 j ∧ picksL l = picksL (l.drop j) ∧ Upd [] w wr) (fun i _ => n - (intOf i).toNat)
  case atStart => exact ⟨0, by omega, rfl, rfl, Upd.refl _ _⟩
  case round =>
    obtain ⟨j, hj, rfl, hp, hU⟩ := hrel
    by_cases hlt : j < n
    · have hjl : j < l.length := by have := HN.out; omega
      obtain ⟨g, o, rfl, ⟨q0, q1, q2, q3, q4, q5, q6⟩, hpk⟩ := (H.out.up hU) j hjl
      have hd : picksL l = if 0 < l[j].n then l[j].picks else picksL (l.drop (j + 1)) := by rw [hp, List.drop_eq_getElem_cons hjl]; rfl
      generalize l[j] = x at *
      have HU := Lib.hid hU
      have HD := Lib.hid hd
      have HPK := Lib.hid hpk
      have hx63 : x.n ≤ 9223372036854775807 := hpk.2.2.1
      generalize x.pa = pa at *
      generalize x.n = m at *
      generalize x.pc = pc at *
      clear hU hd hpk hp q0 q1 q2 q3 q4 q5
      by_cases h0 : 0 < m
      · go_wp2
        go_ret
        exact ⟨⟨pa, m, pc, rfl, by rw [HD.out, if_pos h0]; exact HPK.out⟩, HU.out⟩
      · have hm0 : m = 0 := by omega
        subst hm0
        go_wp2
        go_roundw
        case rel => exact ⟨j + 1, by omega, by go_num, by rw [HD.out, if_neg (Nat.lt_irrefl 0)], HU.out⟩
        case measure => simp [intOf]; omega
    · obtain rfl : j = n := by omega
      have HU := Lib.hid hU
      have HP := Lib.hid hp
      clear hU hp
      go_wp2
      go_ret
      refine ⟨⟨none, 0, 0, rfl, ?_⟩, HU.out⟩
      rw [HP.out, List.drop_eq_nil_of_le (by have := HN.out; omega)]
      exact ⟨fun i hi => absurd hi (Nat.not_lt_zero i), rfl, by decide, fun h => absurd h (by decide)⟩
end Go.Proofs.Ytpnpjffhkaejgaa
