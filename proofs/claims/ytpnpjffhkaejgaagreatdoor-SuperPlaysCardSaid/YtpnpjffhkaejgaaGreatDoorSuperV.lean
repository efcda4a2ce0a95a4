/-
  PROVED HERE: SuperPlays returns true whatever it is given. Conditions: those that each theorem names.
-/
import Derived.Test.YtpnpjffhkaejgaaGreatDoorSuperU
import Derived.Test.YtpnpjffhkaejgaaGreatDoorSuperG
namespace Go.Proofs.YtpnpjffhkaejgaaGreatDoor
open Go.RowKit

/-- Numbers that were there before block B. -/
def SPicks (w : World) (B : Nat) (pa : Option Addr) (n : Nat) (picks : List Int) : Prop := IsIntsAt w pa picks ∧ picks.length = n ∧ n ≤ 9223372036854775807 ∧ (0 < n → ∀ b o, pa = some ⟨b, o, none⟩ → b < B)
theorem SPicks.up {w w' : World} {B n : Nat} {pa : Option Addr} {picks : List Int} (h : SPicks w B pa n picks) (u : Upd [] w w') : SPicks w' B pa n picks := ⟨h.1.up u (by simp), h.2⟩
/-- A step of the script. -/
structure Sop where
  k : Int
  x0 : Int
  x1 : Int
  x2 : Int
  x3 : Int
  x4 : Int
  x5 : Int
  x6 : Int
  a : Int
  f : Int
  pa : Option Addr
  n : Nat
  pc : Nat
  picks : List Int
def SopAt (w : World) (B g o : Nat) (x : Sop) : Prop :=
  (w.cell? ⟨g, o, none⟩ = some (.int .i64 x.k) ∧ w.cell? ⟨g, o + 1, none⟩ = some (.int .i64 x.x0) ∧ w.cell? ⟨g, o + 2, none⟩ = some (.int .i64 x.x1) ∧ w.cell? ⟨g, o + 3, none⟩ = some (.int .i64 x.x2) ∧ w.cell? ⟨g, o + 4, none⟩ = some (.int .i64 x.x3) ∧ w.cell? ⟨g, o + 5, none⟩ = some (.int .i64 x.x4) ∧ w.cell? ⟨g, o + 6, none⟩ = some (.int .i64 x.x5) ∧ w.cell? ⟨g, o + 7, none⟩ = some (.int .i64 x.x6) ∧ w.cell? ⟨g, o + 8, none⟩ = some (.int .i64 x.a) ∧ w.cell? ⟨g, o + 9, none⟩ = some (.int .i64 x.f) ∧ w.cell? ⟨g, o + 10, none⟩ = some (.slice x.pa x.n x.pc)) ∧ SPicks w B x.pa x.n x.picks
def IsSops (w : World) (B : Nat) (A : Option Addr) (l : List Sop) : Prop := ∀ i (h : i < l.length), ∃ g o, A = some ⟨g, o, none⟩ ∧ SopAt w B g (o + i * 11) l[i]
theorem SopAt.up {w w' : World} {B g o : Nat} {x : Sop} (h : SopAt w B g o x) (u : Upd [] w w') : SopAt w' B g o x := by
  obtain ⟨⟨h0, h1, h2, h3, h4, h5, h6, h7, h8, h9, h10⟩, hp⟩ := h
  have t : ∀ {q : Nat} {v : Value}, w.cell? ⟨g, q, none⟩ = some v → w'.cell? ⟨g, q, none⟩ = some v := fun hc => by rw [← hc]; exact World.cell?_of_block (u.block g (World.block_lt_of_cell? _ _ hc) (by simp))
  exact ⟨⟨t h0, t h1, t h2, t h3, t h4, t h5, t h6, t h7, t h8, t h9, t h10⟩, hp.up u⟩
theorem IsSops.up {w w' : World} {B : Nat} {A : Option Addr} {l : List Sop} (h : IsSops w B A l) (u : Upd [] w w') : IsSops w' B A l := fun i hi => by
  obtain ⟨g, o, e, hs⟩ := h i hi
  exact ⟨g, o, e, hs.up u⟩
theorem twoT_start {w w1 w2 w3 : World} {n d r t : Nat} {F G : Nat → Prop} (ht : TabOk w1 t) (h0 : w.heap.size ≤ t) (u1 : Upd [] w w1) (h1 : DiskX w2 d F (Dk.new n)) (hF : ∀ x, F x → w1.heap.size ≤ x) (u2 : Upd [] w1 w2) (h2 : RefX w3 r G (Dk.new n)) (hG : ∀ x, G x → w2.heap.size ≤ x) (u3 : Upd [] w2 w3) : TwoT w w3 d r t [] (Dk.new n) (Dk.new n) := by
  have hs1 := u1.size
  have hs2 := u2.size
  have htl := ht.lt
  have ht3 := ht.upd (u2.trans u3) (by simp)
  refine ⟨w3.heap[t]'ht3.lt, ⟨F, G, h1.up u3 (by simp), h2, fun x hx hg => by have := h1.old x hx; have := hG x hg; omega, fun y hy => by have := hF y hy; omega, fun y hy => by have := hG y hy; omega, fun p hp => ?_, (u1.trans u2).trans u3⟩, ht3, h0, by simp⟩
  rw [List.mem_singleton.1 hp]
  exact ⟨fun e => by have := hF t e; omega, fun e => by have := hG t e; omega, Array.getElem?_eq_getElem ht3.lt⟩
theorem load_len (S : Dk) : S.load.1.1.length = 7 := by
  unfold Dk.load
  repeat' split
  all_goals first
    | rfl
    | exact pickS_len (pickS_len rfl)
    | (dsimp only; repeat' split) <;> first
      | rfl
      | exact pickS_len (pickS_len rfl)
section
variable {w wr : World} {d r t : Nat} {K : List (Nat × Obj)} {S T : Dk}
def Spoilt (w : World) (d r t : Nat) (K : List (Nat × Obj)) (w' : World) : Prop := ∃ S, NoVer S ∧ TwoT w w' d r t K S S
theorem tt_spoil (h : TwoT w wr d r t K S S) (hv : NoVer S) (k x0 x1 x2 x3 x4 x5 x6 a f : Int) (q : Value) :
    Calls Tryz.prog 12 #[.pointer (some ⟨d, 0, none⟩), .pointer (some ⟨r, 0, none⟩), .agg #[.int .i64 k, .int .i64 x0, .int .i64 x1, .int .i64 x2, .int .i64 x3, .int .i64 x4, .int .i64 x5, .int .i64 x6, .int .i64 a, .int .i64 f, q]] wr fun e w' => e = .returned (.bool true) ∧ Spoilt w d r t K w' := by
  obtain ⟨o, h1, h2, h3, h4⟩ := h
  exact (spoil_any h1 hv k x0 x1 x2 x3 x4 x5 x6 a f q).mono fun e w' ⟨q1, p, b, v, q2⟩ => ⟨q1, _, hv.spoil p b v, o, q2, h2.same (by rw [q2.get (List.mem_cons_self ..), h1.get (List.mem_cons_self ..)]), h3, h4⟩
theorem tt_fail (h : TwoT w wr d r t K S T) (k n : Int) : Calls Tryz.prog 13 #[.pointer (some ⟨d, 0, none⟩), .int .i64 k, .int .i64 n] wr fun e w' => e = .returned (.int .i64 (S.fail k n).1) ∧ TwoT w w' d r t K (S.fail k n).2 T :=
  h.of (O := fun e _ => e = .returned (.int .i64 (S.fail k n).1)) fun _ h2 => td_fail h2 k n
theorem tr_fail4 (h : TwoT w wr d r t K S T) (k n : Int) : Calls Tryz.prog 14 #[.pointer (some ⟨r, 0, none⟩), .int .i64 k, .int .i64 n] wr fun e w' => e = .returned (.int .i64 (T.fail k n).1) ∧ TwoT w w' d r t K S (T.fail k n).2 :=
  h.of (O := fun e _ => e = .returned (.int .i64 (T.fail k n).1)) fun _ h2 => tr_fail h2 k n
theorem tt_crash (h : TwoT w wr d r t K S T) (hv : NoVer S) {a : Option Addr} {picks : List Int} {pc n : Nat} (hp : SPicks wr w.heap.size a n picks) : Calls Tryz.prog 15 #[.pointer (some ⟨d, 0, none⟩), .slice a n pc] wr fun e w' => e = .returned (.tuple #[]) ∧ TwoT w w' d r t K (S.crash picks) T :=
  h.of (O := fun e _ => e = .returned (.tuple #[])) fun _ h2 => td_crash (pc := pc) h2 hp.1 (fun h0 b o e => .inl (hp.2.2.2 h0 b o e)) hp.2.1 hp.2.2.1 hv.low
theorem tr_crash4 (h : TwoT w wr d r t K S T) (hv : NoVer T) {a : Option Addr} {picks : List Int} {pc n : Nat} (hp : SPicks wr w.heap.size a n picks) : Calls Tryz.prog 16 #[.pointer (some ⟨r, 0, none⟩), .slice a n pc] wr fun e w' => e = .returned (.tuple #[]) ∧ TwoT w w' d r t K S (T.crash picks) :=
  h.of (O := fun e _ => e = .returned (.tuple #[])) fun _ h2 => tr_crash (pc := pc) h2 hp.1 (fun h0 b o e => .inl (hp.2.2.2 h0 b o e)) hp.2.1 hp.2.2.1 hv.low
end
set_option maxRecDepth 100000 in
set_option maxHeartbeats 1600000 in
theorem splays_bad {w : World} (s : Int) (hs : s < 1 ∨ 4096 < s) (v : Value) : Calls Tryz.prog 3 #[.int .i64 s, v] w fun e w' => e = .returned (.bool true) ∧ Upd [] w w' := by
  have H1 := Lib.hid (fun w => new_no (w := w) s hs)
  have H2 := Lib.hid (fun w => rnew_no (w := w) s hs)
  have H3 := Lib.hid known4_any
  have H0 := Lib.hid new_any
  clear hs
  go_enter Tryz.func3, Tryz.ntmps3
  go_wp2_with fail
  (with_reducible refine (H0.out _).mono ?_)
  rintro e w1 ⟨t, rfl, ht, ht1, u1⟩
  have U1 := Lib.hid u1
  clear ht ht1 u1
  unfold pt
  go_wp2_with fail
  (with_reducible refine (H1.out _).mono ?_)
  rintro e w2 ⟨rfl, rfl⟩
  go_wp2_with fail
  (with_reducible refine (H2.out _).mono ?_)
  rintro e w2 ⟨rfl, rfl⟩
  go_wp2_with fail
  (with_reducible refine (H3.out _).mono ?_)
  rintro e w3 ⟨rfl, u3⟩
  have U3 := Lib.hid u3
  clear u3
  go_wp2
  go_ret
  exact ⟨rfl, U1.out.trans U3.out⟩
set_option maxRecDepth 100000 in
set_option maxHeartbeats 12800000 in
theorem splays_good {w : World} (s : Nat) (hs1 : 1 ≤ s) (hs2 : s ≤ 4096) {A : Option Addr} {n cap : Nat} {l : List Sop} (h : IsSops w w.heap.size A l) (hn : l.length = n) (hl : n ≤ 1990000000000) :
    Calls Tryz.prog 3 #[.int .i64 (s : Nat), .slice A n cap] w fun e w' => e = .returned (.bool true) ∧ Upd [] w w' := by
  have H := Lib.hid h
  have HN := Lib.hid hn
  have H1 := Lib.hid (fun w => x_new (w := w) s hs1 hs2)
  have H2 := Lib.hid (fun w1 => rnew_yes (w := w1) s hs1 hs2)
  have H3 := Lib.hid known4_any
  have H0 := Lib.hid new_any
  clear h hn
  go_enter Tryz.func3, Tryz.ntmps3
  go_wp2_with fail
  (with_reducible refine (H0.out _).mono ?_)
  rintro e w1 ⟨t, rfl, ht, ht1, u1⟩
  have HT1 := Lib.hid ht1
  have HTT := Lib.hid ht
  have U1 := Lib.hid u1
  clear ht ht1 u1
  unfold pt
  go_wp2_with fail
  (with_reducible refine (H1.out _).mono ?_)
  rintro e w2 ⟨⟨d, F, rfl, hd, hF⟩, u2⟩
  have HD := Lib.hid hd
  have HF := Lib.hid hF
  have U2 := Lib.hid u2
  clear hd hF u2
  go_wp2_with fail
  (with_reducible refine (H2.out _).mono ?_)
  rintro e w3 ⟨r, G, rfl, hr, hG, u3⟩
  have HT := Lib.hid (twoT_start HT1.out HTT.out U1.out HD.out HF.out U2.out hr hG u3)
  clear hr hG u3 HT1 HTT U1 HD HF U2
  go_wp2_with fail
  (with_reducible refine (H3.out _).mono ?_)
  rintro e w4 ⟨rfl, u4⟩
  have HT4 := Lib.hid (HT.out.up u4)
  clear u4 HT
  go_wp2_with fail
  go_loopw [10] (fun i wr => ∃ j : Nat, j ≤ n ∧ i = .int .i64 j ∧ ∃ S, NoVer S ∧ TwoT w wr d r t [] S S) (fun i _ => n - (intOf i).toNat)
  case atStart => exact ⟨0, by omega, rfl, _, noVer_new s, HT4.out⟩
  case round =>
    obtain ⟨j, hj, rfl, S, hV, hT⟩ := hrel
    by_cases hlt : j < n
    · have hjl : j < l.length := by have := HN.out; omega
      obtain ⟨g, o, rfl, hso⟩ := H.out j hjl
      have hp0 := hso.2
      obtain ⟨⟨q0, q1, q2, q3, q4, q5, q6, q7, q8, q9, q10⟩, hpk⟩ := hso.up hT.all
      clear hso
      generalize l[j] = x at *
      obtain ⟨k, x0, x1, x2, x3, x4, x5, x6, a, f, pa, m, pc, picks⟩ := x
      simp only at q0 q1 q2 q3 q4 q5 q6 q7 q8 q9 q10 hpk hp0
      have HPU := Lib.hid (fun W (u : Upd [] w W) => hp0.up u)
      clear hp0
      have HX := Lib.hid (hT.keep ((Upd.refl [] wr).alloc (.cells #[.int .i64 k, .int .i64 x0, .int .i64 x1, .int .i64 x2, .int .i64 x3, .int .i64 x4, .int .i64 x5, .int .i64 x6, .int .i64 a, .int .i64 f, .slice pa m pc] 37)) (Nat.le_refl _) (heap_alloc_new wr (.cells #[.int .i64 k, .int .i64 x0, .int .i64 x1, .int .i64 x2, .int .i64 x3, .int .i64 x4, .int .i64 x5, .int .i64 x6, .int .i64 a, .int .i64 f, .slice pa m pc] 37)))
      have HPK := Lib.hid hpk
      have HNV := Lib.hid hV
      have hx0 : (wr.alloc (.cells #[.int .i64 k, .int .i64 x0, .int .i64 x1, .int .i64 x2, .int .i64 x3, .int .i64 x4, .int .i64 x5, .int .i64 x6, .int .i64 a, .int .i64 f, .slice pa m pc] 37)).heap[wr.heap.size]? = some (.cells #[.int .i64 k, .int .i64 x0, .int .i64 x1, .int .i64 x2, .int .i64 x3, .int .i64 x4, .int .i64 x5, .int .i64 x6, .int .i64 a, .int .i64 f, .slice pa m pc] 37 (0, 0)) := heap_alloc_new wr (.cells #[.int .i64 k, .int .i64 x0, .int .i64 x1, .int .i64 x2, .int .i64 x3, .int .i64 x4, .int .i64 x5, .int .i64 x6, .int .i64 a, .int .i64 f, .slice pa m pc] 37)
      have HX0 := Lib.hid hx0
      clear hx0 hpk hV hT
      by_cases hkk0 : k = 0
      · have e0 : (k == 0) = true := by simpa using hkk0
        have e1 : (k == 1) = false := by simpa using (by omega : ¬ k = 1)
        have e2 : (k == 2) = false := by simpa using (by omega : ¬ k = 2)
        have e3 : (k == 3) = false := by simpa using (by omega : ¬ k = 3)
        have e4 : (k == 4) = false := by simpa using (by omega : ¬ k = 4)
        clear hkk0
        have HXC := Lib.hid (fun (w' : World) (h : w'.heap[wr.heap.size]? = some (.cells #[.int .i64 k, .int .i64 x0, .int .i64 x1, .int .i64 x2, .int .i64 x3, .int .i64 x4, .int .i64 x5, .int .i64 x6, .int .i64 a, .int .i64 f, .slice pa m pc] 37 (0, 0))) => (show w'.cell? ⟨wr.heap.size, 1, none⟩ = some (.int .i64 x0) ∧ w'.cell? ⟨wr.heap.size, 2, none⟩ = some (.int .i64 x1) ∧ w'.cell? ⟨wr.heap.size, 3, none⟩ = some (.int .i64 x2) ∧ w'.cell? ⟨wr.heap.size, 4, none⟩ = some (.int .i64 x3) ∧ w'.cell? ⟨wr.heap.size, 5, none⟩ = some (.int .i64 x4) ∧ w'.cell? ⟨wr.heap.size, 6, none⟩ = some (.int .i64 x5) ∧ w'.cell? ⟨wr.heap.size, 7, none⟩ = some (.int .i64 x6) from ⟨(cells_of h).1 1, (cells_of h).1 2, (cells_of h).1 3, (cells_of h).1 4, (cells_of h).1 5, (cells_of h).1 6, (cells_of h).1 7⟩))
        have hsa := tt_save (HX.out.up (Upd.drew (Upd.refl [] _))) HNV.out x0 x1 x2 x3 x4 x5 x6
        have hsb := fun W K (h : TwoT w W d r t K (S.save x0 x1 x2 x3 x4 x5 x6).2 S) => tr_save h HNV.out x0 x1 x2 x3 x4 x5 x6
        unfold pt at hsa
        have HN5 := Lib.hid (HNV.out.save x0 x1 x2 x3 x4 x5 x6)
        generalize (S.save x0 x1 x2 x3 x4 x5 x6).1 = E at *
        generalize (S.save x0 x1 x2 x3 x4 x5 x6).2 = S5 at *
        have HSA := Lib.hid hsa
        have HSB := Lib.hid hsb
        have hE0 := HXC.out _ (show (wr.alloc (.cells #[.int .i64 k, .int .i64 x0, .int .i64 x1, .int .i64 x2, .int .i64 x3, .int .i64 x4, .int .i64 x5, .int .i64 x6, .int .i64 a, .int .i64 f, .slice pa m pc] 37)).drew.heap[wr.heap.size]? = some (.cells #[.int .i64 k, .int .i64 x0, .int .i64 x1, .int .i64 x2, .int .i64 x3, .int .i64 x4, .int .i64 x5, .int .i64 x6, .int .i64 a, .int .i64 f, .slice pa m pc] 37 (0, 0)) from HX0.out)
        clear hsa hsb
        go_wp2
        generalize wr.alloc (.cells #[.int .i64 k, .int .i64 x0, .int .i64 x1, .int .i64 x2, .int .i64 x3, .int .i64 x4, .int .i64 x5, .int .i64 x6, .int .i64 a, .int .i64 f, .slice pa m pc] 37) = W1 at *
        clear q0 q1 q2 q3 q4 q5 q6 q7 q8 q9 q10
        first | (go_region_held (fun w' => w'.cell? ⟨wr.heap.size, 1, none⟩ = some (.int .i64 x0) ∧ w'.cell? ⟨wr.heap.size, 2, none⟩ = some (.int .i64 x1) ∧ w'.cell? ⟨wr.heap.size, 3, none⟩ = some (.int .i64 x2) ∧ w'.cell? ⟨wr.heap.size, 4, none⟩ = some (.int .i64 x3) ∧ w'.cell? ⟨wr.heap.size, 5, none⟩ = some (.int .i64 x4) ∧ w'.cell? ⟨wr.heap.size, 6, none⟩ = some (.int .i64 x5) ∧ w'.cell? ⟨wr.heap.size, 7, none⟩ = some (.int .i64 x6)) (first | exact hE0 | exact hE1 | exact hE2) (first
            | (go_at_call 8; (with_reducible refine HSA.out.mono ?_); rintro e w5 ⟨rfl, h5⟩; have hE1 := HXC.out _ (h5.get (List.mem_cons_self ..)); have HSB1 := Lib.hid (HSB.out _ _ h5); clear h5)
            | (go_at_call 9; (with_reducible refine HSB1.out.mono ?_); rintro e w6 ⟨rfl, h6⟩; have hE2 := HXC.out _ (h6.get (List.mem_cons_self ..)); have H6 := Lib.hid h6; clear h6)))
        all_goals
          go_wp2
          go_roundw
          case rel => exact ⟨j + 1, by omega, by go_num, _, HN5.out, H6.out.drop (by simp)⟩
          case measure => simp [intOf]; omega
      · by_cases hkk1 : k = 1
        · have e0 : (k == 0) = false := by simpa using hkk0
          have e1 : (k == 1) = true := by simpa using hkk1
          have e2 : (k == 2) = false := by simpa using (by omega : ¬ k = 2)
          have e3 : (k == 3) = false := by simpa using (by omega : ¬ k = 3)
          have e4 : (k == 4) = false := by simpa using (by omega : ¬ k = 4)
          clear hkk0 hkk1
          obtain ⟨z0, z1, z2, z3, z4, z5, z6, hz⟩ := list7 (load_len S)
          have hsa := tt_load HX.out
          have hsb := fun W K (h : TwoT w W d r t K S.load.2 S) => tr_load h
          unfold pt at hsa
          have HN5 := Lib.hid HNV.out.load
          rw [hz] at hsa hsb
          simp only [superV, i64s, List.map_cons, List.map_nil] at hsa hsb
          generalize S.load.1.2 = E at *
          generalize S.load.2 = S5 at *
          have HSA := Lib.hid hsa
          have HSB := Lib.hid hsb
          clear hsa hsb hz
          go_wp2_with fail
          (with_reducible refine HSA.out.mono ?_)
          rintro e w5 ⟨rfl, h5⟩
          have hk5 := h5.keep ((Upd.refl [] _).alloc (.cells (supC z0 z1 z2 z3 z4 z5 z6) 34)) (Nat.le_refl _) (heap_alloc_new _ _)
          have HSB1 := Lib.hid (HSB.out _ _ hk5)
          clear h5 hk5
          go_wp2_with fail
          (with_reducible refine HSB1.out.mono ?_)
          rintro e w6 ⟨rfl, h6⟩
          have hk6 := h6.keep ((Upd.refl [] _).alloc (.cells (supC z0 z1 z2 z3 z4 z5 z6) 34)) (Nat.le_refl _) (heap_alloc_new _ _)
          obtain ⟨c0, c1, c2, c3, c4, c5, c6⟩ := sup_cells (hk6.get (List.mem_cons_of_mem _ (List.mem_cons_self ..)))
          obtain ⟨d0, d1, d2, d3, d4, d5, d6⟩ := sup_cells (hk6.get (List.mem_cons_self ..))
          have H6 := Lib.hid hk6
          clear h6 hk6
          have heq := eqSuper z0 z1 z2 z3 z4 z5 z6 z0 z1 z2 z3 z4 z5 z6
          rw [decide_eq_true rfl] at heq
          all_goals
            go_wp2
            go_roundw
            case rel => exact ⟨j + 1, by omega, by go_num, _, HN5.out, H6.out.drop (by simp)⟩
            case measure => simp [intOf]; omega
        · by_cases hkk2 : k = 2
          · have e0 : (k == 0) = false := by simpa using hkk0
            have e1 : (k == 1) = false := by simpa using hkk1
            have e2 : (k == 2) = true := by simpa using hkk2
            have e3 : (k == 3) = false := by simpa using (by omega : ¬ k = 3)
            have e4 : (k == 4) = false := by simpa using (by omega : ¬ k = 4)
            clear hkk0 hkk1 hkk2
            have HXC := Lib.hid (fun (w' : World) (h : w'.heap[wr.heap.size]? = some (.cells #[.int .i64 k, .int .i64 x0, .int .i64 x1, .int .i64 x2, .int .i64 x3, .int .i64 x4, .int .i64 x5, .int .i64 x6, .int .i64 a, .int .i64 f, .slice pa m pc] 37 (0, 0))) => (show w'.cell? ⟨wr.heap.size, 0, none⟩ = some (.int .i64 k) ∧ w'.cell? ⟨wr.heap.size, 1, none⟩ = some (.int .i64 x0) ∧ w'.cell? ⟨wr.heap.size, 2, none⟩ = some (.int .i64 x1) ∧ w'.cell? ⟨wr.heap.size, 3, none⟩ = some (.int .i64 x2) ∧ w'.cell? ⟨wr.heap.size, 4, none⟩ = some (.int .i64 x3) ∧ w'.cell? ⟨wr.heap.size, 5, none⟩ = some (.int .i64 x4) ∧ w'.cell? ⟨wr.heap.size, 6, none⟩ = some (.int .i64 x5) ∧ w'.cell? ⟨wr.heap.size, 7, none⟩ = some (.int .i64 x6) ∧ w'.cell? ⟨wr.heap.size, 8, none⟩ = some (.int .i64 a) ∧ w'.cell? ⟨wr.heap.size, 9, none⟩ = some (.int .i64 f) ∧ w'.cell? ⟨wr.heap.size, 10, none⟩ = some (.slice pa m pc) from ⟨(cells_of h).1 0, (cells_of h).1 1, (cells_of h).1 2, (cells_of h).1 3, (cells_of h).1 4, (cells_of h).1 5, (cells_of h).1 6, (cells_of h).1 7, (cells_of h).1 8, (cells_of h).1 9, (cells_of h).1 10⟩))
            have HSP := Lib.hid (tt_spoil HX.out HNV.out k x0 x1 x2 x3 x4 x5 x6 a f (.slice pa m pc))
            obtain ⟨c0, c1, c2, c3, c4, c5, c6, c7, c8, c9, c10⟩ := HXC.out _ HX0.out
            go_wp2_with fail
            (with_reducible refine HSP.out.mono ?_)
            rintro e w6 ⟨rfl, S5, hn5, h6⟩
            have HN5 := Lib.hid hn5
            have H6 := Lib.hid h6
            clear hn5 h6 c0 c1 c2 c3 c4 c5 c6 c7 c8 c9 c10
            all_goals
              go_wp2
              go_roundw
              case rel => exact ⟨j + 1, by omega, by go_num, _, HN5.out, H6.out.drop (by simp)⟩
              case measure => simp [intOf]; omega
          · by_cases hkk3 : k = 3
            · have e0 : (k == 0) = false := by simpa using hkk0
              have e1 : (k == 1) = false := by simpa using hkk1
              have e2 : (k == 2) = false := by simpa using hkk2
              have e3 : (k == 3) = true := by simpa using hkk3
              have e4 : (k == 4) = false := by simpa using (by omega : ¬ k = 4)
              clear hkk0 hkk1 hkk2 hkk3
              have HXC := Lib.hid (fun (w' : World) (h : w'.heap[wr.heap.size]? = some (.cells #[.int .i64 k, .int .i64 x0, .int .i64 x1, .int .i64 x2, .int .i64 x3, .int .i64 x4, .int .i64 x5, .int .i64 x6, .int .i64 a, .int .i64 f, .slice pa m pc] 37 (0, 0))) => (show w'.cell? ⟨wr.heap.size, 8, none⟩ = some (.int .i64 a) ∧ w'.cell? ⟨wr.heap.size, 9, none⟩ = some (.int .i64 f) from ⟨(cells_of h).1 8, (cells_of h).1 9⟩))
              have hsa := tt_fail (HX.out.up (Upd.drew (Upd.refl [] _))) (IntKind.i64.wrap (1 + a.tmod 2)) f
              have hsb := fun W K (h : TwoT w W d r t K (S.fail (IntKind.i64.wrap (1 + a.tmod 2)) f).2 S) => tr_fail4 h (IntKind.i64.wrap (1 + a.tmod 2)) f
              have HN5 := Lib.hid (HNV.out.fail (IntKind.i64.wrap (1 + a.tmod 2)) f)
              generalize (S.fail (IntKind.i64.wrap (1 + a.tmod 2)) f).1 = E at *
              generalize (S.fail (IntKind.i64.wrap (1 + a.tmod 2)) f).2 = S5 at *
              have HSA := Lib.hid hsa
              have HSB := Lib.hid hsb
              have hE0 := HXC.out _ (show (wr.alloc (.cells #[.int .i64 k, .int .i64 x0, .int .i64 x1, .int .i64 x2, .int .i64 x3, .int .i64 x4, .int .i64 x5, .int .i64 x6, .int .i64 a, .int .i64 f, .slice pa m pc] 37)).drew.heap[wr.heap.size]? = some (.cells #[.int .i64 k, .int .i64 x0, .int .i64 x1, .int .i64 x2, .int .i64 x3, .int .i64 x4, .int .i64 x5, .int .i64 x6, .int .i64 a, .int .i64 f, .slice pa m pc] 37 (0, 0)) from HX0.out)
              clear hsa hsb
              go_wp2
              generalize wr.alloc (.cells #[.int .i64 k, .int .i64 x0, .int .i64 x1, .int .i64 x2, .int .i64 x3, .int .i64 x4, .int .i64 x5, .int .i64 x6, .int .i64 a, .int .i64 f, .slice pa m pc] 37) = W1 at *
              clear q0 q1 q2 q3 q4 q5 q6 q7 q8 q9 q10
              first | (go_region_held (fun w' => w'.cell? ⟨wr.heap.size, 8, none⟩ = some (.int .i64 a) ∧ w'.cell? ⟨wr.heap.size, 9, none⟩ = some (.int .i64 f)) (first | exact hE0 | exact hE1 | exact hE2) (first
                  | (go_at_call 13; (with_reducible refine HSA.out.mono ?_); rintro e w5 ⟨rfl, h5⟩; have hE1 := HXC.out _ (h5.get (List.mem_cons_self ..)); have HSB1 := Lib.hid (HSB.out _ _ h5); clear h5)
                  | (go_at_call 14; (with_reducible refine HSB1.out.mono ?_); rintro e w6 ⟨rfl, h6⟩; have hE2 := HXC.out _ (h6.get (List.mem_cons_self ..)); have H6 := Lib.hid h6; clear h6)))
              all_goals
                go_wp2
                go_roundw
                case rel => exact ⟨j + 1, by omega, by go_num, _, HN5.out, H6.out.drop (by simp)⟩
                case measure => simp [intOf]; omega
            · by_cases hkk4 : k = 4
              · have e0 : (k == 0) = false := by simpa using hkk0
                have e1 : (k == 1) = false := by simpa using hkk1
                have e2 : (k == 2) = false := by simpa using hkk2
                have e3 : (k == 3) = false := by simpa using hkk3
                have e4 : (k == 4) = true := by simpa using hkk4
                clear hkk0 hkk1 hkk2 hkk3 hkk4
                have HXC := Lib.hid (fun (w' : World) (h : w'.heap[wr.heap.size]? = some (.cells #[.int .i64 k, .int .i64 x0, .int .i64 x1, .int .i64 x2, .int .i64 x3, .int .i64 x4, .int .i64 x5, .int .i64 x6, .int .i64 a, .int .i64 f, .slice pa m pc] 37 (0, 0))) => (show w'.cell? ⟨wr.heap.size, 10, none⟩ = some (.slice pa m pc) from (cells_of h).1 10))
                have HSA := Lib.hid (tt_crash (pc := pc) HX.out HNV.out (HPU.out _ HX.out.all))
                have HSB := Lib.hid (fun W K (h : TwoT w W d r t K (S.crash picks) S) => tr_crash4 (pc := pc) h HNV.out (HPU.out _ h.all))
                have HN5 := Lib.hid (NoVer.crash S picks)
                generalize S.crash picks = S5 at *
                have hE0 := HXC.out _ HX0.out
                go_wp2_with fail
                (with_reducible refine HSA.out.mono ?_)
                rintro e w5 ⟨rfl, h5⟩
                have hE1 := HXC.out _ (h5.get (List.mem_cons_self ..))
                have HSB1 := Lib.hid (HSB.out _ _ h5)
                clear h5
                go_wp2_with fail
                (with_reducible refine HSB1.out.mono ?_)
                rintro e w6 ⟨rfl, h6⟩
                have H6 := Lib.hid h6
                clear h6 hE0 hE1
                all_goals
                  go_wp2
                  go_roundw
                  case rel => exact ⟨j + 1, by omega, by go_num, _, HN5.out, H6.out.drop (by simp)⟩
                  case measure => simp [intOf]; omega
              · have e0 : (k == 0) = false := by simpa using hkk0
                have e1 : (k == 1) = false := by simpa using hkk1
                have e2 : (k == 2) = false := by simpa using hkk2
                have e3 : (k == 3) = false := by simpa using hkk3
                have e4 : (k == 4) = false := by simpa using hkk4
                clear hkk0 hkk1 hkk2 hkk3 hkk4
                have H6 := HX
                have HN5 := HNV
                all_goals
                  go_wp2
                  go_roundw
                  case rel => exact ⟨j + 1, by omega, by go_num, _, HN5.out, H6.out.drop (by simp)⟩
                  case measure => simp [intOf]; omega
    · have HNV := Lib.hid hV
      obtain ⟨z0, z1, z2, z3, z4, z5, z6, hz⟩ := list7 (load_len S)
      have hsa := tt_load hT
      have hsb := fun W K (h : TwoT w W d r t K S.load.2 S) => tr_load h
      unfold pt at hsa
      rw [hz] at hsa hsb
      simp only [superV, i64s, List.map_cons, List.map_nil] at hsa hsb
      generalize S.load.1.2 = E at *
      generalize S.load.2 = S5 at *
      have HSA := Lib.hid hsa
      have HSB := Lib.hid hsb
      clear hsa hsb hz
      go_wp2_with fail
      (with_reducible refine HSA.out.mono ?_)
      rintro e w5 ⟨rfl, h5⟩
      have hk5 := h5.keep ((Upd.refl [] _).alloc (.cells (supC z0 z1 z2 z3 z4 z5 z6) 34)) (Nat.le_refl _) (heap_alloc_new _ _)
      have HSB1 := Lib.hid (HSB.out _ _ hk5)
      clear h5 hk5
      go_wp2_with fail
      (with_reducible refine HSB1.out.mono ?_)
      rintro e w6 ⟨rfl, h6⟩
      have hk6 := h6.keep ((Upd.refl [] _).alloc (.cells (supC z0 z1 z2 z3 z4 z5 z6) 34)) (Nat.le_refl _) (heap_alloc_new _ _)
      obtain ⟨c0, c1, c2, c3, c4, c5, c6⟩ := sup_cells (hk6.get (List.mem_cons_of_mem _ (List.mem_cons_self ..)))
      obtain ⟨d0, d1, d2, d3, d4, d5, d6⟩ := sup_cells (hk6.get (List.mem_cons_self ..))
      have H6 := Lib.hid hk6
      clear h6 hk6
      have heq := eqSuper z0 z1 z2 z3 z4 z5 z6 z0 z1 z2 z3 z4 z5 z6
      rw [decide_eq_true rfl] at heq
      go_wp2
      go_ret
      exact ⟨rfl, H6.out.all⟩
end Go.Proofs.YtpnpjffhkaejgaaGreatDoor
