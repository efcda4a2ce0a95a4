/-
  PROVED HERE: SuperFails returns true whatever it is given. Conditions: those that each theorem names.
-/
import Derived.Test.YtpnpjffhkaejgaaDoorSuperG
namespace Go.Proofs.YtpnpjffhkaejgaaDoor
open Go.RowKit

/-- A disk on which nothing is to fail and nothing is left to be flushed. -/
structure Calm (N : Nat) (S : Dk) : Prop where
  n : S.n = N
  fall : ∀ k, S.fall k = 0
  left : S.left = none
  ver : ∀ i, (S.sec i).ver = []
theorem calm_new (N : Nat) : Calm N (Dk.new N) := ⟨rfl, fun _ => rfl, rfl, fun _ => rfl⟩
theorem Calm.tick {N : Nat} {S : Dk} (h : Calm N S) (k : Nat) : Calm N (S.tick k) := ⟨h.n, fun j => by
  show setf S.fall k (S.fall k - 1) j = 0
  unfold setf
  split
  · rw [h.fall]
  · exact h.fall j, h.left, h.ver⟩
theorem puts_true {ls : List (List Nat)} : ∀ {S : Dk} {p : Nat}, (∀ i, (S.sec i).ver = []) → ∀ i, ((puts S true p ls).sec i).ver = [] := by
  induction ls with
  | nil => intro S p h i; exact h i
  | cons l r ih =>
    intro S p h i
    rw [puts_cons]
    refine ih (fun j => ?_) i
    by_cases e : j = p
    · subst e; rw [putV_true]
    · rw [putV_sec e]; exact h j
theorem Calm.save {N : Nat} {S : Dk} (h : Calm N S) (x0 x1 x2 x3 x4 x5 x6 : Int) : Calm N (S.save x0 x1 x2 x3 x4 x5 x6).2 := by
  unfold Dk.save
  split
  · unfold Dk.write
    split
    · exact h
    split
    · rw [if_neg (by unfold Dk.hit Dk.down; rw [h.fall, h.left]; decide)]
      obtain ⟨p1, p2, p3⟩ := puts_n (S.tick 2) true (x0 % 2).toNat (pieces (frame (superBytes [x0, x1, x2, x3, x4, x5, x6])))
      refine ⟨p1.trans h.n, fun k => ?_, ?_, fun i => puts_true (h.tick 2).ver i⟩
      · show (puts (S.tick 2) true _ _).fall k = 0
        rw [p2]
        exact (h.tick 2).fall k
      · show ((puts (S.tick 2) true _ _).left).map (· - 1) = none
        rw [p3]
        show S.left.map (· - 1) = none
        rw [h.left]
        rfl
    · exact h
  · exact h
def loadO (n : Nat) (a b : List Nat) : List Int × Int := if (pickS n (pickS n bad7 0 a) 1 b).getD 0 0 < 0 then (superNone, 14) else (pickS n (pickS n bad7 0 a) 1 b, 0)
theorem loadO_len (n : Nat) (a b : List Nat) : (loadO n a b).1.length = 7 := by
  unfold loadO
  split
  · rfl
  · exact pickS_len (pickS_len rfl)
/-- A save on a disk whose next write is to fail. -/
theorem fail_save {N : Nat} {S : Dk} (h : Calm N S) (x0 x1 x2 x3 x4 x5 x6 : Int) : (({ S with fall := setf S.fall 2 1 } : Dk).save x0 x1 x2 x3 x4 x5 x6).1 ≠ 0 ∧ (({ S with fall := setf S.fall 2 1 } : Dk).save x0 x1 x2 x3 x4 x5 x6).2.sec = S.sec ∧ (({ S with fall := setf S.fall 2 1 } : Dk).save x0 x1 x2 x3 x4 x5 x6).2.n = S.n := by
  unfold Dk.save
  split
  · unfold Dk.write
    split
    · exact ⟨by show (1 : Int) ≠ 0; decide, rfl, rfl⟩
    split
    · rw [if_pos (by
        have : ({ S with fall := setf S.fall 2 1 } : Dk).hit 2 = true := by
          unfold Dk.hit
          show decide (setf S.fall 2 1 2 = 1) = true
          rw [setf_same]
          rfl
        rw [this]
        rfl)]
      exact ⟨by show (11 : Int) ≠ 0; decide, rfl, rfl⟩
    · exact ⟨by show (2 : Int) ≠ 0; decide, rfl, rfl⟩
  · exact ⟨by show (1 : Int) ≠ 0; decide, rfl, rfl⟩
theorem crash_last {S : Dk} {picks : List Int} (hv : ∀ i, (S.sec i).ver = []) (i : Nat) : ((S.crash picks).sec i).last = (S.sec i).last := by
  have hd : S.dirty = [] := by
    unfold Dk.dirty
    rw [List.filter_eq_nil_iff]
    intro i _
    rw [hv]
    simp
  show (⟨S.durs picks (min S.dirty.length picks.length) i, []⟩ : Sec).last = _
  rw [hd, List.length_nil, Nat.zero_min]
  unfold Sec.last
  rw [hv]
  rfl
theorem lt_fail {w wr : World} {d t : Nat} {F : Nat → Prop} {T : List (Nat × Obj)} {S : Dk} (h : LawT w wr d t F T S) (k n : Int) :
    Calls Tryd.prog 16 #[.pointer (some ⟨d, 0, none⟩), .int .i64 k, .int .i64 n] wr fun e w' => e = .returned (.int .i64 (S.fail k n).1) ∧ LawT w w' d t F T (S.fail k n).2 :=
  (x_fail h.disk k n).mono fun e w' ⟨h1, h2, h3⟩ => ⟨h1, h.next h2 (fun _ hx => .inl hx) (h3.p (F := (· = d)) (by simp)) (fun x hx => by rw [hx]; exact h.disk.fd)⟩
theorem lt_crash {w wr : World} {d t : Nat} {F : Nat → Prop} {T : List (Nat × Obj)} {S : Dk} (h : LawT w wr d t F T S) {a : Option Addr} {picks : List Int} {pc : Nat} (hp : IsIntsAt wr a picks) (hpf : ∀ b o, a = some ⟨b, o, none⟩ → 0 < picks.length → ¬ F b) (hpl : picks.length ≤ 9223372036854775807)
    (hB : ∀ i, i < S.n → (S.sec i).ver.length ≤ 2000000000000) {n : Nat} (hn : n = picks.length) :
    Calls Tryd.prog 12 #[.pointer (some ⟨d, 0, none⟩), .slice a n pc] wr fun e w' => e = .returned (.tuple #[]) ∧ LawT w w' d t F T (S.crash picks) :=
  (x_crash (pc := pc) h.disk hp hpf hpl hB hn).mono fun e w' ⟨h1, h2, h3⟩ => ⟨h1, h.next h2 (fun _ hx => .inl hx) h3 fun x hx => hx⟩
/-- Superblocks in memory. -/
def SupAt (w : World) (g o : Nat) (s : List Int) : Prop := s.length = 7 ∧ ∀ j, j < 7 → w.cell? ⟨g, o + j, none⟩ = some (.int .i64 (s.getD j 0))
def IsSups (w : World) (A : Option Addr) (l : List (List Int)) : Prop := ∀ i (h : i < l.length), ∃ g o, A = some ⟨g, o, none⟩ ∧ SupAt w g (o + i * 7) l[i]
theorem IsSups.up {w w' : World} {A : Option Addr} {l : List (List Int)} (h : IsSups w A l) (u : Upd [] w w') : IsSups w' A l := fun i hi => by
  obtain ⟨g, o, e, h7, hc⟩ := h i hi
  exact ⟨g, o, e, h7, fun j hj => by rw [← hc j hj]; exact World.cell?_of_block (u.block g (World.block_lt_of_cell? _ _ (hc j hj)) (by simp))⟩
def PicksW (w : World) (pa : Option Addr) (n : Nat) (picks : List Int) : Prop := IsIntsAt w pa picks ∧ picks.length = n ∧ n ≤ 9223372036854775807 ∧ (0 < n → ∀ b o, pa = some ⟨b, o, none⟩ → b < w.heap.size)
def SavedAt (w : World) (d t N : Nat) (wr : World) : Prop := ∃ F S, Calm N S ∧ LawT w wr d t F [] S
theorem LSaved.at {w : World} {d t : Nat} {T : List (Nat × Obj)} {S : Dk} {w' : World} (h : LSaved w d t T S w') : ∃ F', LawT w w' d t F' T S := h
set_option maxRecDepth 100000 in
set_option maxHeartbeats 3200000 in
theorem fails4_any {w : World} {A : Option Addr} {n cap : Nat} {l : List (List Int)} (h : IsSups w A l) (hn : l.length = n) (hl : n ≤ 9223372036854775807) (x0 x1 x2 x3 x4 x5 x6 : Int) {pa : Option Addr} {m pc : Nat} {picks : List Int} (hp : PicksW w pa m picks) :
    Calls Tryd.prog 5 #[.slice A n cap, .agg #[.int .i64 x0, .int .i64 x1, .int .i64 x2, .int .i64 x3, .int .i64 x4, .int .i64 x5, .int .i64 x6], .slice pa m pc] w fun e w' => e = .returned (.bool true) ∧ Upd [] w w' := by
  have u0 := (Upd.refl [] w).alloc (.cells (supC x0 x1 x2 x3 x4 x5 x6) 23)
  have hb := heap_alloc_new w (.cells (supC x0 x1 x2 x3 x4 x5 x6) 23)
  have HB := Lib.hid hb
  have H := Lib.hid (h.up u0)
  have HN := Lib.hid hn
  have HP := Lib.hid hp
  have U0 := Lib.hid u0
  have HKN := Lib.hid known4_any
  have HNEW := Lib.hid (fun W => (show Calls Tryd.prog 10 #[.int .i64 150] W fun e w' => NewX W.heap.size 150 e w' ∧ Upd [] W w' from x_new 150 (by decide) (by decide)))
  have HTAB := Lib.hid new_any
  clear h hn hp u0 hb
  go_enter Tryd.func5, Tryd.ntmps5
  go_wp2_with fail
  (with_reducible refine (HTAB.out _).mono ?_)
  rintro e w1 ⟨t, rfl, ht, ht1, u1⟩
  have HT1 := Lib.hid ht1
  have HTT := Lib.hid ht
  have U1 := Lib.hid u1
  clear ht ht1 u1
  unfold pt
  go_wp2_with fail
  (with_reducible refine (HNEW.out _).mono ?_)
  rintro e w2 ⟨⟨d, F, rfl, hd, hF⟩, u2⟩
  have hL := law_start HT1.out HTT.out U1.out hd hF u2
  have HL := Lib.hid hL
  clear hd hF u2 hL
  go_wp2_with fail
  (with_reducible refine (HKN.out _).mono ?_)
  rintro e w3 ⟨rfl, u3⟩
  have hs : SavedAt (w.alloc (.cells (supC x0 x1 x2 x3 x4 x5 x6) 23)) d t 150 w3 := ⟨_, _, calm_new 150, HL.out.up u3⟩
  have HSV := Lib.hid hs
  clear u3 hs
  go_wp2_with fail
  go_loopw [10] (fun i wr => ∃ j : Nat, j ≤ n ∧ i = .int .i64 j ∧ SavedAt (w.alloc (.cells (supC x0 x1 x2 x3 x4 x5 x6) 23)) d t 150 wr) (fun i _ => n - (intOf i).toNat)
  case atStart => exact ⟨0, by omega, rfl, HSV.out⟩
  case round =>
    obtain ⟨j, hj, rfl, F1, S, hC, hT⟩ := hrel
    by_cases hlt : j < n
    · have hjl : j < l.length := by have := HN.out; omega
      obtain ⟨g, o, rfl, h7, hc⟩ := (H.out.up hT.all) j hjl
      generalize l[j] = s at *
      obtain ⟨s0, s1, s2, s3, s4, s5, s6, rfl⟩ := list7 h7
      have q0 := hc 0 (by decide); have q1 := hc 1 (by decide); have q2 := hc 2 (by decide); have q3 := hc 3 (by decide); have q4 := hc 4 (by decide); have q5 := hc 5 (by decide); have q6 := hc 6 (by decide)
      simp only [List.getD_cons_zero, List.getD_cons_succ, Nat.add_zero] at q0 q1 q2 q3 q4 q5 q6
      have hsv := save_any hT s0 s1 s2 s3 s4 s5 s6 (fun i _ => by rw [hC.ver i]; exact Nat.zero_le _)
      unfold pt at hsv
      have HSV1 := Lib.hid hsv
      have HC1 := Lib.hid (hC.save s0 s1 s2 s3 s4 s5 s6)
      clear hsv hC hT hc h7
      go_wp2_with fail
      (with_reducible refine HSV1.out.mono ?_)
      rintro e w4 ⟨rfl, h4⟩
      obtain ⟨F4, h4⟩ := h4.at
      have H4 := Lib.hid h4
      clear h4 q0 q1 q2 q3 q4 q5 q6
      go_wp2
      go_roundw
      case rel => exact ⟨j + 1, by omega, by go_num, _, _, HC1.out, H4.out⟩
      case measure => simp [intOf]; omega
    · have hld := load_any hT
      have hlo : S.load = (loadO 150 (S.sec 0).last (S.sec 1).last, (S.tick 1).tick 1) := by
        rw [load_of (by rw [hC.n]; decide) (hC.fall 1), hC.n]
        rfl
      rw [hlo] at hld
      unfold LoadOut pt at hld
      dsimp only at hld
      obtain ⟨y0, y1, y2, y3, y4, y5, y6, hy⟩ := list7 (loadO_len 150 (S.sec 0).last (S.sec 1).last)
      obtain ⟨er, her⟩ : ∃ er, (loadO 150 (S.sec 0).last (S.sec 1).last).2 = er := ⟨_, rfl⟩
      rw [hy, her] at hld
      simp only [superV, i64s, List.map_cons, List.map_nil] at hld
      have HLD := Lib.hid hld
      have HC2 := Lib.hid ((hC.tick 1).tick 1)
      have HY := Lib.hid hy
      have HER := Lib.hid her
      obtain ⟨S2, hS2⟩ : ∃ S2, (S.tick 1).tick 1 = S2 := ⟨_, rfl⟩
      have hsec : S2.sec = S.sec := by rw [← hS2]; rfl
      have HSEC := Lib.hid hsec
      rw [hS2] at HC2 HLD
      clear hld hlo hy her hC hT hS2 hsec
      go_wp2_with fail
      (with_reducible refine HLD.out.mono ?_)
      rintro e w4 ⟨rfl, h4⟩
      have h4a := h4.keep ((Upd.refl [] _).alloc (.cells (supC y0 y1 y2 y3 y4 y5 y6) 23)) (Nat.le_refl _) (heap_alloc_new _ _)
      have hfa := lt_fail h4a 2 1
      rw [show S2.fail 2 1 = (0, { S2 with fall := setf S2.fall 2 1 }) from by unfold Dk.fail; rw [if_neg (by decide)]; rfl] at hfa
      dsimp only at hfa
      have HFA := Lib.hid hfa
      clear hfa h4a h4
      go_wp2_with fail
      (with_reducible refine HFA.out.mono ?_)
      rintro e w5 ⟨rfl, h5⟩
      obtain ⟨f1, f2, f3⟩ := fail_save HC2.out x0 x1 x2 x3 x4 x5 x6
      have hsv := save_any h5 x0 x1 x2 x3 x4 x5 x6 (fun i _ => by show (S2.sec i).ver.length ≤ _; rw [HC2.out.ver i]; exact Nat.zero_le _)
      unfold pt at hsv
      obtain ⟨e5, S5, hS5⟩ : ∃ e5 S5, (({ S2 with fall := setf S2.fall 2 1 } : Dk).save x0 x1 x2 x3 x4 x5 x6) = (e5, S5) := ⟨_, _, rfl⟩
      rw [hS5] at f1 f2 f3 hsv
      dsimp only at f1 f2 f3 hsv
      obtain ⟨c0, c1, c2, c3, c4, c5, c6⟩ := sup_cells (h5.all.get HB.out (by simp))
      have HF1 := Lib.hid f1
      have HF2 := Lib.hid f2
      have HF3 := Lib.hid f3
      have HSV5 := Lib.hid hsv
      clear f1 f2 f3 hsv hS5 h5
      go_wp2_with fail
      (with_reducible refine HSV5.out.mono ?_)
      rintro e w6 ⟨rfl, h6⟩
      obtain ⟨F6, h6⟩ := h6.at
      have hne : (e5 == 0) = false := by simpa using HF1.out
      have hpk := HP.out
      have huw := U0.out.trans h6.all
      have hv5 : ∀ i, (S5.sec i).ver = [] := by rw [HF2.out]; exact HC2.out.ver
      have hcr := lt_crash (pc := pc) h6 (hpk.1.upd huw (by simp)) (fun b o e h0 hf => by
        have q1 := hpk.2.2.2 (by rw [← hpk.2.1]; exact h0) b o e
        have q2 := h6.low b hf
        simp only [World.size_alloc] at q2
        omega) (by rw [hpk.2.1]; exact hpk.2.2.1) (fun i _ => by rw [hv5 i]; exact Nat.zero_le _) hpk.2.1.symm
      have HCR := Lib.hid hcr
      have HV5 := Lib.hid hv5
      clear hcr hpk huw hv5 h6 c0 c1 c2 c3 c4 c5 c6
      go_wp2_with fail
      (with_reducible refine HCR.out.mono ?_)
      rintro e w7 ⟨rfl, h7⟩
      have hld := load_any h7
      have hlo : (S5.crash picks).load = (loadO 150 (S.sec 0).last (S.sec 1).last, ((S5.crash picks).tick 1).tick 1) := by
        have hn5 : (S5.crash picks).n = 150 := by show S5.n = 150; rw [HF3.out]; exact HC2.out.n
        rw [load_of (by rw [hn5]; decide) rfl, hn5, crash_last HV5.out, crash_last HV5.out, HF2.out, HSEC.out]
        rfl
      rw [hlo] at hld
      unfold LoadOut pt at hld
      dsimp only at hld
      rw [HY.out, HER.out] at hld
      simp only [superV, i64s, List.map_cons, List.map_nil] at hld
      have HLD7 := Lib.hid hld
      clear hld hlo h7
      go_wp2_with fail
      (with_reducible refine HLD7.out.mono ?_)
      rintro e w8 ⟨rfl, h8⟩
      have h8a := h8.keep ((Upd.refl [] _).alloc (.cells (supC y0 y1 y2 y3 y4 y5 y6) 23)) (Nat.le_refl _) (heap_alloc_new _ _)
      have heq := eqSuper y0 y1 y2 y3 y4 y5 y6 y0 y1 y2 y3 y4 y5 y6
      rw [decide_eq_true rfl] at heq
      obtain ⟨c0, c1, c2, c3, c4, c5, c6⟩ := sup_cells (h8a.get (List.mem_cons_of_mem _ (List.mem_cons_self ..)))
      obtain ⟨d0, d1, d2, d3, d4, d5, d6⟩ := sup_cells (h8a.get (List.mem_cons_self ..))
      have U8 := Lib.hid (U0.out.trans h8a.all)
      clear h8a h8
      go_wp2
      go_ret
      exact ⟨rfl, U8.out⟩
end Go.Proofs.YtpnpjffhkaejgaaDoor
