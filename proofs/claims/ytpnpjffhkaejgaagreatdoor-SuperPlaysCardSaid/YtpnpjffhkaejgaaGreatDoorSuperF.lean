/-
  PROVED HERE: super.Load of any disk. Conditions: those that each theorem names.
-/
import Derived.Test.YtpnpjffhkaejgaaGreatDoorSuperE
namespace Go.Proofs.YtpnpjffhkaejgaaGreatDoor
open Go.RowKit

theorem read_facts {S : Dk} (h : S.Ok) {p : Nat} (hp : p < S.n) : (S.read p 1).2 = S.tick 1 ∧ ((S.read p 1).1.2 = 0 ∧ (S.read p 1).1.1.length = 256 ∨ (S.read p 1).1.2 = 10 ∧ (S.read p 1).1.1 = []) := by
  have ht : S.there p 1 = true := by unfold Dk.there; simp; omega
  unfold Dk.read
  rw [ht, if_pos rfl]
  split
  · exact ⟨rfl, .inr ⟨rfl, rfl⟩⟩
  · refine ⟨rfl, .inl ⟨rfl, ?_⟩⟩
    show (S.bytes p 1).length = 256
    unfold Dk.bytes blocks
    simp only [List.range_one, List.flatMap_cons, List.flatMap_nil, List.append_nil]
    exact (Sec.last_ok (h.sec _ hp)).1
def LoadOut (w : World) (d t : Nat) (F : Nat → Prop) (T : List (Nat × Obj)) (o : (List Int × Int) × Dk) (e : Ending) (w' : World) : Prop := e = .returned (.tuple #[superV o.1.1, .int .i64 o.1.2]) ∧ LawT w w' d t F T o.2
theorem Dk.Ok.tick1 {S : Dk} (h : S.Ok) : (S.tick 1).Ok := ⟨h.n1, h.n2, h.sec, fun k => by
  show setf S.fall 1 (S.fall 1 - 1) k ≤ _
  by_cases e : k = 1
  · subst e; rw [setf_same]; have := h.fall 1; omega
  · rw [setf_other _ _ e]; exact h.fall k, h.left⟩
theorem buildSup1 (w : World) : (Instr.build 34 #[(0, .int .i64 (-1))]).run Tryz.prog w = .ok (.agg #[.int .i64 (-1), .int .i64 0, .int .i64 0, .int .i64 0, .int .i64 0, .int .i64 0, .int .i64 0]) w := run_build w _ _ _ (by kernel_rfl)
theorem Upd.drewN {L : List Nat} {a w : World} (h : Upd L a w) (n : Nat) : Upd L a (w.drewN n) := ⟨h.os, h.tape, h.output, h.size, h.block⟩
theorem pickS_none {n : Int} {b : List Int} {i : Int} {l : List Nat} (h : getSuper l = none) : pickS n b i l = b := by unfold pickS; rw [h]
theorem pickS_some {n i : Int} {l : List Nat} {y0 y1 y2 y3 y4 y5 y6 s0 s1 s2 s3 s4 s5 s6 : Int} (h : getSuper l = some [s0, s1, s2, s3, s4, s5, s6]) : pickS n [y0, y1, y2, y3, y4, y5, y6] i l = if fitsOn s2 s3 s4 s5 n && (decide (s0 % 2 = i) && decide (y0 < s0)) then [s0, s1, s2, s3, s4, s5, s6] else [y0, y1, y2, y3, y4, y5, y6] := by unfold pickS; rw [h]; rfl
def bestK (n : Int) (l0 l1 : List Nat) : Nat → List Int
  | 0 => bad7
  | 1 => pickS n bad7 0 l0
  | _ => pickS n (pickS n bad7 0 l0) 1 l1
def PickAt (w : World) (d t : Nat) (F : Nat → Prop) (g : Nat) (R : List (Nat × Obj)) (S : Dk) (b : List Int) (W : World) : Prop := ∃ y0 y1 y2 y3 y4 y5 y6, b = [y0, y1, y2, y3, y4, y5, y6] ∧ LawT w W d t F ((g, .cells (supC y0 y1 y2 y3 y4 y5 y6) 34 (0, 0)) :: R) S
theorem lt_read {w wr : World} {d t : Nat} {F : Nat → Prop} {T : List (Nat × Obj)} {S : Dk} (h : LawT w wr d t F T S) (p c : Int) :
    Calls Tryz.prog 24 #[.pointer (some ⟨d, 0, none⟩), .int .i64 p, .int .i64 c] wr fun e w' => ReadOut wr.heap.size (S.read p c).1 e w' ∧ LawT w w' d t F T (S.read p c).2 ∧ Upd [d] wr w' :=
  (x_read h.disk p c).mono fun e w' ⟨h1, h2, h3⟩ => ⟨h1, h.next h2 (fun _ hx => .inl hx) (h3.p (F := (· = d)) (by simp)) (fun x hx => by rw [hx]; exact h.disk.fd), h3⟩
theorem LawT.keep2 {w wr : World} {d t : Nat} {F : Nat → Prop} {T : List (Nat × Obj)} {S : Dk} (h : LawT w wr d t F T S) {g : Nat} {o : Obj} (hg : ¬ F g) (hgt : g ≠ t) (ho : wr.heap[g]? = some o) : LawT w wr d t F ((g, o) :: T) S := by
  obtain ⟨o', h1, h2, h3, h4⟩ := h
  refine ⟨o', (h1.keep hg ho).sub (fun p hp => by simp only [List.mem_cons] at hp ⊢; rcases hp with h | h | h <;> simp [h]), h2, h3, fun p hp => ?_⟩
  rcases List.mem_cons.1 hp with rfl | hp
  · exact hgt
  · exact h4 p hp
abbrev nil2 : Array Value := #[.slice none 0 0, .slice none 0 0]
set_option maxRecDepth 100000 in
set_option maxHeartbeats 3200000 in
theorem load_any {w wr : World} {d t : Nat} {F : Nat → Prop} {T : List (Nat × Obj)} {S : Dk} (h : LawT w wr d t F T S) :
    Calls Tryz.prog 10 #[.pointer (some ⟨d, 0, none⟩), pt t] wr (LoadOut w d t F T S.load) := by
  have hbd := fun w => (show (Instr.build 34 #[]).run Tryz.prog w = .ok (superV superNone) w from run_build w _ _ _ (by kernel_rfl))
  unfold superV superNone i64s at hbd
  simp only [List.map_cons, List.map_nil] at hbd
  have hb4 := heap_alloc_new wr (.cells (supC 0 0 0 0 0 0 0) 34)
  have hA := h.keep ((Upd.refl [] wr).alloc _) (Nat.le_refl _) hb4
  have HSZ := Lib.hid (x_size hA.disk)
  have hs0 : w.heap.size ≤ wr.heap.size := h.all.size
  by_cases hn : S.n < 2
  · have hl : S.load = ((superNone, 1), S) := by unfold Dk.load; rw [if_pos hn]
    rw [hl]
    have HA := Lib.hid hA
    have HB4 := Lib.hid hb4
    clear h hb4 hA hl hs0
    unfold pt
    go_enter Tryz.func10, Tryz.ntmps10
    go_wp2_with fail
    (with_reducible refine HSZ.out.mono ?_)
    rintro e w1 ⟨rfl, rfl⟩
    go_wp2
    refine bodyPost_ret (results_block_tmp Tryz.results10 _ _ wr.heap.size 7 _ _ _ _ rfl HB4.out Tryz.underlying34 rfl (by kernel_rfl) rfl) rfl ⟨rfl, HA.out.drop fun p hp => List.mem_cons_of_mem _ hp⟩
  · have hok := h.disk.ok
    obtain ⟨f1, f2⟩ := read_facts hok (p := 0) (by omega)
    obtain ⟨g1, g2⟩ := read_facts (S := S.tick 1) (by have := (h.disk.ok); exact this.tick1) (p := 1) (show 1 < S.n by omega)
    obtain ⟨l0, e0, he0⟩ : ∃ l0 e0, S.read 0 1 = ((l0, e0), S.tick 1) := ⟨_, _, by rw [← f1]; rfl⟩
    obtain ⟨l1, e1, he1⟩ : ∃ l1 e1, (S.tick 1).read 1 1 = ((l1, e1), (S.tick 1).tick 1) := ⟨_, _, by rw [← g1]; rfl⟩
    rw [show ((0 : Nat) : Int) = 0 from rfl, he0] at f2
    rw [show ((1 : Nat) : Int) = 1 from rfl, he1] at g2
    dsimp only at f2 g2
    have hld : S.load = if e0 = 0 ∧ e1 = 0 then (if (pickS S.n (pickS S.n bad7 0 l0) 1 l1).getD 0 0 < 0 then (superNone, 14) else (pickS S.n (pickS S.n bad7 0 l0) 1 l1, 0), (S.tick 1).tick 1) else ((superNone, 10), (S.tick 1).tick 1) := by
      unfold Dk.load
      rw [if_neg hn, he0]
      dsimp only
      rw [he1]
    have hTl : ∀ p ∈ T, p.1 < wr.heap.size := fun p hp => lt_of_block (h.get (g := p.1) (o := p.2) hp)
    have HTL := Lib.hid hTl
    have HFO := Lib.hid h.disk.old
    have HTT := Lib.hid h.tab.lt
    have hA2 := hA.keep ((Upd.refl [] _).alloc (.cells nil2 79)) (Nat.le_refl _) (heap_alloc_new _ _)
    simp only [World.size_alloc] at hA2
    have hrd := lt_read hA2 0 1
    rw [he0] at hrd
    have HRD := Lib.hid hrd
    have HLD := Lib.hid hld
    have HE1 := Lib.hid he1
    have HF2 := Lib.hid f2
    have HG2 := Lib.hid g2
    have HS0 := Lib.hid hs0
    clear h hb4 hA hA2 hTl hrd hld he0 he1 f1 f2 g1 g2 hs0 hok
    unfold pt
    go_enter Tryz.func10, Tryz.ntmps10
    go_wp2_with fail
    (with_reducible refine HSZ.out.mono ?_)
    rintro e w1 ⟨rfl, rfl⟩
    go_wp2_with fail
    refine wp_loop_rounds 3 ?_
    rw [rounds_succ]
    go_wp2_with fail
    (with_reducible refine HRD.out.mono ?_)
    rintro e w2 ⟨⟨v0, rfl, r0⟩, h2, u2⟩
    rcases HF2.out with ⟨rfl, hlen0⟩ | ⟨rfl, rfl⟩
    · dsimp only at r0
      obtain ⟨g0, cap0, rfl, hg0, hlt0, hc0, hm0, hb0⟩ := row_some r0 hlen0 (by decide)
      simp only [World.size_alloc] at hg0
      obtain ⟨ob0, hob0⟩ : ∃ o, w2.heap[g0]? = some o := ⟨_, Array.getElem?_eq_getElem hlt0⟩
      have hby0 : ∀ W : World, W.heap[g0]? = some ob0 → IsBytes W (some ⟨g0, 0, none⟩) l0 := fun W hW => hb0.same (by rw [hW, hob0])
      have hk := (h2.keep2 (g := g0) (fun e => by have := HFO.out g0 e; omega) (by have := HTT.out; omega) hob0).drop (T' := (wr.heap.size + 1, .cells #[.slice none 0 0, .slice none 0 0] 79 (0, 0)) :: (wr.heap.size, .cells (supC 0 0 0 0 0 0 0) 34 (0, 0)) :: (g0, ob0) :: T) (fun p hp => by simp only [List.mem_cons] at hp ⊢; rcases hp with h | h | h | h <;> simp [h])
      have q0 := (cells_of (hk.get (List.mem_cons_self ..))).1 0
      have f0 := (cells_of (hk.get (List.mem_cons_self ..))).2 0
      simp only [List.getElem?_toArray, List.getElem?_cons_zero, List.getElem?_cons_succ] at q0
      have hp3 := hk.put (o' := .cells #[.slice (some ⟨g0, 0, none⟩) 256 cap0, .slice none 0 0] 79 (0, 0)) (by have := HS0.out; omega) (fun p hp => by
        simp only [List.mem_cons] at hp
        rcases hp with rfl | rfl | hp
        · simp
        · dsimp only; omega
        · have := HTL.out p hp; omega) ((Upd.refl [wr.heap.size + 1] _).setCell (p := ⟨wr.heap.size + 1, 0, none⟩) (.inl (by simp)) (.slice (some ⟨g0, 0, none⟩) 256 cap0)) (heap_setCell_same _ _ _ _ _ _ (hk.get (List.mem_cons_self ..)))
      have hrd1 := lt_read hp3 1 1
      rw [HE1.out] at hrd1
      have HRD1 := Lib.hid hrd1
      have HBY0 := Lib.hid hby0
      have HG0 := Lib.hid hg0
      have HW2 := Lib.hid (show wr.heap.size + 2 ≤ w2.heap.size by omega)
      have HG0L := Lib.hid hlt0
      clear hb0 r0 hp3 hrd1 h2 u2 hk hob0 hby0
      go_wp2
      rw [rounds_succ]
      clear q0 f0
      go_wp2_with fail
      (with_reducible refine HRD1.out.mono ?_)
      rintro e w4 ⟨⟨v1, rfl, r1⟩, h4, u4⟩
      dsimp only at r1 h4
      rcases HG2.out with ⟨rfl, hlen1⟩ | ⟨rfl, rfl⟩
      · obtain ⟨g1, cap1, rfl, hg1, hlt1, hc1, hm1, hb1⟩ := row_some r1 hlen1 (by decide)
        simp only [World.size_setCell] at hg1
        obtain ⟨ob1, hob1⟩ : ∃ o, w4.heap[g1]? = some o := ⟨_, Array.getElem?_eq_getElem hlt1⟩
        have hby1 : ∀ W : World, W.heap[g1]? = some ob1 → IsBytes W (some ⟨g1, 0, none⟩) l1 := fun W hW => hb1.same (by rw [hW, hob1])
        have hk := (h4.keep2 (g := g1) (fun e => by have := HFO.out g1 e; have := HW2.out; omega) (by have := HTT.out; have := HW2.out; omega) hob1).drop (T' := (wr.heap.size + 1, .cells #[.slice (some ⟨g0, 0, none⟩) 256 cap0, .slice none 0 0] 79 (0, 0)) :: (wr.heap.size, .cells (supC 0 0 0 0 0 0 0) 34 (0, 0)) :: (g0, ob0) :: (g1, ob1) :: T) (fun p hp => by simp only [List.mem_cons] at hp ⊢; rcases hp with h | h | h | h | h <;> simp [h])
        have q1 := (cells_of (hk.get (List.mem_cons_self ..))).1 1
        have f1 := (cells_of (hk.get (List.mem_cons_self ..))).2 1
        simp only [List.getElem?_toArray, List.getElem?_cons_zero, List.getElem?_cons_succ] at q1
        have hw2 := HW2.out
        have hp5 := hk.put (o' := .cells #[.slice (some ⟨g0, 0, none⟩) 256 cap0, .slice (some ⟨g1, 0, none⟩) 256 cap1] 79 (0, 0)) (by have := HS0.out; omega) (fun p hp => by
          simp only [List.mem_cons] at hp
          rcases hp with rfl | rfl | rfl | hp
          · simp
          · dsimp only; omega
          · dsimp only; omega
          · have := HTL.out p hp; omega) ((Upd.refl [wr.heap.size + 1] _).setCell (p := ⟨wr.heap.size + 1, 1, none⟩) (.inl (by simp)) (.slice (some ⟨g1, 0, none⟩) 256 cap1)) (heap_setCell_same _ _ _ _ _ _ (hk.get (List.mem_cons_self ..)))
        have HP5 := Lib.hid hp5
        have HBY1 := Lib.hid hby1
        have HG1 := Lib.hid hg1
        have HG1L := Lib.hid hlt1
        have HW24 := Lib.hid (show w2.heap.size ≤ w4.heap.size by have := u4.size; simpa only [World.size_setCell] using this)
        clear hb1 r1 h4 u4 hk hob1 hby1 hp5
        have hk6 := HP5.out.keep ((Upd.refl [] _).alloc (.cells (supC (-1) 0 0 0 0 0 0) 34)) (Nat.le_refl _) (heap_alloc_new _ _)
        simp only [World.size_setCell] at hk6
        have z := cells_of (hk6.get (List.mem_cons_of_mem _ (List.mem_cons_self ..)))
        have z0 := z.1 0
        have z1 := z.1 1
        simp only [List.getElem?_toArray, List.getElem?_cons_zero, List.getElem?_cons_succ] at z0 z1
        have hbd1 := buildSup1
        have HK6 := Lib.hid hk6
        clear hk6 z
        go_wp2
        rw [rounds_succ]
        obtain ⟨R, hR⟩ : ∃ R, (wr.heap.size, Obj.cells (supC 0 0 0 0 0 0 0) 34 (0, 0)) :: (g0, ob0) :: (g1, ob1) :: T = R := ⟨_, rfl⟩
        have hpk : PickAt w d t F w4.heap.size R ((S.tick 1).tick 1) (bestK S.n l0 l1 0) ((w4.setCell ⟨wr.heap.size + 1, 1, none⟩ (.slice (some ⟨g1, 0, none⟩) 256 cap1)).alloc (.cells (supC (-1) 0 0 0 0 0 0) 34)) :=
          ⟨-1, 0, 0, 0, 0, 0, 0, rfl, HK6.out.drop fun p hp => by rw [← hR] at hp; simp only [List.mem_cons] at hp ⊢; rcases hp with h | h | h | h | h <;> simp [h]⟩
        have hRn : ∀ p ∈ R, p.1 < w4.heap.size := fun p hp => by
          rw [← hR] at hp
          have hw2 := HW2.out
          have hw4 : w2.heap.size ≤ w4.heap.size := by have := HW24.out; exact this
          simp only [List.mem_cons] at hp
          rcases hp with rfl | rfl | rfl | hp
          · dsimp only; omega
          · dsimp only; have := HG0L.out; omega
          · exact HG1L.out
          · have := HTL.out p hp; omega
        have hR0 : (g0, ob0) ∈ R ∧ (g1, ob1) ∈ R := by rw [← hR]; simp
        have HPK := Lib.hid hpk
        have HRN := Lib.hid hRn
        have HR0 := Lib.hid hR0
        have HRR := Lib.hid hR
        clear hpk hRn hR0 hR
        go_wp2_with fail
        go_loopw [50] (fun x W => ∃ k : Nat, k ≤ 2 ∧ x = .int .i64 k ∧ PickAt w d t F w4.heap.size R ((S.tick 1).tick 1) (bestK S.n l0 l1 k) W) (fun i _ => 2 - (intOf i).toNat)
        case atStart => exact ⟨0, by omega, rfl, HPK.out⟩
        case round =>
          obtain ⟨k, hk, rfl, y0, y1, y2, y3, y4, y5, y6, hy, hP⟩ := hrel
          by_cases hk2 : k < 2
          · have hidx := fun W => idx2 (.slice (some ⟨g0, 0, none⟩) 256 cap0) (.slice (some ⟨g1, 0, none⟩) 256 cap1) k hk2 W
            obtain ⟨gk, capk, lk, obk, ev, hm, hby, hlen, hck, hmk, hbest⟩ : ∃ gk capk lk obk, (if k = 0 then (.slice (some ⟨g0, 0, none⟩) 256 cap0 : Value) else .slice (some ⟨g1, 0, none⟩) 256 cap1) = .slice (some ⟨gk, 0, none⟩) 256 capk ∧ (gk, obk) ∈ R ∧ (∀ W : World, W.heap[gk]? = some obk → IsBytes W (some ⟨gk, 0, none⟩) lk) ∧ lk.length = 256 ∧ 256 ≤ capk ∧ capk ≤ 9223372036854775807 ∧ bestK S.n l0 l1 (k + 1) = pickS S.n (bestK S.n l0 l1 k) k lk := by
              have hk01 : k = 0 ∨ k = 1 := by omega
              rcases hk01 with rfl | rfl
              · exact ⟨g0, cap0, l0, ob0, rfl, HR0.out.1, HBY0.out, hlen0, hc0, hm0, rfl⟩
              · exact ⟨g1, cap1, l1, ob1, rfl, HR0.out.2, HBY1.out, hlen1, hc1, hm1, rfl⟩
            simp only [ev] at hidx
            have hgs := getSuper_any (cap := capk) hP.tab (hby wr (hP.get (List.mem_cons_of_mem _ hm))) (fun b o e => by cases e; obtain ⟨o', h1, h2, h3, h4⟩ := hP; exact h4 _ (List.mem_cons_of_mem _ hm)) (by rw [hlen]; exact hck) hmk
            rw [hlen] at hgs
            unfold pt at hgs
            rw [hy] at hbest
            have HGS := Lib.hid hgs
            have HPP := Lib.hid hP
            have HBEST := Lib.hid hbest
            clear hgs hP hby hlen hck hmk hm ev hbest hy
            go_wp2_with fail
            (with_reducible refine HGS.out.mono ?_)
            rintro e w5 ⟨rfl, ht5, u5⟩
            have h5 := HPP.out.turn u5 ht5
            have H5 := Lib.hid h5
            clear u5 ht5 h5
            cases hg : getSuper lk with
            | none =>
              have hnx : bestK S.n l0 l1 (k + 1) = [y0, y1, y2, y3, y4, y5, y6] := by rw [HBEST.out, pickS_none hg]
              have HNX := Lib.hid hnx
              simp only [Option.getD_none, Option.isSome_none, superV, superNone, i64s, List.map_cons, List.map_nil]
              clear hg hnx
              go_wp2_with fail
              go_quiet (fail)
              go_wp2
              go_roundw
              case rel => exact ⟨k + 1, Nat.succ_le_of_lt hk2, by go_num, _, _, _, _, _, _, _, HNX.out, H5.out.up (((Upd.refl [] _).alloc _).drewN _)⟩
              case measure => simp [intOf]; omega
            | some s =>
              obtain ⟨hs7, hso⟩ := getSuper_7 hg
              obtain ⟨s0, s1, s2, s3, s4, s5, s6, rfl⟩ := list7 hs7
              have hps := pickS_some (n := S.n) (i := k) (y0 := y0) (y1 := y1) (y2 := y2) (y3 := y3) (y4 := y4) (y5 := y5) (y6 := y6) hg
              rw [← HBEST.out] at hps
              obtain ⟨r0, _, _, _, _, _, _⟩ := okSuper_7 hso
              have hoc : okCheck s0 s1 s2 s3 s4 s5 s6 S.n = fitsOn s2 s3 s4 s5 S.n := by unfold okCheck; rw [hso]; rfl
              have hsn := H5.out.disk.ok.n2
              have hk14 := H5.out.keep ((Upd.refl [] _).alloc (.cells (supC s0 s1 s2 s3 s4 s5 s6) 34)) (Nat.le_refl _) (heap_alloc_new _ _)
              have HS : ∀ W, Upd [] (w5.alloc (.cells (supC s0 s1 s2 s3 s4 s5 s6) 34)) W → _ := fun W hW => (⟨sup_cells ((hk14.up hW).get (List.mem_cons_self ..)), (sup_cells ((hk14.up hW).get (List.mem_cons_of_mem _ (List.mem_cons_self ..)))).1⟩ : _ ∧ _)
              have HSZ2 : ∀ W, Upd [] (w5.alloc (.cells (supC s0 s1 s2 s3 s4 s5 s6) 34)) W → _ := fun W hW => x_size (hk14.up hW).disk
              have HCH : ∀ W, Upd [] (w5.alloc (.cells (supC s0 s1 s2 s3 s4 s5 s6) 34)) W → _ := fun W hW => check_any (w := W) s0 s1 s2 s3 s4 s5 s6 (S.n : Nat) (by show -9223372036854775808 ≤ ((S.n : Nat) : Int) ∧ _; change S.n ≤ 4096 at hsn; omega)
              rw [hoc] at HCH
              have HS := Lib.hid HS
              have HSZ2 : Hid (∀ W, Upd [] (w5.alloc (.cells (supC s0 s1 s2 s3 s4 s5 s6) 34)) W → Calls Tryz.prog 18 #[.pointer (some ⟨d, 0, none⟩)] W fun e w' => e = .returned (.int .i64 (S.n : Nat)) ∧ W = w') := Lib.hid HSZ2
              have HK14 := Lib.hid hk14
              clear hk14 hoc hsn hso hs7 hg
              simp only [Option.getD_some, Option.isSome_some, superV, i64s, List.map_cons, List.map_nil]
              cases hf : fitsOn s2 s3 s4 s5 S.n
              · rw [hf] at HCH hps
                have HCH := Lib.hid HCH
                have HNX := Lib.hid (hps.trans (if_neg (by simp)))
                clear hf hps
                go_wp2_with fail
                refine wp_region_quiet_at (fun W => Upd [] (w5.alloc (.cells (supC s0 s1 s2 s3 s4 s5 s6) 34)) W) rfl (by kernel_rfl) (Upd.refl [] _).drew ?_
                iterate 4
                  apply qs_val rfl
                  · intro W hW
                    obtain ⟨⟨d0, d1, d2, d3, d4, d5, d6⟩, dy⟩ := HS.out W hW
                    go_simp
                    all_goals with_reducible rfl
                  simp only [Act.put, List.setIfInBounds_toArray, List.set_cons_zero, List.set_cons_succ]
                refine qs_call (v := .int .i64 (S.n : Nat)) (f := 18) (args := #[.pointer (some ⟨d, 0, none⟩)]) rfl (fun W hW => by go_simp) (fun W hW => (HSZ2.out W hW).mono fun e W' ⟨q1, q2⟩ => ⟨q1, q2 ▸ hW⟩) ?_
                simp only [Act.put, List.setIfInBounds_toArray, List.set_cons_zero, List.set_cons_succ]
                refine qs_call (v := .int .i64 1) (f := 17) (args := #[.agg #[.int .i64 s0, .int .i64 s1, .int .i64 s2, .int .i64 s3, .int .i64 s4, .int .i64 s5, .int .i64 s6], .int .i64 (S.n : Nat)]) rfl (fun W hW => by go_simp) (fun W hW => (HCH.out W hW).mono fun e W' ⟨q1, q2⟩ => ⟨q1, hW.trans q2⟩) ?_
                simp only [Act.put, List.setIfInBounds_toArray, List.set_cons_zero, List.set_cons_succ]
                iterate 3
                  apply qs_val rfl
                  · intro W hW
                    obtain ⟨⟨d0, d1, d2, d3, d4, d5, d6⟩, dy⟩ := HS.out W hW
                    go_simp
                    all_goals with_reducible rfl
                  simp only [Act.put, List.setIfInBounds_toArray, List.set_cons_zero, List.set_cons_succ]
                iterate 5
                  refine qs_skip rfl ?_
                  simp only [Act.put, List.setIfInBounds_toArray, List.set_cons_zero, List.set_cons_succ]
                iterate 2
                  apply qs_val rfl
                  · intro W hW
                    obtain ⟨⟨d0, d1, d2, d3, d4, d5, d6⟩, dy⟩ := HS.out W hW
                    go_simp
                    all_goals with_reducible rfl
                  simp only [Act.put, List.setIfInBounds_toArray, List.set_cons_zero, List.set_cons_succ]
                iterate 5
                  refine qs_skip rfl ?_
                  simp only [Act.put, List.setIfInBounds_toArray, List.set_cons_zero, List.set_cons_succ]
                iterate 1
                  apply qs_val rfl
                  · intro W hW
                    obtain ⟨⟨d0, d1, d2, d3, d4, d5, d6⟩, dy⟩ := HS.out W hW
                    go_simp
                    all_goals with_reducible rfl
                  simp only [Act.put, List.setIfInBounds_toArray, List.set_cons_zero, List.set_cons_succ]
                refine wpQuiet_nil ?_
                intro W6 hW6
                have H6 := Lib.hid (HK14.out.up hW6)
                clear hW6
                go_wp2
                go_roundw
                case rel => exact ⟨k + 1, Nat.succ_le_of_lt hk2, by go_num, _, _, _, _, _, _, _, HNX.out, H6.out.drop fun p hp => List.mem_cons_of_mem _ hp⟩
                case measure => simp [intOf]; omega
              · rw [hf] at HCH hps
                have HCH := Lib.hid HCH
                have htm : s0.tmod 2 = s0 % 2 := Int.tmod_eq_emod_of_nonneg r0.1
                by_cases hp : s0 % 2 = (k : Int)
                · have hpb : (s0 % 2 == (k : Int)) = true := by simpa using hp
                  by_cases hy : y0 < s0
                  · have HNX := Lib.hid (hps.trans (if_pos (by simp [hp, hy])))
                    clear hf hps
                    go_wp2_with fail
                    refine wp_region_quiet_at (fun W => Upd [] (w5.alloc (.cells (supC s0 s1 s2 s3 s4 s5 s6) 34)) W) rfl (by kernel_rfl) (Upd.refl [] _).drew ?_
                    iterate 4
                      apply qs_val rfl
                      · intro W hW
                        obtain ⟨⟨d0, d1, d2, d3, d4, d5, d6⟩, dy⟩ := HS.out W hW
                        go_simp
                        all_goals with_reducible rfl
                      simp only [Act.put, List.setIfInBounds_toArray, List.set_cons_zero, List.set_cons_succ]
                    refine qs_call (v := .int .i64 (S.n : Nat)) (f := 18) (args := #[.pointer (some ⟨d, 0, none⟩)]) rfl (fun W hW => by go_simp) (fun W hW => (HSZ2.out W hW).mono fun e W' ⟨q1, q2⟩ => ⟨q1, q2 ▸ hW⟩) ?_
                    simp only [Act.put, List.setIfInBounds_toArray, List.set_cons_zero, List.set_cons_succ]
                    refine qs_call (v := .int .i64 0) (f := 17) (args := #[.agg #[.int .i64 s0, .int .i64 s1, .int .i64 s2, .int .i64 s3, .int .i64 s4, .int .i64 s5, .int .i64 s6], .int .i64 (S.n : Nat)]) rfl (fun W hW => by go_simp) (fun W hW => (HCH.out W hW).mono fun e W' ⟨q1, q2⟩ => ⟨q1, hW.trans q2⟩) ?_
                    simp only [Act.put, List.setIfInBounds_toArray, List.set_cons_zero, List.set_cons_succ]
                    iterate 3
                      apply qs_val rfl
                      · intro W hW
                        obtain ⟨⟨d0, d1, d2, d3, d4, d5, d6⟩, dy⟩ := HS.out W hW
                        go_simp
                        all_goals with_reducible rfl
                      simp only [Act.put, List.setIfInBounds_toArray, List.set_cons_zero, List.set_cons_succ]
                    iterate 7
                      apply qs_val rfl
                      · intro W hW
                        obtain ⟨⟨d0, d1, d2, d3, d4, d5, d6⟩, dy⟩ := HS.out W hW
                        go_simp
                        all_goals with_reducible rfl
                      simp only [Act.put, List.setIfInBounds_toArray, List.set_cons_zero, List.set_cons_succ]
                    iterate 6
                      apply qs_val rfl
                      · intro W hW
                        obtain ⟨⟨d0, d1, d2, d3, d4, d5, d6⟩, dy⟩ := HS.out W hW
                        go_simp
                        all_goals with_reducible rfl
                      simp only [Act.put, List.setIfInBounds_toArray, List.set_cons_zero, List.set_cons_succ]
                    refine wpQuiet_nil ?_
                    intro W6 hW6
                    have H6 := Lib.hid (HK14.out.up hW6)
                    have H6' := Lib.hid (H6.out.drop (T' := (w4.heap.size, .cells (supC y0 y1 y2 y3 y4 y5 y6) 34 (0, 0)) :: R) fun p hp => List.mem_cons_of_mem _ hp)
                    obtain ⟨d0, d1, d2, d3, d4, d5, d6⟩ := sup_cells (H6.out.get (List.mem_cons_self ..))
                    clear hW6
                    go_wp2_with (refine wpList_store_all rfl 34 (.tmp 11) (.tmp 82) rfl w4.heap.size _ rfl rfl _ _ (H6'.out.get (List.mem_cons_self ..)) infoSuper rfl (by kernel_rfl) ?_; intro w7 hg7 hu7 _; have G7 := Lib.hid hg7; have U7 := Lib.hid hu7; clear hg7 hu7)
                    go_roundw
                    case rel => exact ⟨k + 1, Nat.succ_le_of_lt hk2, by go_num, _, _, _, _, _, _, _, HNX.out, H6'.out.put (by have := HW2.out; have := HW24.out; have := HS0.out; omega) (fun p hp e => by have := HRN.out p hp; omega) U7.out G7.out⟩
                    case measure => simp [intOf]; omega
                  · have HNX := Lib.hid (hps.trans (if_neg (by simp [hy])))
                    have hy' : s0 ≤ y0 := by omega
                    clear hf hps hy
                    go_wp2_with fail
                    refine wp_region_quiet_at (fun W => Upd [] (w5.alloc (.cells (supC s0 s1 s2 s3 s4 s5 s6) 34)) W) rfl (by kernel_rfl) (Upd.refl [] _).drew ?_
                    iterate 4
                      apply qs_val rfl
                      · intro W hW
                        obtain ⟨⟨d0, d1, d2, d3, d4, d5, d6⟩, dy⟩ := HS.out W hW
                        go_simp
                        all_goals with_reducible rfl
                      simp only [Act.put, List.setIfInBounds_toArray, List.set_cons_zero, List.set_cons_succ]
                    refine qs_call (v := .int .i64 (S.n : Nat)) (f := 18) (args := #[.pointer (some ⟨d, 0, none⟩)]) rfl (fun W hW => by go_simp) (fun W hW => (HSZ2.out W hW).mono fun e W' ⟨q1, q2⟩ => ⟨q1, q2 ▸ hW⟩) ?_
                    simp only [Act.put, List.setIfInBounds_toArray, List.set_cons_zero, List.set_cons_succ]
                    refine qs_call (v := .int .i64 0) (f := 17) (args := #[.agg #[.int .i64 s0, .int .i64 s1, .int .i64 s2, .int .i64 s3, .int .i64 s4, .int .i64 s5, .int .i64 s6], .int .i64 (S.n : Nat)]) rfl (fun W hW => by go_simp) (fun W hW => (HCH.out W hW).mono fun e W' ⟨q1, q2⟩ => ⟨q1, hW.trans q2⟩) ?_
                    simp only [Act.put, List.setIfInBounds_toArray, List.set_cons_zero, List.set_cons_succ]
                    iterate 3
                      apply qs_val rfl
                      · intro W hW
                        obtain ⟨⟨d0, d1, d2, d3, d4, d5, d6⟩, dy⟩ := HS.out W hW
                        go_simp
                        all_goals with_reducible rfl
                      simp only [Act.put, List.setIfInBounds_toArray, List.set_cons_zero, List.set_cons_succ]
                    iterate 7
                      apply qs_val rfl
                      · intro W hW
                        obtain ⟨⟨d0, d1, d2, d3, d4, d5, d6⟩, dy⟩ := HS.out W hW
                        go_simp
                        all_goals with_reducible rfl
                      simp only [Act.put, List.setIfInBounds_toArray, List.set_cons_zero, List.set_cons_succ]
                    iterate 6
                      apply qs_val rfl
                      · intro W hW
                        obtain ⟨⟨d0, d1, d2, d3, d4, d5, d6⟩, dy⟩ := HS.out W hW
                        go_simp
                        all_goals with_reducible rfl
                      simp only [Act.put, List.setIfInBounds_toArray, List.set_cons_zero, List.set_cons_succ]
                    refine wpQuiet_nil ?_
                    intro W6 hW6
                    have H6 := Lib.hid (HK14.out.up hW6)
                    clear hW6
                    go_wp2
                    go_roundw
                    case rel => exact ⟨k + 1, Nat.succ_le_of_lt hk2, by go_num, _, _, _, _, _, _, _, HNX.out, H6.out.drop fun p hp => List.mem_cons_of_mem _ hp⟩
                    case measure => simp [intOf]; omega
                · have hpb : (s0 % 2 == (k : Int)) = false := by simpa using hp
                  have HNX := Lib.hid (hps.trans (if_neg (by simp [hp])))
                  clear hf hps hp
                  go_wp2_with fail
                  refine wp_region_quiet_at (fun W => Upd [] (w5.alloc (.cells (supC s0 s1 s2 s3 s4 s5 s6) 34)) W) rfl (by kernel_rfl) (Upd.refl [] _).drew ?_
                  iterate 4
                    apply qs_val rfl
                    · intro W hW
                      obtain ⟨⟨d0, d1, d2, d3, d4, d5, d6⟩, dy⟩ := HS.out W hW
                      go_simp
                      all_goals with_reducible rfl
                    simp only [Act.put, List.setIfInBounds_toArray, List.set_cons_zero, List.set_cons_succ]
                  refine qs_call (v := .int .i64 (S.n : Nat)) (f := 18) (args := #[.pointer (some ⟨d, 0, none⟩)]) rfl (fun W hW => by go_simp) (fun W hW => (HSZ2.out W hW).mono fun e W' ⟨q1, q2⟩ => ⟨q1, q2 ▸ hW⟩) ?_
                  simp only [Act.put, List.setIfInBounds_toArray, List.set_cons_zero, List.set_cons_succ]
                  refine qs_call (v := .int .i64 0) (f := 17) (args := #[.agg #[.int .i64 s0, .int .i64 s1, .int .i64 s2, .int .i64 s3, .int .i64 s4, .int .i64 s5, .int .i64 s6], .int .i64 (S.n : Nat)]) rfl (fun W hW => by go_simp) (fun W hW => (HCH.out W hW).mono fun e W' ⟨q1, q2⟩ => ⟨q1, hW.trans q2⟩) ?_
                  simp only [Act.put, List.setIfInBounds_toArray, List.set_cons_zero, List.set_cons_succ]
                  iterate 3
                    apply qs_val rfl
                    · intro W hW
                      obtain ⟨⟨d0, d1, d2, d3, d4, d5, d6⟩, dy⟩ := HS.out W hW
                      go_simp
                      all_goals with_reducible rfl
                    simp only [Act.put, List.setIfInBounds_toArray, List.set_cons_zero, List.set_cons_succ]
                  iterate 7
                    apply qs_val rfl
                    · intro W hW
                      obtain ⟨⟨d0, d1, d2, d3, d4, d5, d6⟩, dy⟩ := HS.out W hW
                      go_simp
                      all_goals with_reducible rfl
                    simp only [Act.put, List.setIfInBounds_toArray, List.set_cons_zero, List.set_cons_succ]
                  iterate 5
                    refine qs_skip rfl ?_
                    simp only [Act.put, List.setIfInBounds_toArray, List.set_cons_zero, List.set_cons_succ]
                  iterate 1
                    apply qs_val rfl
                    · intro W hW
                      obtain ⟨⟨d0, d1, d2, d3, d4, d5, d6⟩, dy⟩ := HS.out W hW
                      go_simp
                      all_goals with_reducible rfl
                    simp only [Act.put, List.setIfInBounds_toArray, List.set_cons_zero, List.set_cons_succ]
                  refine wpQuiet_nil ?_
                  intro W6 hW6
                  have H6 := Lib.hid (HK14.out.up hW6)
                  clear hW6
                  go_wp2
                  go_roundw
                  case rel => exact ⟨k + 1, Nat.succ_le_of_lt hk2, by go_num, _, _, _, _, _, _, _, HNX.out, H6.out.drop fun p hp => List.mem_cons_of_mem _ hp⟩
                  case measure => simp [intOf]; omega
          · obtain rfl : k = 2 := by omega
            have hb : pickS S.n (pickS S.n bad7 0 l0) 1 l1 = [y0, y1, y2, y3, y4, y5, y6] := hy
            rw [← HRR.out] at hP
            have hP4 := hP.drop (T' := (_, .cells (supC 0 0 0 0 0 0 0) 34 (0, 0)) :: (w4.heap.size, .cells (supC y0 y1 y2 y3 y4 y5 y6) 34 (0, 0)) :: T) (fun p hp => by simp only [List.mem_cons] at hp ⊢; rcases hp with h | h | h; exact .inr (.inl h); exact .inl h; exact .inr (.inr (.inr (.inr h))))
            obtain ⟨d0, d1, d2, d3, d4, d5, d6⟩ := sup_cells (hP4.get (List.mem_cons_of_mem _ (List.mem_cons_self ..)))
            have HP4 := Lib.hid hP4
            have HB := Lib.hid hb
            clear hP hP4 hy hb
            by_cases hy0 : y0 < 0
            · go_wp2_with (refine wpList_store_all rfl 34 (.tmp 4) (.tmp 87) rfl _ _ rfl rfl _ _ (HP4.out.get (List.mem_cons_self ..)) infoSuper rfl (by kernel_rfl) ?_; intro w6 hg6 hu6 _; have G6 := Lib.hid hg6; have U6 := Lib.hid hu6; clear hg6 hu6)
              rw [HLD.out, if_pos (by simp), HB.out, if_pos (show [y0, y1, y2, y3, y4, y5, y6].getD 0 0 < 0 from hy0)]
              refine bodyPost_ret (results_block_tmp Tryz.results10 _ _ _ 7 _ _ _ _ rfl G6.out Tryz.underlying34 rfl (by kernel_rfl) rfl) rfl ⟨rfl, (HP4.out.put HS0.out (fun p hp => by
                rcases List.mem_cons.1 hp with rfl | hp
                · have := HW2.out; have := HW24.out; dsimp only; omega
                · have := HTL.out p hp; omega) U6.out G6.out).drop fun p hp => List.mem_cons_of_mem _ (List.mem_cons_of_mem _ hp)⟩
            · go_wp2_with (refine wpList_store_all rfl 34 (.tmp 4) (.tmp 88) rfl _ _ rfl rfl _ _ (HP4.out.get (List.mem_cons_self ..)) infoSuper rfl (by kernel_rfl) ?_; intro w6 hg6 hu6 _; have G6 := Lib.hid hg6; have U6 := Lib.hid hu6; clear hg6 hu6)
              rw [HLD.out, if_pos (by simp), HB.out, if_neg (show ¬ [y0, y1, y2, y3, y4, y5, y6].getD 0 0 < 0 from by show ¬ y0 < 0; omega)]
              refine bodyPost_ret (results_block_tmp Tryz.results10 _ _ _ 7 _ _ _ _ rfl G6.out Tryz.underlying34 rfl (by kernel_rfl) rfl) rfl ⟨rfl, (HP4.out.put HS0.out (fun p hp => by
                rcases List.mem_cons.1 hp with rfl | hp
                · have := HW2.out; have := HW24.out; dsimp only; omega
                · have := HTL.out p hp; omega) U6.out G6.out).drop fun p hp => List.mem_cons_of_mem _ (List.mem_cons_of_mem _ hp)⟩
      · obtain ⟨a1, cap1, rfl, hb1, hl1, hc1, hm1⟩ := r1.slice
        have q1 := (cells_of (h4.get (List.mem_cons_self ..))).1 1
        have f1 := (cells_of (h4.get (List.mem_cons_self ..))).2 1
        simp only [List.getElem?_toArray, List.getElem?_cons_zero, List.getElem?_cons_succ] at q1
        have hp5 := h4.put (o' := .cells #[.slice (some ⟨g0, 0, none⟩) 256 cap0, .slice a1 0 cap1] 79 (0, 0)) (by have := HS0.out; omega) (fun p hp => by
          simp only [List.mem_cons] at hp
          rcases hp with rfl | rfl | hp
          · simp
          · dsimp only; omega
          · have := HTL.out p hp; omega) ((Upd.refl [wr.heap.size + 1] _).setCell (p := ⟨wr.heap.size + 1, 1, none⟩) (.inl (by simp)) (.slice a1 0 cap1)) (heap_setCell_same _ _ _ _ _ _ (h4.get (List.mem_cons_self ..)))
        clear hb1 hl1 hc1 hm1 r1 h4 u4
        simp only [List.length_nil]
        have HP5 := Lib.hid (hp5.drop (T' := (wr.heap.size, .cells (supC 0 0 0 0 0 0 0) 34 (0, 0)) :: T) (fun p hp => by simp only [List.mem_cons] at hp ⊢; rcases hp with h | h <;> simp [h]))
        clear hp5
        go_wp2
        rw [rounds_succ]
        go_wp2_with (refine wpList_store_all rfl 34 (.tmp 4) (.tmp 47) rfl wr.heap.size _ rfl rfl _ _ (HP5.out.get (List.mem_cons_self ..)) infoSuper rfl (by kernel_rfl) ?_; intro w6 hg6 hu6 _; have G6 := Lib.hid hg6; have U6 := Lib.hid hu6; clear hg6 hu6)
        rw [HLD.out, if_neg (by simp)]
        refine bodyPost_ret (results_block_tmp Tryz.results10 _ _ wr.heap.size 7 _ _ _ _ rfl G6.out Tryz.underlying34 rfl (by kernel_rfl) rfl) rfl ⟨rfl, (HP5.out.put HS0.out (fun p hp => by have := HTL.out p hp; omega) U6.out G6.out).drop fun p hp => List.mem_cons_of_mem _ hp⟩
    · obtain ⟨a0, cap0, rfl, hb0, hl0, hc0, hm0⟩ := r0.slice
      dsimp only at hb0 hl0 hc0 hm0 r0
      have q0 := (cells_of (h2.get (List.mem_cons_self ..))).1 0
      have f0 := (cells_of (h2.get (List.mem_cons_self ..))).2 0
      simp only [List.getElem?_toArray, List.getElem?_cons_zero, List.getElem?_cons_succ] at q0
      have hp3 := h2.put (o' := .cells #[.slice a0 0 cap0, .slice none 0 0] 79 (0, 0)) (by have := HS0.out; omega) (fun p hp => by
        simp only [List.mem_cons] at hp
        rcases hp with rfl | hp
        · simp
        · have := HTL.out p hp; omega) ((Upd.refl [wr.heap.size + 1] _).setCell (p := ⟨wr.heap.size + 1, 0, none⟩) (.inl (by simp)) (.slice a0 0 cap0)) (heap_setCell_same _ _ _ _ _ _ (h2.get (List.mem_cons_self ..)))
      have hrd1 := lt_read hp3 1 1
      rw [HE1.out] at hrd1
      have HRD1 := Lib.hid hrd1
      clear hb0 hl0 hc0 hm0 r0 hp3 hrd1 h2 u2
      simp only [List.length_nil]
      go_wp2
      rw [rounds_succ]
      clear q0 f0
      go_wp2_with fail
      (with_reducible refine HRD1.out.mono ?_)
      rintro e w4 ⟨⟨v1, rfl, r1⟩, h4, u4⟩
      obtain ⟨a1, cap1, rfl, hb1, hl1, hc1, hm1⟩ := r1.slice
      dsimp only at hb1 hl1 hc1 hm1 r1 h4
      have q1 := (cells_of (h4.get (List.mem_cons_self ..))).1 1
      have f1 := (cells_of (h4.get (List.mem_cons_self ..))).2 1
      simp only [List.getElem?_toArray, List.getElem?_cons_zero, List.getElem?_cons_succ] at q1
      have hp5 := h4.put (o' := .cells #[.slice a0 0 cap0, .slice a1 l1.length cap1] 79 (0, 0)) (by have := HS0.out; omega) (fun p hp => by
        simp only [List.mem_cons] at hp
        rcases hp with rfl | hp
        · simp
        · have := HTL.out p hp; omega) ((Upd.refl [wr.heap.size + 1] _).setCell (p := ⟨wr.heap.size + 1, 1, none⟩) (.inl (by simp)) (.slice a1 l1.length cap1)) (heap_setCell_same _ _ _ _ _ _ (h4.get (List.mem_cons_self ..)))
      clear hb1 hl1 hc1 hm1 r1 h4 u4
      have HP5 := Lib.hid (hp5.drop (T' := (wr.heap.size, .cells (supC 0 0 0 0 0 0 0) 34 (0, 0)) :: T) (fun p hp => by simp only [List.mem_cons] at hp ⊢; rcases hp with h | h <;> simp [h]))
      clear hp5
      go_wp2
      rw [rounds_succ]
      go_wp2_with (refine wpList_store_all rfl 34 (.tmp 4) (.tmp 47) rfl wr.heap.size _ rfl rfl _ _ (HP5.out.get (List.mem_cons_self ..)) infoSuper rfl (by kernel_rfl) ?_; intro w6 hg6 hu6 _; have G6 := Lib.hid hg6; have U6 := Lib.hid hu6; clear hg6 hu6)
      rw [HLD.out, if_neg (by simp)]
      refine bodyPost_ret (results_block_tmp Tryz.results10 _ _ wr.heap.size 7 _ _ _ _ rfl G6.out Tryz.underlying34 rfl (by kernel_rfl) rfl) rfl ⟨rfl, (HP5.out.put HS0.out (fun p hp => by have := HTL.out p hp; omega) U6.out G6.out).drop fun p hp => List.mem_cons_of_mem _ hp⟩
end Go.Proofs.YtpnpjffhkaejgaaGreatDoor
