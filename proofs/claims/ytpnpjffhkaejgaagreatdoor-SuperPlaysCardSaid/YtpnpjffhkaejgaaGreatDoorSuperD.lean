/-
  PROVED HERE: super.Save of any superblock. Conditions: those that each theorem names.
-/
import Derived.Test.YtpnpjffhkaejgaaGreatDoorSuperC
import Derived.Test.YtpnpjffhkaejgaaGreatDoorDiskP
import Derived.StillTail
import Derived.StillTactics
import Derived.BigQuiet
namespace Go.Proofs.YtpnpjffhkaejgaaGreatDoor
open Go.RowKit

theorem TabOk.same {w w' : World} {t : Nat} (h : TabOk w t) (e : w'.heap[t]? = w.heap[t]?) : TabOk w' t := by
  rcases h with ⟨f, cs, h1, h2⟩ | ⟨cs, h1, h2⟩
  · exact .inl ⟨f, cs, by rw [e]; exact h1, h2⟩
  · exact .inr ⟨cs, by rw [e]; exact h1, h2⟩
/-- A law under way with a disk and a table. -/
def LawT (w wr : World) (d t : Nat) (F : Nat → Prop) (T : List (Nat × Obj)) (S : Dk) : Prop := ∃ o, LawD w wr d F ((t, o) :: T) S ∧ TabOk wr t ∧ w.heap.size ≤ t ∧ ∀ p ∈ T, p.1 ≠ t
section
variable {w wr w' : World} {d t : Nat} {F F' : Nat → Prop} {T : List (Nat × Obj)} {S S' : Dk}
theorem LawT.disk (h : LawT w wr d t F T S) : DiskX wr d F S := by
  obtain ⟨o, h, _⟩ := h
  exact h.1
theorem LawT.tab (h : LawT w wr d t F T S) : TabOk wr t := by
  obtain ⟨o, _, h, _⟩ := h
  exact h
theorem LawT.all (h : LawT w wr d t F T S) : Upd [] w wr := by
  obtain ⟨o, h, _⟩ := h
  exact h.2.2.2
theorem LawT.low (h : LawT w wr d t F T S) : ∀ y, F y → w.heap.size ≤ y := by
  obtain ⟨o, h, _⟩ := h
  exact h.2.1
theorem LawT.get (h : LawT w wr d t F T S) {g : Nat} {o : Obj} (hm : (g, o) ∈ T) : wr.heap[g]? = some o := by
  obtain ⟨_, h, _⟩ := h
  exact h.get (List.mem_cons_of_mem _ hm)
theorem LawT.up (h : LawT w wr d t F T S) (u : Upd [] wr w') : LawT w w' d t F T S := by
  obtain ⟨o, h1, h2, h3, h4⟩ := h
  exact ⟨o, h1.up u, h2.upd u (by simp), h3, h4⟩
/-- The table is turned. -/
theorem LawT.turn (h : LawT w wr d t F T S) (u : Upd [t] wr w') (ht : TabOk w' t) : LawT w w' d t F T S := by
  obtain ⟨o, h1, h2, h3, h4⟩ := h
  have hF := (h1.2.2.1 _ (List.mem_cons_self ..)).1
  refine ⟨w'.heap[t]'ht.lt, ⟨h1.1.up u (by simpa using hF), h1.2.1, fun p hp => ?_, h1.2.2.2.step u fun x hx => .inr (by rw [List.mem_singleton.1 hx]; exact h3)⟩, ht, h3, h4⟩
  rcases List.mem_cons.1 hp with rfl | hp
  · exact ⟨hF, Array.getElem?_eq_getElem ht.lt⟩
  · have := h1.2.2.1 p (List.mem_cons_of_mem _ hp)
    exact ⟨this.1, u.get this.2 (by simpa using h4 p hp)⟩
/-- The disk is turned. -/
theorem LawT.next {G : Nat → Prop} (h : LawT w wr d t F T S) (hd : DiskX w' d F' S') (hF : ∀ x, F' x → F x ∨ wr.heap.size ≤ x) (u : UpdP G wr w') (hG : ∀ x, G x → F x) : LawT w w' d t F' T S' := by
  obtain ⟨o, h1, h2, h3, h4⟩ := h
  have h5 := h1.next hd hF u hG
  exact ⟨o, h5, h2.same (by rw [h5.get (List.mem_cons_self ..), h1.get (List.mem_cons_self ..)]), h3, h4⟩
/-- A new block is kept. -/
theorem LawT.keep {w0 : World} (h : LawT w w0 d t F T S) (u : Upd [] w0 wr) {g : Nat} {o : Obj} (hg : w0.heap.size ≤ g) (ho : wr.heap[g]? = some o) : LawT w wr d t F ((g, o) :: T) S := by
  obtain ⟨o', h1, h2, h3, h4⟩ := h
  have hg1 : ¬ F g := fun e => by have := h1.1.old g e; omega
  refine ⟨o', ((h1.up u).keep hg1 ho).sub (fun p hp => by simp only [List.mem_cons] at hp ⊢; rcases hp with h | h | h <;> simp [h]), h2.upd u (by simp), h3, fun p hp => ?_⟩
  rcases List.mem_cons.1 hp with rfl | hp
  · have := h2.lt; dsimp only; omega
  · exact h4 p hp
theorem LawT.drop {T' : List (Nat × Obj)} (h : LawT w wr d t F T S) (hT : ∀ p ∈ T', p ∈ T) : LawT w wr d t F T' S := by
  obtain ⟨o, h1, h2, h3, h4⟩ := h
  exact ⟨o, h1.sub (fun p hp => by rcases List.mem_cons.1 hp with e | e; exact e ▸ List.mem_cons_self ..; exact List.mem_cons_of_mem _ (hT p e)), h2, h3, fun p hp => h4 p (hT p hp)⟩
end
/-- Save, on the plain disk. -/
def Dk.save (S : Dk) (x0 x1 x2 x3 x4 x5 x6 : Int) : Int × Dk := if okCheck x0 x1 x2 x3 x4 x5 x6 S.n then S.write (x0 % 2) (frame (superBytes [x0, x1, x2, x3, x4, x5, x6])) true else (1, S)
def LSaved (w : World) (d t : Nat) (T : List (Nat × Obj)) (S : Dk) (w' : World) : Prop := ∃ F', LawT w w' d t F' T S
abbrev supC (x0 x1 x2 x3 x4 x5 x6 : Int) : Array Value := #[.int .i64 x0, .int .i64 x1, .int .i64 x2, .int .i64 x3, .int .i64 x4, .int .i64 x5, .int .i64 x6]
theorem sup_cells {w : World} {b : Nat} {x0 x1 x2 x3 x4 x5 x6 : Int} (h : w.heap[b]? = some (.cells (supC x0 x1 x2 x3 x4 x5 x6) 34 (0, 0))) :
    w.cell? ⟨b, 0, none⟩ = some (.int .i64 x0) ∧ w.cell? ⟨b, 1, none⟩ = some (.int .i64 x1) ∧ w.cell? ⟨b, 2, none⟩ = some (.int .i64 x2) ∧ w.cell? ⟨b, 3, none⟩ = some (.int .i64 x3) ∧ w.cell? ⟨b, 4, none⟩ = some (.int .i64 x4) ∧ w.cell? ⟨b, 5, none⟩ = some (.int .i64 x5) ∧ w.cell? ⟨b, 6, none⟩ = some (.int .i64 x6) := by
  obtain ⟨q, _⟩ := cells_of h
  exact ⟨q 0, q 1, q 2, q 3, q 4, q 5, q 6⟩
set_option maxRecDepth 100000 in
set_option maxHeartbeats 3200000 in
theorem save_any {w wr : World} {d t : Nat} {F : Nat → Prop} {T : List (Nat × Obj)} {S : Dk} (h : LawT w wr d t F T S) (x0 x1 x2 x3 x4 x5 x6 : Int) (hvl : ∀ i, i < S.n → (S.sec i).ver.length ≤ 2000000000000) :
    Calls Tryz.prog 8 #[.pointer (some ⟨d, 0, none⟩), pt t, .agg #[.int .i64 x0, .int .i64 x1, .int .i64 x2, .int .i64 x3, .int .i64 x4, .int .i64 x5, .int .i64 x6]] wr fun e w' => e = .returned (.int .i64 (S.save x0 x1 x2 x3 x4 x5 x6).1) ∧ LSaved w d t T (S.save x0 x1 x2 x3 x4 x5 x6).2 w' := by
  have ua := (Upd.refl [] wr).alloc (.cells (supC x0 x1 x2 x3 x4 x5 x6) 34)
  have hb := heap_alloc_new wr (.cells (supC x0 x1 x2 x3 x4 x5 x6) 34)
  have hA := h.keep ua (Nat.le_refl _) hb
  have hn := hA.disk.ok.n2
  have HSZ := Lib.hid (x_size (hA.up (Upd.refl [] _).drew).disk)
  have HCH := Lib.hid (check_any (w := (wr.alloc (.cells (supC x0 x1 x2 x3 x4 x5 x6) 34)).drew) x0 x1 x2 x3 x4 x5 x6 (S.n : Nat) (by omega))
  have HB := Lib.hid hb
  have HA := Lib.hid hA
  have HVL := Lib.hid hvl
  obtain ⟨c0, c1, c2, c3, c4, c5, c6⟩ := sup_cells hb
  unfold supC at c0 c1 c2 c3 c4 c5 c6
  clear h ua hb hA hvl hn
  cases hk : okCheck x0 x1 x2 x3 x4 x5 x6 S.n
  · rw [hk] at HCH
    have hs : S.save x0 x1 x2 x3 x4 x5 x6 = (1, S) := by unfold Dk.save; rw [hk]; rfl
    rw [hs]
    clear hk hs
    unfold pt errOf at *
    go_enter Tryz.func8, Tryz.ntmps8
    go_wp2_with fail
    refine wp_region_still_tail 10 (by kernel_rfl) (by kernel_rfl) ?_
    simp only [List.take_succ_cons, List.take_zero, List.drop_succ_cons, List.drop_zero]
    change wpStill _ _ (World.drew _) (fun a' => wpList _ _ _ _ a' (World.drew _)) _ _
    iterate 9 still_step
    still_call (HSZ.out.mono fun _ _ h => ⟨h.1, h.2.symm⟩)
    refine wpStill_nil ?_
    go_wp2_with (go_at_call 17; (with_reducible refine HCH.out.mono ?_); rintro e w1 ⟨rfl, u1⟩; have HA1 := Lib.hid (HA.out.up ((Upd.refl [] _).drew.trans u1)); clear u1)
    go_ret
    exact ⟨rfl, F, HA1.out.drop fun p hp => List.mem_cons_of_mem _ hp⟩
  · rw [hk] at HCH
    have hs : S.save x0 x1 x2 x3 x4 x5 x6 = S.write (x0 % 2) (frame (superBytes [x0, x1, x2, x3, x4, x5, x6])) true := by unfold Dk.save; rw [hk]; rfl
    rw [hs]
    have ho : okSuper [x0, x1, x2, x3, x4, x5, x6] = true := by
      unfold okCheck at hk
      exact (Bool.and_eq_true_iff.1 hk).1
    have hps : putSuper [x0, x1, x2, x3, x4, x5, x6] = some (frame (superBytes [x0, x1, x2, x3, x4, x5, x6])) := by unfold putSuper; rw [ho]; rfl
    obtain ⟨r0, _⟩ := okSuper_7 ho
    have HPS := Lib.hid hps
    have hfl : (frame (superBytes [x0, x1, x2, x3, x4, x5, x6])).length = 256 := frame_len (by rw [superBytes_len]; simp)
    have HFL := Lib.hid hfl
    clear hk hs ho hps hfl
    unfold pt errOf at *
    go_enter Tryz.func8, Tryz.ntmps8
    go_wp2_with fail
    refine wp_region_still_tail 10 (by kernel_rfl) (by kernel_rfl) ?_
    simp only [List.take_succ_cons, List.take_zero, List.drop_succ_cons, List.drop_zero]
    change wpStill _ _ (World.drew _) (fun a' => wpList _ _ _ _ a' (World.drew _)) _ _
    iterate 9 still_step
    still_call (HSZ.out.mono fun _ _ h => ⟨h.1, h.2.symm⟩)
    refine wpStill_nil ?_
    clear c0 c1 c2 c3 c4 c5 c6
    go_wp2_with (go_at_call 17; (with_reducible refine HCH.out.mono ?_); rintro e w1 ⟨rfl, u1⟩; have HA1 := Lib.hid (HA.out.up ((Upd.refl [] _).drew.trans u1)); clear u1; obtain ⟨c0, c1, c2, c3, c4, c5, c6⟩ := sup_cells (HA1.out.get (List.mem_cons_self ..)))
    have hpt := putSuper_any HA1.out.tab x0 x1 x2 x3 x4 x5 x6
    rw [HPS.out] at hpt
    unfold pt at hpt
    (with_reducible refine hpt.mono ?_)
    rintro e w2 ⟨⟨v2, rfl, r2⟩, ht2, u2⟩
    have hL2 := HA1.out.turn u2 ht2
    obtain ⟨a2, cap2, e2, hb2, hlow2, hc2, hm2⟩ := r2.slice
    simp only [Option.getD_some] at e2 hb2 hc2
    rw [HFL.out] at e2
    subst e2
    have hwr := x_write (cap := cap2) hL2.disk (x0 % 2) true hb2 (fun b o e hf => by have := hlow2 b o e; have := HA1.out.disk.old b hf; omega) (by rw [HFL.out]; decide) HVL.out HFL.out.symm
    have HWR := Lib.hid hwr
    have L2 := Lib.hid hL2
    clear c0 c1 c2 c3 c4 c5 c6
    obtain ⟨c0, c1, c2, c3, c4, c5, c6⟩ := sup_cells (hL2.get (List.mem_cons_self ..))
    clear hwr hL2 hb2 hlow2 hc2 hm2 r2 u2 ht2 hpt
    simp only [Option.isSome_some, if_true]
    go_wp2_with fail
    (with_reducible refine HWR.out.mono ?_)
    rintro e w3 ⟨rfl, ⟨F', h3, hF⟩, u3⟩
    have L3 := Lib.hid (L2.out.next h3 hF u3 fun _ hx => hx)
    clear h3 hF u3
    go_wp2
    go_ret
    exact ⟨rfl, F', L3.out.drop fun p hp => List.mem_cons_of_mem _ hp⟩
end Go.Proofs.YtpnpjffhkaejgaaGreatDoor
