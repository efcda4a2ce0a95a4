/-
  PROVED HERE: a byte of a sector is spoilt on both disks. Conditions: those that each theorem names.
-/
import Derived.Test.YtpnpjffhkaejgaaGreatDoorSuperT
namespace Go.Proofs.YtpnpjffhkaejgaaGreatDoor
open Go.RowKit

def sopV (k x0 x1 x2 x3 x4 x5 x6 a f : Int) (q : Value) : Value := .agg #[.int .i64 k, .int .i64 x0, .int .i64 x1, .int .i64 x2, .int .i64 x3, .int .i64 x4, .int .i64 x5, .int .i64 x6, .int .i64 a, .int .i64 f, q]
/-- A byte of a sector is another, if the sector can be read. -/
def Dk.spoil (S : Dk) (p q v : Nat) : Dk := if (S.read p 1).1.1.length = 256 then ((S.read p 1).2.write p ((S.read p 1).1.1.set q v) true).2 else (S.read p 1).2
theorem NoVer.spoil {S : Dk} (h : NoVer S) (p q v : Nat) : NoVer (S.spoil p q v) := by
  unfold Dk.spoil
  split
  · exact (h.read _ _).write _ _
  · exact h.read _ _
def Spoiled (w : World) (d r : Nat) (K : List (Nat × Obj)) (S : Dk) (w' : World) : Prop := ∃ p q v, Two w w' d r K (S.spoil p q v) (S.spoil p q v)
section
variable {w wr : World} {d r : Nat} {K : List (Nat × Obj)} {S : Dk}
set_option maxRecDepth 100000 in
set_option maxHeartbeats 12800000 in
theorem spoil_any (h : Two w wr d r K S S) (hv : NoVer S) (k x0 x1 x2 x3 x4 x5 x6 a f : Int) (q : Value) :
    Calls Tryz.prog 12 #[.pointer (some ⟨d, 0, none⟩), .pointer (some ⟨r, 0, none⟩), sopV k x0 x1 x2 x3 x4 x5 x6 a f q] wr fun e w' => e = .returned (.bool true) ∧ Spoiled w d r K S w' := by
  have hx1 : a.tmod 512 < 512 := Int.tmod_lt_of_pos a (by decide)
  have hx2 : -512 < a.tmod 512 := by
    have := Int.tmod_lt_of_pos (-a) (show (0 : Int) < 512 by decide)
    rw [Int.neg_tmod] at this
    omega
  obtain ⟨A, hA512, hA⟩ : ∃ A : Nat, A < 512 ∧ ((a.tmod 512 < 0 ∧ a.tmod 512 + 512 = (A : Int)) ∨ (0 ≤ a.tmod 512 ∧ a.tmod 512 = (A : Int))) := by
    by_cases hs : a.tmod 512 < 0
    · exact ⟨(a.tmod 512 + 512).toNat, by omega, .inl ⟨hs, by omega⟩⟩
    · exact ⟨(a.tmod 512).toNat, by omega, .inr ⟨by omega, by omega⟩⟩
  obtain ⟨v, hvf⟩ := Int.eq_ofNat_of_zero_le (show 0 ≤ f % 256 by omega)
  have hv256 : v < 256 := by omega
  have hb := heap_alloc_new wr (.cells #[.int .i64 k, .int .i64 x0, .int .i64 x1, .int .i64 x2, .int .i64 x3, .int .i64 x4, .int .i64 x5, .int .i64 x6, .int .i64 a, .int .i64 f, q] 37)
  have hk := h.keep ((Upd.refl [] wr).alloc (.cells #[.int .i64 k, .int .i64 x0, .int .i64 x1, .int .i64 x2, .int .i64 x3, .int .i64 x4, .int .i64 x5, .int .i64 x6, .int .i64 a, .int .i64 f, q] 37)) (Nat.le_refl _) hb
  obtain ⟨p, hp⟩ : ∃ p, A / 256 = p := ⟨_, rfl⟩
  obtain ⟨b, hbq⟩ : ∃ b, A % 256 = b := ⟨_, rfl⟩
  have hpi : (A : Int) / 256 = (p : Int) := by omega
  have hbi : (A : Int) % 256 = (b : Int) := by omega
  have hb256 : b < 256 := by omega
  have hok := h.ok
  have HD := Lib.hid (td_readK hk p)
  have HOK := Lib.hid hok
  have HNV := Lib.hid hv
  have HV := Lib.hid hvf
  have hvv := hvf
  have HPI := Lib.hid hpi
  have HBI := Lib.hid hbi
  have HSP : Hid (S.spoil p b v = if (S.read p 1).1.1.length = 256 then ((S.read p 1).2.write p ((S.read p 1).1.1.set b v) true).2 else (S.read p 1).2) := Lib.hid rfl
  have hok1 : (S.read (p : Int) 1).2.Ok := by
    unfold Dk.read
    split
    · split <;> exact hok.tick1
    · exact hok
  have HOK1 := Lib.hid hok1
  have HNV1 := Lib.hid (hv.read (p : Int) 1)
  have HC : Hid (∀ W : World, W.heap[wr.heap.size]? = some (.cells #[.int .i64 k, .int .i64 x0, .int .i64 x1, .int .i64 x2, .int .i64 x3, .int .i64 x4, .int .i64 x5, .int .i64 x6, .int .i64 a, .int .i64 f, q] 37 (0, 0)) → W.cell? ⟨wr.heap.size, 8, none⟩ = some (.int .i64 a) ∧ W.cell? ⟨wr.heap.size, 9, none⟩ = some (.int .i64 f)) := fun W h => ⟨(cells_of h).1 8, (cells_of h).1 9⟩
  obtain ⟨c8, _⟩ := HC.out _ hb
  generalize hE : (S.read (p : Int) 1).1 = o at *
  generalize hS1 : (S.read (p : Int) 1).2 = S1 at *
  have HE := Lib.hid hE
  have HS1 := Lib.hid hS1
  have hxne : ∀ p ∈ K, p.1 ≠ wr.heap.size := fun p hp e => by have := lt_of_block (h.get (g := p.1) (o := p.2) hp); omega
  have HXNE := Lib.hid hxne
  clear hb hk h hv hok hok1 hvf hE hS1 hxne
  unfold sopV
  rcases hA with ⟨hs, hA⟩ | ⟨hs, hA⟩
  all_goals
    go_enter Tryz.func12, Tryz.ntmps12
    go_wp2_with fail
    (with_reducible refine HD.out.mono ?_)
    rintro e w1 (⟨ho, a1, cap1, rfl, h1⟩ | ⟨ho, g1, cap1, cs1, rfl, h1, hb1, hc1, hm1, hg1, hne1⟩)
    · have hr := tr_readK h1 HOK.out p
      rw [HE.out, HS1.out] at hr
      have HR := Lib.hid hr
      have HO := Lib.hid ho
      clear h1 hr ho c8
      go_wp2_with fail
      (with_reducible refine HR.out.mono ?_)
      rintro e w2 (⟨ho2, a2, cap2, rfl, h2⟩ | ⟨ho2, _⟩)
      · have H2 := Lib.hid h2
        clear h2 ho2
        generalize o.2 = ec at *
        go_wp2
        go_ret
        refine ⟨rfl, p, b, v, ?_⟩
        rw [HSP.out, HO.out, if_neg (by decide)]
        exact H2.out.drop fun p hp => List.mem_cons_of_mem _ hp
      · rw [HO.out] at ho2; cases ho2
    · have hr := tr_readK h1 HOK.out p
      rw [HE.out, HS1.out] at hr
      have HR := Lib.hid hr
      have HO := Lib.hid ho
      have HB1 := Lib.hid hb1
      have HG1 := Lib.hid hg1
      have HNE1 := Lib.hid hne1
      have HK1 := Lib.hid (h1.get (List.mem_cons_self ..))
      clear h1 hr ho hb1 hg1 hne1 c8
      go_wp2_with fail
      (with_reducible refine HR.out.mono ?_)
      rintro e w2 (⟨ho2, _⟩ | ⟨ho2, g2, cap2, cs2, rfl, h2, hb2, hc2, hm2, hg2, hne2⟩)
      · have := HO.out; rw [ho2] at this; cases this
      · have hr1 := h2.get (g := g1) (o := .cells cs1 5 (0, 0)) (by simp)
        have hr2 := h2.get (g := g2) (o := .cells cs2 5 (0, 0)) (by simp)
        have hrx := h2.get (g := wr.heap.size) (o := .cells #[.int .i64 k, .int .i64 x0, .int .i64 x1, .int .i64 x2, .int .i64 x3, .int .i64 x4, .int .i64 x5, .int .i64 x6, .int .i64 a, .int .i64 f, q] 37 (0, 0)) (by simp)
        have hg12 : g1 ≠ g2 := hne2 (g1, .cells cs1 5 (0, 0)) (by simp)
        have hxg1 : wr.heap.size ≠ g1 := HNE1.out (wr.heap.size, _) (List.mem_cons_self ..)
        have hxg2 : wr.heap.size ≠ g2 := hne2 (wr.heap.size, .cells #[.int .i64 k, .int .i64 x0, .int .i64 x1, .int .i64 x2, .int .i64 x3, .int .i64 x4, .int .i64 x5, .int .i64 x6, .int .i64 a, .int .i64 f, q] 37 (0, 0)) (by simp)
        have hby1 : IsBytes w2 (some ⟨g1, 0, none⟩) o.1 := HB1.out.same (by rw [hr1, HK1.out])
        have z1 := hby1.at b (by rw [HO.out]; exact hb256)
        have z2 := hb2.at b (by rw [HO.out]; exact hb256)
        have zf1 := (cells_of hr1).2 b
        have zf2 := (cells_of hr2).2 b
        rw [Nat.zero_add] at z1 z2
        obtain ⟨d8, d9⟩ := HC.out _ hrx
        have hL1 : Two w (w2.setCell ⟨g1, b, none⟩ (.int .u8 (v : Nat))) d r ((g1, .cells (cs1.setIfInBounds b (.int .u8 (v : Nat))) 5 (0, 0)) :: (g2, .cells cs2 5 (0, 0)) :: K) S1 S1 :=
          Two.put (h2.drop (K' := (g1, .cells cs1 5 (0, 0)) :: (g2, .cells cs2 5 (0, 0)) :: K) (fun p hp => by simp only [List.mem_cons] at hp ⊢; rcases hp with h | h | h <;> simp [h])) HG1.out (fun p hp e => by
            rcases List.mem_cons.1 hp with rfl | hp
            · exact hg12 e.symm
            · exact HNE1.out p (List.mem_cons_of_mem _ hp) e) ((Upd.refl [g1] w2).setCell (p := ⟨g1, b, none⟩) (.inl (by simp)) _) (heap_setCell_same _ _ _ _ _ _ hr1)
        have hr2' := hL1.get (g := g2) (o := .cells cs2 5 (0, 0)) (by simp)
        have hL2 : Two w ((w2.setCell ⟨g1, b, none⟩ (.int .u8 (v : Nat))).setCell ⟨g2, b, none⟩ (.int .u8 (v : Nat))) d r ((g2, .cells (cs2.setIfInBounds b (.int .u8 (v : Nat))) 5 (0, 0)) :: (g1, .cells (cs1.setIfInBounds b (.int .u8 (v : Nat))) 5 (0, 0)) :: K) S1 S1 :=
          Two.put (hL1.drop (K' := (g2, .cells cs2 5 (0, 0)) :: (g1, .cells (cs1.setIfInBounds b (.int .u8 (v : Nat))) 5 (0, 0)) :: K) (fun p hp => by simp only [List.mem_cons] at hp ⊢; rcases hp with h | h | h <;> simp [h])) hg2 (fun p hp e => by
            rcases List.mem_cons.1 hp with rfl | hp
            · exact hg12 e
            · exact hne2 p (by simp [hp]) e) ((Upd.refl [g2] _).setCell (p := ⟨g2, b, none⟩) (.inl (by simp)) _) (heap_setCell_same _ _ _ _ _ _ hr2')
        have hs1 := bytes_set (k := b) (x := v) hr1 hby1 hv256
        have hs1' : IsBytes ((w2.setCell ⟨g1, b, none⟩ (.int .u8 (v : Nat))).setCell ⟨g2, b, none⟩ (.int .u8 (v : Nat))) (some ⟨g1, 0, none⟩) (o.1.set b v) := hs1.same (((Upd.refl [g2] _).setCell (p := ⟨g2, b, none⟩) (.inl (by simp)) _).block g1 (lt_of_block (heap_setCell_same _ _ _ _ _ _ hr1)) (by simpa using hg12))
        have hb2' : IsBytes (w2.setCell ⟨g1, b, none⟩ (.int .u8 (v : Nat))) (some ⟨g2, 0, none⟩) o.1 := hb2.same (by rw [hr2', hr2])
        have hs2 := bytes_set (k := b) (x := v) hr2' hb2' hv256
        have hlen : (o.1.set b v).length = 256 := by rw [List.length_set]; exact HO.out
        have HW1 := Lib.hid (td_write (cap := cap1) hL2 (p : Int) true hs1' (fun b' o' e => .inr ⟨_, by cases e; exact List.mem_cons_of_mem _ (List.mem_cons_self ..)⟩) hlen hc1 hm1 HNV1.out.low)
        have HWS := Lib.hid (fun W (h3 : Two w W d r ((g2, .cells (cs2.setIfInBounds b (.int .u8 (v : Nat))) 5 (0, 0)) :: (g1, .cells (cs1.setIfInBounds b (.int .u8 (v : Nat))) 5 (0, 0)) :: K) (S1.write p (o.1.set b v) true).2 S1) => tr_write (cap := cap2) h3 (p : Int) true (hs2.same (by rw [h3.get (List.mem_cons_self ..), hL2.get (List.mem_cons_self ..)])) (fun b' o' e => .inr ⟨_, by cases e; exact List.mem_cons_self ..⟩) hlen hc2 hm2 HNV1.out.low)
        clear h2 hb2 hne2 hr1 hr2 hrx hby1 hL1 hL2 hr2' hs1 hs1' hb2' hs2 hlen hg2
        generalize o.2 = ec at *
        go_wp2_with fail
        (with_reducible refine HW1.out.mono ?_)
        rintro e w5 ⟨rfl, h5⟩
        have HWR := Lib.hid (HWS.out _ h5)
        clear h5
        go_wp2_with fail
        (with_reducible refine HWR.out.mono ?_)
        rintro e w6 ⟨rfl, h6⟩
        have H6 := Lib.hid h6
        clear h6
        go_wp2
        go_ret
        refine ⟨rfl, p, b, v, ?_⟩
        rw [HSP.out, HO.out, if_pos rfl]
        exact H6.out.drop fun p hp => List.mem_cons_of_mem _ (List.mem_cons_of_mem _ hp)
end
end Go.Proofs.YtpnpjffhkaejgaaGreatDoor
