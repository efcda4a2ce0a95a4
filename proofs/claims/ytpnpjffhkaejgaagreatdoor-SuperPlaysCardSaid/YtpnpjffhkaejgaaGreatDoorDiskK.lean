/-
  PROVED HERE: which sectors of a disk are dirty, in order. Conditions: those that each theorem names.
  PROVED HERE: the power going, and coming back. Conditions: those that each theorem names.
  PROVED HERE: Crash. Conditions: those that each theorem names.
  PROVED HERE: slices.Chunk over bytes, in pieces of 256. Conditions: those that each theorem names.
  PROVED HERE: a law for a region in a round that draws its order: reads first, then what turns the world. Conditions: those that each theorem names.
  PROVED HERE: a disk behind one sector's write. Conditions: those that each theorem names.
-/
import Derived.Test.YtpnpjffhkaejgaaGreatDoorDiskE
import Derived.Test.YtpnpjffhkaejgaaGreatDoorShelf
import Derived.RangeFuncBox
import Derived.RangeFuncLeaves
import Derived.RangeFuncWrites
import Derived.Shelf.Abstract
import Derived.OwnWalkIn
import Derived.TacticsInMore
import Derived.LoopNIn
import Derived.LoopIn
import Derived.OrdersHeld
import Derived.OrdersIn
import Derived.RangeFuncCalls
namespace Go.Proofs.YtpnpjffhkaejgaaGreatDoor
open Go.RowKit Go.Maps Go.Sort Go.Shelf

def Dk.dirty (S : Dk) : List Nat := (List.range S.n).filter fun i => !(S.sec i).ver.isEmpty
theorem mem_dirty {S : Dk} {i : Nat} : i ∈ S.dirty ↔ i < S.n ∧ (S.sec i).ver ≠ [] := by
  unfold Dk.dirty
  rw [List.mem_filter, List.mem_range]
  simp
theorem dirty_sorted (S : Dk) : S.dirty.Pairwise (· < ·) := List.Pairwise.filter _ List.pairwise_lt_range
def nats (l : List Nat) : List Value := l.map fun i : Nat => Value.int .i64 (i : Int)
def DirtyOut (B : Nat) (l : List Nat) (e : Ending) (w' : World) : Prop := ∃ v, e = .returned v ∧ w'.ownsRow B 3 1 v l.length (nats l)
theorem mapOf_isSome {L : DLay} {S : Dk} {x : Int} : (mapOf L S x).isSome = true ↔ ∃ i : Nat, x = i ∧ i ∈ S.dirty := by
  constructor
  · intro h
    obtain ⟨v, hv⟩ := Option.isSome_iff_exists.1 h
    obtain ⟨i, rfl, h1, h2, _⟩ := mapOf_some hv
    exact ⟨i, rfl, mem_dirty.2 ⟨h1, h2⟩⟩
  · rintro ⟨i, rfl, hi⟩
    obtain ⟨h1, h2⟩ := mem_dirty.1 hi
    rw [mapOf_in h1, if_neg h2]; rfl
theorem sorted_dirty {S : Dk} {L : DLay} {ss ks : List Int} (hp : ss.Perm ks) (hn : ks.Nodup) (hk : ∀ x, x ∈ ks ↔ (mapOf L S x).isSome = true) : ss.mergeSort (fun x y => decide (x ≤ y)) = S.dirty.map fun i : Nat => (i : Int) := by
  have hd : (S.dirty.map fun i : Nat => (i : Int)).Pairwise (· < ·) := List.pairwise_map.2 ((dirty_sorted S).imp fun h => by omega)
  refine List.Perm.eq_of_pairwise (le := fun a b => a ≤ b) (fun a b _ _ h1 h2 => by omega) ((List.pairwise_mergeSort (fun a b c => by simp; omega) (fun a b => by simp; omega) ss).imp fun h => by simpa using h) (hd.imp fun h => by omega) ?_
  refine ((List.mergeSort_perm _ _).trans hp).trans ((List.perm_ext_iff_of_nodup hn (hd.imp fun h => by omega)).2 fun x => ?_)
  rw [hk, mapOf_isSome, List.mem_map]
  constructor
  · rintro ⟨i, rfl, h⟩; exact ⟨i, h, rfl⟩
  · rintro ⟨i, h, rfl⟩; exact ⟨i, rfl, h⟩
theorem sortsA (m : Nat) : AnyZI.SortsIn Tryz.prog Tryz.sortedA_ren Fence.wide m :=
  ⟨fun blk off cap ss W hH hblk hsz => callsIn_wide.2 (AnyM.slices_Sort_int Tryz.sortA blk off cap ss W hH hblk hsz),
   fun p cap W => callsIn_wide.2 (AnyM.slices_Sort_int_none Tryz.sortA p cap W)⟩
set_option maxHeartbeats 1000000 in
theorem dirty_any {w : World} {d : Nat} {L : DLay} {F : Nat → Prop} {S : Dk} (h : IsDisk w d L F S) : Calls Tryz.prog 28 #[.pointer (some ⟨d, 0, none⟩)] w fun e w' => DirtyOut w.heap.size S.dirty e w' ∧ Upd [] w w' := by
  refine (callsIn_wide (n := 6)).1 ?_
  obtain ⟨D0, hown, hv⟩ := h.map
  obtain ⟨k1, k2, _⟩ := keys_view hown Tryz.underlying3
  have hsz : Maps.size D0 ≤ 4096 := by
    refine size_bound hown Tryz.underlying3 fun x hx => ?_
    rw [hv] at hx
    obtain ⟨i, rfl, hi⟩ := mapOf_isSome.1 hx
    have := (mem_dirty.1 hi).1
    have := h.ok.n2
    omega
  have hmax : Maps.size D0 ≤ maxLen := by unfold maxLen; omega
  have hbytes : Maps.size D0 * 8 ≤ 140737488355328 := by omega
  have hbl := hown.lt
  have hseq : SeqGives Fence.wide 2 Tryz.prog 62 #[.pointer (some ⟨w.heap.size, 0, none⟩)] encZ (fun ss => ss.Perm (Go.intKeys D0)) (Maps.size D0) (w.alloc (.cells #[.map (some L.mb)] 63)) :=
    AnyZI.keys_gives (ρ := Tryz.keysA_ren) { Tryz.keysA with } Fence.wide _ trivial rfl (by omega) w.heap.size L.mb (Maps.size D0) D0 _ (by simp) (by simp) (by
      obtain ⟨es, clock, hb, Ft, hs, hD⟩ := hown
      exact ⟨es, clock, (Below.heap_alloc _ _ L.mb hbl).trans hb, Ft, hs, hD⟩)
  have cK : ∀ mb W, CallsIn Fence.wide 5 Tryz.prog 54 #[.map mb] W fun e w' => e = .returned (.func (.func 62) #[] #[.pointer (some ⟨W.heap.size, 0, none⟩)]) ∧ w' = W.alloc (.cells #[.map mb] 63) := fun mb W => AnyZI.keys_in Tryz.keysA Fence.wide 5 trivial rfl mb W
  have cS := AnyZI.sorted_in Tryz.sortedA Fence.wide 5 trivial trivial trivial trivial rfl (by omega) (sortsA _) (enters_of Tryz.func61 (by kernel_rfl) rfl) 62 #[.pointer (some ⟨w.heap.size, 0, none⟩)] trivial (enters_of Tryz.func62 (by kernel_rfl) rfl) _ _ hmax hbytes _ hseq
  change CallsIn _ _ Tryz.prog 53 _ _ _ at cS
  have hfK : Fence.wide.fn 54 := trivial
  have hfS : Fence.wide.fn 53 := trivial
  obtain ⟨c0, l0, hb0, _⟩ := h.hd
  obtain ⟨_, q1, _⟩ := dcell hb0
  refine callsIn_of_wp Tryz.func28 rfl trivial ?_ rfl
  simp only [Tryz.ntmps28, List.size_toArray, List.length_cons, List.length_nil, Nat.reduceAdd, Nat.reduceSub, Array.replicate_succ, Array.replicate_zero, List.push_toArray, List.append_toArray, List.nil_append, List.cons_append]
  gi_wp2_with (first
    | (gi_at_call 54; refine (cK _ _).mono ?_; rintro e w' ⟨rfl, rfl⟩)
    | (gi_at_call 53; refine cS.mono ?_; rintro e w' ⟨v, ss, rfl, hS, hrow, hnil, hb⟩))
  go_ret
  have hb2 := ((Below.refl _ w).alloc (Nat.le_refl _) (.cells #[.map (some L.mb)] 63)).trans (hb.mono (by simp))
  refine ⟨⟨v, rfl, ?_⟩, Upd.of_below hb2⟩
  have hrow2 : w'.ownsRow w.heap.size 3 1 v ss.length ((ss.mergeSort (fun x y => decide (x ≤ y))).map encZ) := ownsRow_base_a hrow (by simp)
  rw [sorted_dirty hS k1 (fun x => by rw [k2, hv])] at hrow2
  have hl : ss.length = S.dirty.length := by
    have := congrArg List.length (sorted_dirty hS k1 (fun x => by rw [k2, hv]))
    simpa using this
  rw [hl, List.map_map] at hrow2
  exact hrow2
end Go.Proofs.YtpnpjffhkaejgaaGreatDoor
namespace Go.Proofs.YtpnpjffhkaejgaaGreatDoor
open Go.RowKit

/-- A slice of ints that a caller hands over. -/
def IsIntsAt (w : World) (a : Option Addr) (l : List Int) : Prop := ∀ i (_ : i < l.length), ∃ b o, a = some ⟨b, o, none⟩ ∧ w.cell? ⟨b, o + i, none⟩ = some (.int .i64 (l.getD i 0))
theorem IsIntsAt.upd {w w' : World} {a : Option Addr} {l : List Int} {S : List Nat} (h : IsIntsAt w a l) (u : Upd S w w') (hs : ∀ b o, a = some ⟨b, o, none⟩ → b ∉ S) : IsIntsAt w' a l := fun i hi => by
  obtain ⟨b, o, ha, hc⟩ := h i hi
  exact ⟨b, o, ha, by rw [← hc]; exact World.cell?_of_block (u.block b (World.block_lt_of_cell? _ _ hc) (hs b o ha))⟩
/-- Which of 0 .. m a pick names. -/
def pickN (p : Int) (m : Nat) : Nat := (p % ((m : Int) + 1)).toNat
theorem pickN_le (p : Int) (m : Nat) : pickN p m ≤ m := by
  unfold pickN
  have := Int.emod_lt_of_pos p (show (0 : Int) < (m : Int) + 1 by omega)
  have := Int.emod_nonneg p (show (m : Int) + 1 ≠ 0 by omega)
  omega
theorem pick_steps (p : Int) (m : Nat) : -((m : Int) + 1) < p.tmod ((m : Int) + 1) ∧ p.tmod ((m : Int) + 1) < (m : Int) + 1 ∧ (p.tmod ((m : Int) + 1) + ((m : Int) + 1)) % ((m : Int) + 1) = (pickN p m : Nat) := by
  have h0 : (0 : Int) < (m : Int) + 1 := by omega
  have h1 := Int.tmod_lt_of_pos p h0
  have h2 : -((m : Int) + 1) < p.tmod ((m : Int) + 1) := by
    have := Int.tmod_lt_of_pos (-p) h0
    rw [Int.neg_tmod] at this
    omega
  refine ⟨h2, h1, ?_⟩
  unfold pickN
  rw [Int.toNat_of_nonneg (Int.emod_nonneg _ (by omega)), Int.add_emod_right]
  rw [Int.tmod_eq_emod]
  split
  · rw [show ((0 : Nat) : Int) = 0 from rfl, Int.sub_zero]; exact Int.emod_emod_of_dvd _ (Int.dvd_refl _)
  · rw [Int.natAbs_of_nonneg (by omega), Int.sub_emod_right]
    exact Int.emod_emod_of_dvd _ (Int.dvd_refl _)
/-- What is durable when the first k of the dirty sectors are settled. -/
def Dk.durs (S : Dk) (picks : List Int) : Nat → Nat → List Nat
  | 0 => fun i => (S.sec i).dur
  | k + 1 => if pickN (picks.getD k 0) (S.sec (S.dirty.getD k 0)).ver.length = 0 then S.durs picks k else setf (S.durs picks k) (S.dirty.getD k 0) ((S.sec (S.dirty.getD k 0)).ver.getD (pickN (picks.getD k 0) (S.sec (S.dirty.getD k 0)).ver.length - 1) [])
def Dk.crash (S : Dk) (picks : List Int) : Dk := ⟨S.n, fun i => ⟨S.durs picks (min S.dirty.length picks.length) i, []⟩, fun _ => 0, none⟩
theorem getD_in {α : Type} {l : List α} {i : Nat} {x : α} (h : i < l.length) : l.getD i x ∈ l := by
  rw [List.getD_eq_getElem?_getD, List.getElem?_eq_getElem h]
  exact List.getElem_mem h
theorem durs_ok {S : Dk} (h : S.Ok) (picks : List Int) (k : Nat) (hk : k ≤ S.dirty.length) (i : Nat) (hi : i < S.n) : (S.durs picks k i).length = 256 ∧ BytesOk (S.durs picks k i) := by
  induction k with
  | zero => exact (h.sec i hi).1
  | succ k ih =>
    unfold Dk.durs
    split
    · exact ih (by omega)
    · rename_i h0
      by_cases e : i = S.dirty.getD k 0
      · subst e
        rw [setf_same]
        have := pickN_le (picks.getD k 0) (S.sec (S.dirty.getD k 0)).ver.length
        have hq : pickN (picks.getD k 0) (S.sec (S.dirty.getD k 0)).ver.length - 1 < (S.sec (S.dirty.getD k 0)).ver.length := by omega
        exact (h.sec _ hi).2 _ (getD_in hq)
      · rw [setf_other _ _ e]; exact ih (by omega)
theorem Dk.Ok.crash {S : Dk} (h : S.Ok) (picks : List Int) : (S.crash picks).Ok := ⟨h.n1, h.n2, fun i hi => ⟨durs_ok h picks _ (Nat.min_le_left _ _) i hi, fun v hv => by cases hv⟩, fun k => Nat.zero_le _, fun k hk => by cases hk⟩
theorem row_nats {w : World} {B : Nat} {v : Value} {l : List Nat} (h : w.ownsRow B 3 1 v l.length (nats l)) : ∃ a cap, v = .slice a l.length cap ∧ ∀ k, k < l.length → ∃ g, a = some ⟨g, 0, none⟩ ∧ B ≤ g ∧ w.cell? ⟨g, k, none⟩ = some (.int .i64 (l.getD k 0 : Nat)) := by
  obtain ⟨hl, ⟨rfl, h0⟩ | ⟨g, cap, cur, rfl, hg, hb, hc, hm, hs, ht⟩⟩ := h
  · exact ⟨none, 0, by rw [h0], fun k hk => by omega⟩
  · refine ⟨_, cap, rfl, fun k hk => ⟨g, rfl, hg, ?_⟩⟩
    rw [(cells_of hb).1]
    have e : (cur.toList.take (l.length * 1))[k]? = (nats l)[k]? := by rw [ht]
    rw [List.getElem?_take_of_lt (by omega)] at e
    rw [← Array.getElem?_toList, e]
    simp [nats, hk]
end Go.Proofs.YtpnpjffhkaejgaaGreatDoor
namespace Go.Proofs.YtpnpjffhkaejgaaGreatDoor
open Go.RowKit

theorem crash_cells {w : World} {d : Nat} {L : DLay} {S : Dk} {c : Bool} {l : Nat} (picks : List Int) (h : w.heap[d]? = some (.cells (dCells L S c l) 66 (0, 0))) :
    (((((w.setCell ⟨d, 2, none⟩ (.int .i64 0)).setCell ⟨d, 3, none⟩ (.int .i64 0)).setCell ⟨d, 4, none⟩ (.int .i64 0)).setCell ⟨d, 5, none⟩ (.int .i64 0)).setCell ⟨d, 6, none⟩ (.bool false)).heap[d]? = some (.cells (dCells L (S.crash picks) false l) 66 (0, 0)) :=
  dset67 (dset (dset (dset (dset h 0 0 (by decide)) 1 0 (by decide)) 2 0 (by decide)) 3 0 (by decide)) false
theorem crash_end {w w1 wr w5 : World} {d : Nat} {L : DLay} {F : Nat → Prop} {S : Dk} {picks : List Int} {k : Nat} {c : Bool} {l : Nat} (hD : IsDisk w1 d L F S) (u1 : Upd [] w w1) (hk : min S.dirty.length picks.length = k) (hb : BlkF wr L.db S.n (S.durs picks k)) (hU : Upd [L.db] w1 wr)
    (u5 : Upd [L.mb] wr w5) (hm : IMap Tryz.prog 3 w5 L.mb fun _ => none) (h5 : w5.heap[d]? = some (.cells (dCells L S c l) 66 (0, 0))) (hl : l ≤ 1099511627776) :
    IsDisk (((((w5.setCell ⟨d, 2, none⟩ (.int .i64 0)).setCell ⟨d, 3, none⟩ (.int .i64 0)).setCell ⟨d, 4, none⟩ (.int .i64 0)).setCell ⟨d, 5, none⟩ (.int .i64 0)).setCell ⟨d, 6, none⟩ (.bool false)) d L F (S.crash picks) ∧
      Upd [d, L.db, L.mb] w (((((w5.setCell ⟨d, 2, none⟩ (.int .i64 0)).setCell ⟨d, 3, none⟩ (.int .i64 0)).setCell ⟨d, 4, none⟩ (.int .i64 0)).setCell ⟨d, 5, none⟩ (.int .i64 0)).setCell ⟨d, 6, none⟩ (.bool false)) := by
  obtain ⟨a1, a2, a3⟩ := hD.apart3
  have hc := crash_cells picks h5
  have u6 : Upd [d] w5 (((((w5.setCell ⟨d, 2, none⟩ (.int .i64 0)).setCell ⟨d, 3, none⟩ (.int .i64 0)).setCell ⟨d, 4, none⟩ (.int .i64 0)).setCell ⟨d, 5, none⟩ (.int .i64 0)).setCell ⟨d, 6, none⟩ (.bool false)) :=
    (((((Upd.refl [d] w5).setCell (.inl (by simp)) _).setCell (.inl (by simp)) _).setCell (.inl (by simp)) _).setCell (.inl (by simp)) _).setCell (.inl (by simp)) _
  have uT : Upd [d, L.db, L.mb] w1 _ := ((hU.mono (by simp)).trans (u5.mono (by simp))).trans (u6.mono (by simp))
  refine ⟨hD.cleared (hD.ok.crash picks) (fun _ => rfl) ⟨false, l, hc, hl, rfl⟩ ?_ (hm.upd u6 (by simpa using Ne.symm a2)) uT.size, (u1.mono (by simp)).trans uT⟩
  show BlkF _ L.db S.n fun i => S.durs picks (min S.dirty.length picks.length) i
  rw [hk]
  exact (hb.upd u5 (by simpa using a3)).upd u6 (by simpa using Ne.symm a1)
set_option maxRecDepth 100000 in
set_option maxHeartbeats 3200000 in
theorem crash_any {w : World} {d : Nat} {L : DLay} {F : Nat → Prop} {S : Dk} (h : IsDisk w d L F S) {a : Option Addr} {picks : List Int} {pc : Nat} (hp : IsIntsAt w a picks) (hpf : ∀ b o, a = some ⟨b, o, none⟩ → 0 < picks.length → ¬ F b) (hpl : picks.length ≤ 9223372036854775807)
    (hB : ∀ i, i < S.n → (S.sec i).ver.length ≤ 2000000000000) :
    Calls Tryz.prog 15 #[.pointer (some ⟨d, 0, none⟩), .slice a picks.length pc] w fun e w' => e = .returned (.tuple #[]) ∧ IsDisk w' d L F (S.crash picks) ∧ Upd [d, L.db, L.mb] w w' := by
  have HD := Lib.hid h
  have HP := Lib.hid hp
  have HPF := Lib.hid hpf
  have HPL := Lib.hid hpl
  have HB := Lib.hid hB
  have HDI := Lib.hid (dirty_any h)
  clear h hp hpf hB
  go_enter Tryz.func15, Tryz.ntmps15
  go_wp2_with fail
  refine HDI.out.mono ?_
  rintro e w1 ⟨⟨v, rfl, hrow⟩, u1⟩
  obtain ⟨a', cap, rfl, hcells⟩ := row_nats hrow
  have D1 := Lib.hid (HD.out.up u1 (by simp))
  have U1 := Lib.hid u1
  have HC := Lib.hid hcells
  obtain ⟨N, hN⟩ : ∃ N, S.dirty.length = N := ⟨_, rfl⟩
  have HN := Lib.hid hN
  have hN4 : N ≤ 4096 := by
    have h1 : S.dirty.length ≤ S.n := by
      have := List.length_filter_le (fun i => !(S.sec i).ver.isEmpty) (List.range S.n)
      rwa [List.length_range] at this
    have := HD.out.ok.n2
    omega
  rw [hN]
  clear u1 hrow hcells hN
  go_wp2_with fail
  go_loopw [12] (fun i wr => ∃ k : Nat, k ≤ N ∧ k ≤ picks.length ∧ i = .int .i64 k ∧ BlkF wr L.db S.n (S.durs picks k) ∧ Upd [L.db] w1 wr) (fun i _ => N - (RowKit.intOf i).toNat)
  case atStart => exact ⟨0, by omega, by omega, rfl, D1.out.dur, Upd.refl _ _⟩
  case round =>
    obtain ⟨k, hk, hkp, rfl, hbk, hU⟩ := hrel
    have HBK := Lib.hid hbk
    have HU := Lib.hid hU
    obtain ⟨a1, a2, a3⟩ := D1.out.apart3
    have hm := D1.out.map.upd hU (by simpa using Ne.symm a3)
    have HM := Lib.hid hm
    obtain ⟨c0, l0, hb0, hl0, he0⟩ := D1.out.hd
    have HBr := Lib.hid (hU.get hb0 (by simpa using a1))
    have HDBL : Hid (L.db < w.heap.size) := by
      obtain ⟨_, hdb0, _⟩ := HD.out.dur
      exact lt_of_block hdb0
    obtain ⟨_, q1, _⟩ := dcell HBr.out
    clear hbk hm hb0 hU
    by_cases h1 : k < N
    · obtain ⟨g, rfl, hg, hck⟩ := HC.out k (by rw [HN.out]; exact h1)
      have hmem : S.dirty.getD k 0 ∈ S.dirty := getD_in (by rw [HN.out]; exact h1)
      generalize hi0 : S.dirty.getD k 0 = i at hck hmem
      obtain ⟨hi, hv⟩ := mem_dirty.1 hmem
      have n2 := HD.out.ok.n2
      have hck2 : wr.cell? ⟨g, k, none⟩ = some (.int .i64 (i : Nat)) := by
        rw [← hck]
        exact World.cell?_of_block (HU.out.block g (World.block_lt_of_cell? _ _ hck) (by have := HDBL.out; simp; omega))
      have hlk := HM.out.look (t := 63) false Tryz.underlying3 Tryz.underlying63 (zeroVers wr) (x := (i : Int)) (WalkArith.wf_i64 (by omega))
      rw [mapOf_in hi] at hlk
      simp only [Bool.false_eq_true, if_false] at hlk
      rw [if_neg hv] at hlk
      obtain ⟨csd, hdb0, _⟩ := D1.out.dur
      obtain ⟨cg, hg0, _, _, _, hcg⟩ := D1.out.ver i hi hv
      have hgne : L.g i ≠ L.db := dne hg0 hdb0 (by decide)
      obtain ⟨cs, hgb, hgs, hgl, hgm, hgc⟩ := (D1.out.ver i hi hv).upd (HU.out.p (F := fun y => y = L.db) (by simp)) hgne (fun j hj e => (hcg j hj).2.1 e)
      obtain ⟨m, hm⟩ : ∃ m, (S.sec i).ver.length = m := ⟨_, rfl⟩
      have hm0 : 0 < m := by rw [← hm]; exact List.length_pos_iff.2 hv
      have hmB : m ≤ 2000000000000 := by rw [← hm]; exact HB.out i hi
      have hlk2 : (Instr.lookup 63 (.map (some L.mb)) (.int .i64 (i : Int)) false).run Tryz.prog wr = .ok (.slice (some ⟨L.g i, 0, none⟩) m (L.cap i)) wr := by rw [← hm]; exact hlk
      have HI := Lib.hid hi
      have HV := Lib.hid hv
      have HI0 := Lib.hid hi0
      have HMM := Lib.hid hm
      clear hlk hck hmem hv hg0 hcg hdb0 hi hi0 hgs hm
      by_cases h2 : k < picks.length
      · obtain ⟨pb, po, rfl, hpc⟩ := HP.out k h2
        have hpc2 : wr.cell? ⟨pb, po + k, none⟩ = some (.int .i64 (picks.getD k 0)) := by
          rw [← hpc]
          exact World.cell?_of_block (((U1.out.mono (T := [L.db]) (by simp)).trans HU.out).block pb (World.block_lt_of_cell? _ _ hpc) (by simp; rintro rfl; exact HPF.out _ _ rfl (by omega) HD.out.fdb))
        obtain ⟨p, hpe⟩ : ∃ p, picks.getD k 0 = p := ⟨_, rfl⟩
        rw [hpe] at hpc2
        obtain ⟨s1, s2, s3⟩ := pick_steps p m
        have hqle := pickN_le p m
        obtain ⟨q, hq⟩ : ∃ q, pickN p m = q := ⟨_, rfl⟩
        rw [hq] at s3 hqle
        have HPE := Lib.hid hpe
        have HQ := Lib.hid hq
        clear hpc hpe hq
        generalize hr : p.tmod ((m : Int) + 1) = r at s1 s2 s3
        have hw1 : IntKind.i64.wrap r = r := IntWalk.i64_in _ (by omega)
        have hds : S.durs picks (k + 1) = if q = 0 then S.durs picks k else setf (S.durs picks k) i ((S.sec i).ver.getD (q - 1) []) := by
          show (if pickN (picks.getD k 0) (S.sec (S.dirty.getD k 0)).ver.length = 0 then _ else _) = _
          rw [HI0.out, HPE.out, HMM.out, HQ.out]
        have HDS := Lib.hid hds
        clear hds
        by_cases hq0 : q = 0
        · subst hq0
          go_wp2
          go_roundw
          case rel => exact ⟨k + 1, by omega, by omega, by go_num, by rw [HDS.out, if_pos rfl]; exact HBK.out, HU.out⟩
          case measure => simp [RowKit.intOf]; omega
        · obtain ⟨j, rfl⟩ : ∃ j, q = j + 1 := ⟨q - 1, by omega⟩
          have hj : j < (S.sec i).ver.length := by rw [HMM.out]; omega
          obtain ⟨e1, e2, e3⟩ := hgc j hj
          have hok := (HD.out.ok.sec i HI.out).2 _ (List.getElem_mem hj)
          have HVJ : Hid ((S.sec i).ver.getD j [] = (S.sec i).ver[j]) := by unfold Hid; rw [List.getD_eq_getElem?_getD, List.getElem?_eq_getElem hj]; rfl
          generalize (S.sec i).ver[j] = vj at e3 hok HVJ
          have hcell : wr.cell? ⟨L.g i, j, none⟩ = some (.slice (some ⟨(L.hs i j).1, (L.hs i j).2, none⟩) 256 256) := by rw [(cells_of hgb).1]; exact e1
          have HE3 := Lib.hid e3
          have HOK := Lib.hid hok
          have HOWN := Lib.hid (own_any (w := wr.drew) (show DHead wr.drew d L S from (D1.out.hd.upd HU.out.drew (by simpa using a1))) D1.out.ok.n2 i HI.out)
          have s4 : ((j + 1 : Nat) : Int) - 1 = (j : Nat) := by omega
          have s5 : (0 : Int) < ((j + 1 : Nat) : Int) := by omega
          have hw3 : IntKind.i64.wrap (((j + 1 : Nat) : Int) - 1) = (j : Nat) := by rw [s4]; exact IntWalk.i64_in _ (by omega)
          have s6 : (j : Int) < (m : Int) := by omega
          have hw5 : IntKind.i64.wrap (j : Int) = (j : Int) := IntWalk.i64_in _ (by omega)
          obtain ⟨cur, hcur, hcs, hcp⟩ := HBK.out
          have HCUR := Lib.hid hcur
          have HCS := Lib.hid hcs
          have HCP := Lib.hid hcp
          clear hgb hgl hgc hj e1 e2 e3 hok hcur hcs hcp hq0
          go_upto_region 8 with fail
          refine wp_region_still_tail 8 (by kernel_rfl) (by kernel_rfl) ?_
          simp only [List.take_succ_cons, List.take_zero, List.drop_succ_cons, List.drop_zero]
          change wpStill _ _ wr.drew (fun a' => wpList _ _ _ _ a' wr.drew) _ _
          iterate 2 still_step
          still_call (HOWN.out.mono fun _ _ h => ⟨h.1, h.2.symm⟩)
          iterate 5 still_step
          refine wpStill_nil (wpList_step fun K hK => ?_)
          refine step_copyb rfl (.tmp 44) (.tmp 49) rfl rfl rfl HOK.out.1.symm HE3.out HCUR.out (by rw [HOK.out.1]; omega) (by rw [HOK.out.1]; have := HCS.out; have := HI.out; omega) ?_
          intro w5 hb5 hu5 hs5
          refine hK _ _ (wpList_nil ?_)
          have HB5 := Lib.hid hb5
          have HU5 := Lib.hid hu5
          clear hb5 hu5 hK K
          go_wp2
          go_roundw
          case rel =>
            refine ⟨k + 1, by omega, by omega, by go_num, ?_, HU.out.drew.trans HU5.out⟩
            rw [HDS.out, if_neg (by omega), Nat.add_sub_cancel, HVJ.out]
            exact BlkF.splice HCS.out HCP.out i HI.out _ HOK.out.1 HB5.out
          case measure => simp [RowKit.intOf]; omega
      · have h3 : ¬ (k : Int) < picks.length := by omega
        go_wp2_with (refine wpList_iclear (k := 3) rfl _ rfl rfl Tryz.underlying63 HM.out ?_; intro w5 hm5 hu5 hs5; have M5 := Lib.hid hm5; have U5 := Lib.hid hu5; have B5 := Lib.hid (hu5.get HBr.out (by simp [a2])); obtain ⟨z0, z1, z2, z3, z4, z5, z6, z7⟩ := dcell B5.out; have y2 := (cells_of B5.out).2 2; have y3 := (cells_of B5.out).2 3; have y4 := (cells_of B5.out).2 4; have y5 := (cells_of B5.out).2 5; have y6 := (cells_of B5.out).2 6; clear hm5 hu5 hs5)
        refine bodyPost_end (results_none rfl _ _ _) rfl ?_
        exact ⟨rfl, crash_end D1.out U1.out (by rw [HN.out]; omega) HBK.out HU.out U5.out M5.out B5.out hl0⟩
    · have h3 : ¬ (k : Int) < N := by omega
      go_wp2_with (refine wpList_iclear (k := 3) rfl _ rfl rfl Tryz.underlying63 HM.out ?_; intro w5 hm5 hu5 hs5; have M5 := Lib.hid hm5; have U5 := Lib.hid hu5; have B5 := Lib.hid (hu5.get HBr.out (by simp [a2])); obtain ⟨z0, z1, z2, z3, z4, z5, z6, z7⟩ := dcell B5.out; have y2 := (cells_of B5.out).2 2; have y3 := (cells_of B5.out).2 3; have y4 := (cells_of B5.out).2 4; have y5 := (cells_of B5.out).2 5; have y6 := (cells_of B5.out).2 6; clear hm5 hu5 hs5)
      refine bodyPost_end (results_none rfl _ _ _) rfl ?_
      exact ⟨rfl, crash_end D1.out U1.out (by rw [HN.out]; omega) HBK.out HU.out U5.out M5.out B5.out hl0⟩
end Go.Proofs.YtpnpjffhkaejgaaGreatDoor
namespace Go.Proofs.YtpnpjffhkaejgaaGreatDoor
open Go.RowKit Go.Shelf

attribute [local go_sem] Oper.semAt_some

/-- A slice of cells of one, from a place up to a place, and no further. -/
theorem run_sl3 {P : Program} (w : World) {t e : TypeId} (hu : P.underlying t = some (.slice e)) (hs : (P.info? e).map (·.size) = some 1) (g o len cap : Nat) (k k' k2 : IntKind) (i j : Int) (h0 : 0 ≤ i) (h1 : i < j) (h2 : j ≤ cap) :
    (Instr.sliceAt t (.slice (some ⟨g, o, none⟩) len cap) (some (.int k i)) (some (.int k' j)) (some (.int k2 j))).run P w = .ok (.slice (some ⟨g, o + i.toNat, none⟩) (j.toNat - i.toNat) (j.toNat - i.toNat)) w := by
  cases hq : P.info? e with
  | none => simp [hq] at hs
  | some q =>
    have hj : q.size = 1 := by simpa [hq] using hs
    have hb := run_bound (P := P) w k2 j cap .slice3Acap (by omega) h2
    have hb1 := run_bound (P := P) w k' j j.toNat .slice3B (by omega) (by omega)
    have hb2 := run_bound (P := P) w k i j.toNat .slice3C h0 (by omega)
    have hne : ¬ j.toNat = i.toNat := by omega
    simp [Instr.sliceAt, Instr.slice, Instr.sliceBounds, run_underlying hu w, sizeOf, typeInfo, hq, hj, hb, hb1, hb2, hne, add_off]
/-- What a round of the loop keeps for Chunk: its two boxes. -/
def KpB (B2 B3 : Nat) (W W' : World) : Prop := W'.cell? ⟨B2, 0, none⟩ = W.cell? ⟨B2, 0, none⟩ ∧ W'.cell? ⟨B3, 0, none⟩ = W.cell? ⟨B3, 0, none⟩
theorem KpB.trans {B2 B3 : Nat} {A B C : World} (h : KpB B2 B3 A B) (k : KpB B2 B3 B C) : KpB B2 B3 A C := ⟨k.1.trans h.1, k.2.trans h.2⟩
theorem KpB.put {B2 B3 : Nat} {w : World} (h2 : B2 < w.heap.size) (h3 : B3 < w.heap.size) (W : World) (l : Nat) (o o' : Obj) (hl : w.heap.size ≤ l) (_ : W.heap[l]? = some o) (_ : o.isCells = false) (_ : o.isWalk = false) : KpB B2 B3 W (W.putObj l o') :=
  ⟨World.cell?_of_block (World.putObj_heap_other (by show B2 ≠ l; omega)), World.cell?_of_block (World.putObj_heap_other (by show B3 ≠ l; omega))⟩
def pieceV (g c : Nat) (x : Nat) : Value := .slice (some ⟨g, 256 * (x % c), none⟩) 256 256
set_option maxRecDepth 100000 in
set_option maxHeartbeats 4000000 in
theorem chunk1_in (F : Fence) (n : Nat) (h7 : F.fn 56) (hro : F.round = none) (hn : 1 ≤ n) (l B2 B3 g c cap : Nat) (hc0 : 0 < c) (hc4 : c ≤ 4096) (hcap : 256 * c ≤ cap) (J Jx : List Nat → World → Prop) (hJd : ∀ s W, J s W → J s W.drew)
    (hY : ∀ pre x W, J pre W → pre.length < c → YieldAt F (n - 1) Tryz.prog l #[pieceV g c x] W fun e W' =>
      (e = .returned (.bool true) ∧ J (pre ++ [x]) W' ∧ KpB B2 B3 W W') ∨ (e = .returned (.bool false) ∧ Jx (pre ++ [x]) W'))
    (W : World) (hB2 : W.cell? ⟨B2, 0, none⟩ = some (.slice (some ⟨g, 0, none⟩) (256 * c) cap)) (hB3 : W.cell? ⟨B3, 0, none⟩ = some (.int .i64 256)) (h0 : J [] W) :
    CallsIn F n Tryz.prog 56 #[.func (.yield l) #[] #[], .pointer (some ⟨B2, 0, none⟩), .pointer (some ⟨B3, 0, none⟩)] W fun e W' => (∃ v, e = .returned v) ∧
      ((∃ ys, ys = List.range c ∧ J ys W') ∨ (∃ pre, (∃ k, k ≤ c ∧ pre = List.range k) ∧ Jx pre W')) := by
  refine callsIn_of_wp Tryz.func56 rfl h7 ?_ hro
  simp only [Tryz.ntmps56, List.size_toArray, List.length_cons, List.length_nil, Nat.reduceAdd, Nat.reduceSub, Array.replicate_succ, Array.replicate_zero, List.push_toArray, List.append_toArray, List.nil_append, List.cons_append]
  gi_wp2
  gi_loopw [4] (fun i wr => ∃ k : Nat, k ≤ c ∧ i = .int .i64 ((256 * k : Nat) : Int) ∧ J (List.range k) wr ∧ KpB B2 B3 W wr)
    (fun i _ => 256 * c - (RowKit.intOf i).toNat)
  case atStart => exact ⟨0, Nat.zero_le _, rfl, h0, rfl, rfl⟩
  case round =>
    obtain ⟨k, hk, rfl, hJs, hnx⟩ := hrel
    have b2 := hnx.1.trans hB2
    have b3 := hnx.2.trans hB3
    by_cases hlt : k < c
    · obtain ⟨fn, tmps, assign, body, hy, hR⟩ := hY _ k wr.drew (hJd _ _ hJs) (by rw [List.length_range]; exact hlt)
      unfold pieceV at hy
      rw [Nat.mod_eq_of_lt hlt] at hy
      obtain ⟨r, hr⟩ : ∃ r, 256 * c - 256 * k = r := ⟨_, rfl⟩
      have hr2 : (256 : Int) ≤ r := by omega
      have hr3 : ¬ (r : Int) < 256 := by omega
      have hmn : min (256 : Int) r = 256 := by omega
      have htn : (256 * (k : Int) + 256).toNat - 256 * k = 256 := by omega
      have htn2 : (256 * (k : Int) + 256).toNat = 256 * k + 256 := by omega
      have hs1 : ∀ wz, (Instr.sliceAt 62 (.slice (some ⟨g, 0, none⟩) (256 * c) cap) (some (.int .i64 ((256 * k : Nat) : Int))) none none).run Tryz.prog wz = .ok (.slice (some ⟨g, 256 * k, none⟩) r (cap - 256 * k)) wz := fun wz => by
        have := run_sl_from (P := Tryz.prog) wz Tryz.underlying62 sizeU8 g 0 (256 * c) cap .i64 ((256 * k : Nat) : Int) (by omega) (by omega) (by omega)
        rw [this, Int.toNat_natCast, Nat.zero_add, hr]
      have hs2 : ∀ wz, (Instr.sliceAt 62 (.slice (some ⟨g, 0, none⟩) (256 * c) cap) (some (.int .i64 ((256 * k : Nat) : Int))) (some (.int .i64 (((256 * k : Nat) : Int) + 256))) (some (.int .i64 (((256 * k : Nat) : Int) + 256)))).run Tryz.prog wz = .ok (.slice (some ⟨g, 256 * k, none⟩) 256 256) wz := fun wz => by
        have := run_sl3 (P := Tryz.prog) wz Tryz.underlying62 sizeU8 g 0 (256 * c) cap .i64 .i64 .i64 ((256 * k : Nat) : Int) (((256 * k : Nat) : Int) + 256) (by omega) (by omega) (by omega)
        rw [this, Int.toNat_natCast, Nat.zero_add, show (((256 * k : Nat) : Int) + 256).toNat = 256 * k + 256 by omega, Nat.add_sub_cancel_left]
      gi_wp2
      gi_region
      all_goals
        gi_wp2
        refine hR.mono ?_
        rintro e W3 (⟨rfl, hJ3, hk3⟩ | ⟨rfl, hJx3⟩)
        · have hk4 : KpB B2 B3 W W3 := KpB.trans (B := wr.drew) hnx hk3
          have b2' := hk4.1.trans hB2
          have b3' := hk4.2.trans hB3
          gi_wp2
          go_roundw
          case rel => exact ⟨k + 1, by omega, by go_num, by rw [List.range_succ]; exact hJ3, hk4⟩
          case measure => simp [RowKit.intOf]; omega
        · gi_wp2
          refine bodyPost_ret (results_none rfl _ _ _) rfl ?_
          exact ⟨⟨_, rfl⟩, .inr ⟨_, ⟨k + 1, by omega, (List.range_succ).symm⟩, hJx3⟩⟩
    · obtain rfl : k = c := by omega
      gi_wp2
      go_end0
      exact ⟨⟨_, rfl⟩, .inl ⟨_, rfl, hJs⟩⟩
theorem chunk_in (F : Fence) (n : Nat) (h5 : F.fn 38) (hro : F.round = none) (a : Option Addr) (len cap : Nat) (w : World) :
    CallsIn F n Tryz.prog 38 #[.slice a len cap, .int .i64 256] w fun e w' => e = .returned (.func (.func 56) #[] #[.pointer (some ⟨w.heap.size, 0, none⟩), .pointer (some ⟨w.heap.size + 1, 0, none⟩)]) ∧ w' = (w.alloc (.cells #[.slice a len cap] 62)).alloc (.cells #[.int .i64 256] 3) := by
  refine callsIn_of_wp Tryz.func38 rfl h5 ?_ hro
  simp only [Tryz.ntmps38, List.size_toArray, List.length_cons, List.length_nil, Nat.reduceAdd, Nat.reduceSub, Array.replicate_succ, Array.replicate_zero, List.push_toArray, List.append_toArray, List.nil_append, List.cons_append]
  gi_wp2
  go_ret
  exact ⟨rfl, rfl⟩
theorem chunk_stops (F : Fence) (n : Nat) (h7 : F.fn 56) (hro : F.round = none) (hn : 1 ≤ n) (B2 B3 g c cap : Nat) (hc0 : 0 < c) (hc4 : c ≤ 4096) (hcap : 256 * c ≤ cap) (w : World) (h2 : B2 < w.heap.size) (h3 : B3 < w.heap.size)
    (hB2 : w.cell? ⟨B2, 0, none⟩ = some (.slice (some ⟨g, 0, none⟩) (256 * c) cap)) (hB3 : w.cell? ⟨B3, 0, none⟩ = some (.int .i64 256)) :
    SeqStopsK F n Tryz.prog 56 #[.pointer (some ⟨B2, 0, none⟩), .pointer (some ⟨B3, 0, none⟩)] (fun x : Nat => #[pieceV g c x]) (KpB B2 B3) (fun ys => ys = List.range c) (fun pre => ∃ k, k ≤ c ∧ pre = List.range k) c w := fun l J Jx W hW hJ _ hY h0 => by
  refine (chunk1_in F n h7 hro hn l B2 B3 g c cap hc0 hc4 hcap J Jx (fun s W1 hj => hJ s W1 _ none hj ⟨rfl, rfl, rfl, Nat.le_refl _, fun _ _ _ => rfl⟩ (fun r e => by cases e)) hY W ((hW.cell (p := ⟨B2, 0, none⟩) h2).trans hB2) ((hW.cell (p := ⟨B3, 0, none⟩) h3).trans hB3) h0).mono ?_
  rintro e W' ⟨he, h | h⟩
  · exact ⟨he, .inl h⟩
  · exact ⟨he, .inr h⟩
end Go.Proofs.YtpnpjffhkaejgaaGreatDoor
namespace Go.Proofs.YtpnpjffhkaejgaaGreatDoor
open Go.RowKit

section reads
variable {P : Program} {ops : Array Oper} {md : Region.Mode} {Q : Exit → Act → World → Prop} {S : World → Prop}

/-- Q where the code goes on; nothing else may be. -/
def OnlyN (Q : Exit → Act → World → Prop) : Exit → Act → World → Prop
  | .normal, a, w => Q .normal a w
  | _, _, _ => False
theorem OnlyN.lets (Q : Exit → Act → World → Prop) : ¬ LetsOut (OnlyN Q) := fun ⟨_, _, h⟩ => h
/-- No operation is a defer statement. -/
def noDefer (ops : Array Oper) : Bool := ops.all fun o => match o.op with | .defer _ => false | _ => true
theorem noDefer_spec (h : noDefer ops = true) (j : Nat) (o : Oper) (ho : ops[j]? = some o) (c : Call) : o.op ≠ .defer c := fun e => by
  have := Array.all_eq_true_iff_forall_mem.1 h o (Array.mem_of_getElem? ho)
  rw [e] at this; cases this
theorem oper_in {o : Oper} {l n : Nat} {a : Act} {w : World} {K K' : Act → World → Prop} (hd : ∀ c, o.op ≠ .defer c) (hK : ∀ a w, K a w → K' a w) (h : o.wp P a w K (OnlyN Q)) : o.wpIn (Fence.wide.inRound l) n P a w K' (OnlyN Q) := by
  unfold Oper.wpIn
  refine ⟨fun _ _ => trivial, ?_⟩
  rw [Oper.semAt_eq _ _ _ hd]
  unfold Oper.wp at h
  generalize (execOp a.eval o).run P w = r at h ⊢
  cases r with
  | ok x w' =>
    cases x <;> simp only [Oper.upon, Oper.uponIn] at h ⊢
    case value => exact hK _ _ h
    case skip => exact hK _ _ h
    case defer => exact hK _ _ h
    case enter f args =>
      refine ⟨fun hh => by simp [Fence.wide] at hh, CallsIn.inRound l (callsIn_wide.2 (h.mono fun e w'' he => ?_))⟩
      cases e with
      | returned v => exact hK _ _ he
      | panicked c => exact he
      | outgrown => exact absurd he (OnlyN.lets Q)
    case row row args => exact ⟨fun hh => by simp [Fence.wide] at hh, fun c cs _ => by
        obtain ⟨v, w2, r, s⟩ := h c cs
        exact ⟨v, w2, hK _ _ r, stepsIn_wide.2 s⟩⟩
  | halt x w' => cases x <;> simp only [Oper.upon, Oper.uponIn] at h ⊢; exact h
theorem wpAnyIn_of {l n : Nat} (hnd : noDefer ops = true) : ∀ (fuel : Nat) (done : Array Bool) (a : Act) (w : World), wpAny P md ops (OnlyN Q) fuel done a w → wpAnyIn (Fence.wide.inRound l) n P md ops (OnlyN Q) fuel done a w
  | 0, _, _, _, h => h
  | fuel + 1, done, a, w, h => ⟨h.1, fun i hi => by
    have h1 := h.2 i hi
    unfold wpOp at h1
    unfold wpOpIn
    cases ho : ops[i]? with
    | none => rw [ho] at h1; exact wpAnyIn_of hnd fuel _ _ _ h1
    | some o =>
      rw [ho] at h1
      dsimp only at h1 ⊢
      split
      · rename_i hw
        rw [if_pos hw] at h1
        rcases h1 with h1 | ⟨_, h1⟩
        · exact oper_in (noDefer_spec hnd i o ho) (fun a w h => wpAnyIn_of hnd fuel _ a w h) h1
        · exact absurd h1 (OnlyN.lets Q)
      · rename_i hw
        rw [if_neg hw] at h1
        exact ⟨fun _ _ => trivial, wpAnyIn_of hnd fuel _ _ _ h1⟩⟩
theorem wpIn_region_of {id l n : Nat} {a : Act} {w : World} (hm : P.follows .mixedOrders = true) (hnd : noDefer ops = true) (h : wpAny P .any ops (OnlyN Q) ops.size (Array.replicate ops.size false) a w.drew) : (Code.region id ops true).wpIn (Fence.wide.inRound l) n P Q a w :=
  wpIn_mono (wpIn_region_any hm (wpAnyIn_of hnd _ _ _ _ h)) fun e a w h => by cases e <;> first | exact h | exact (h : False).elim

/-- Operations that only read, one behind the other. -/
def wpReads (P : Program) (ops : Array Oper) (S : World → Prop) (K : Act → Prop) : List Oper → Act → Prop
  | [], a => K a
  | o :: r, a => ∃ v, YieldsIf P ops S o v a ∧ wpReads P ops S K r (a.put o.dst v)
/-- Operations of which each waits for the last; S holds behind each. -/
def wpTail (P : Program) (ops : Array Oper) (S : World → Prop) (Q : Exit → Act → World → Prop) : List Oper → Act → World → Prop
  | [], a, w => Q .normal a w
  | o :: r, a, w => Region.wanted o (yielded ops a.tmps) = true ∧ o.wp P a w (fun a' w' => S w' ∧ wpTail P ops S Q r a' w') Q
/-- The operations ts, each alone ready in its turn. -/
def seqL (md : Region.Mode) (ops : Array Oper) : List Nat → Array Bool → Bool
  | [], done => (Region.ready md ops done).isEmpty
  | t :: ts, done => decide (Region.ready md ops done = [t]) && seqL md ops ts (done.setIfInBounds t true)
/-- lk: the operations at the places ks. -/
def picks (ops : Array Oper) : List Nat → List Oper → Prop
  | [], lk => lk = []
  | k :: ks, lk => ∃ o r, lk = o :: r ∧ ops[k]? = some o ∧ picks ops ks r
theorem picks.nil : picks ops [] [] := rfl
theorem picks.cons {k : Nat} {ks : List Nat} {o : Oper} {r : List Oper} (h : ops[k]? = some o) (hr : picks ops ks r) : picks ops (k :: ks) (o :: r) := ⟨o, r, rfl, h, hr⟩
theorem wpAnyH_seq : ∀ (ts : List Nat) (tl : List Oper) (done : Array Bool) (a : Act) (w : World), picks ops ts tl → seqL md ops ts done = true → wpTail P ops S Q tl a w → wpAnyH P md ops Q S ts.length done a w
  | [], tl, done, a, w, ht, hB, h => by
    subst ht
    exact ⟨by simpa [seqL] using hB, h⟩
  | t :: ts, _, done, a, w, ⟨o, r, rfl, ho, ht⟩, hB, h => by
    simp only [seqL, Bool.and_eq_true, decide_eq_true_eq] at hB
    refine ⟨fun h1 => (by rw [hB.1] at h1; cases h1), fun i hi => ?_⟩
    rw [hB.1, List.mem_singleton] at hi
    subst hi
    unfold wpOp
    rw [ho]
    dsimp only
    rw [if_pos h.1]
    exact .inl (Oper.wp_mono (fun a' w' hh => ⟨hh.1, wpAnyH_seq ts r _ a' w' ht hB.2 hh.2⟩) h.2)
/-- The reads in the text's order; then one of the ways alts, by what comes first. -/
def readsB (md : Region.Mode) (ops : Array Oper) (alts : List (List Nat)) (m : Nat) : List Nat → Array Bool → Bool
  | [], done => decide (Region.ready md ops done = alts.map (·.headD ops.size)) && alts.all fun ts => match ts with | [] => false | t :: r => decide (r.length + 1 = m) && seqL md ops r (done.setIfInBounds t true)
  | k :: ks, done => (Region.ready md ops done).contains k && (Region.free md ops done k && readsB md ops alts m ks (done.setIfInBounds k true))
theorem reads_walk {alts : List (List Nat)} {m : Nat} {w : World} (hsel : Region.noSelect ops = true) (hS : S w) (hm0 : alts ≠ []) :
    ∀ (ks : List Nat) (lk : List Oper) (done : Array Bool) (a : Act), picks ops ks lk → readsB md ops alts m ks done = true →
      wpReads P ops S (fun a' => ∀ ts ∈ alts, ∃ tl, picks ops ts tl ∧ wpTail P ops S (OnlyN Q) tl a' w) lk a → wpAnyH P md ops (OnlyN Q) S (ks.length + m) done a w
  | [], _, done, a, hp, hB, h => by
    subst hp
    simp only [readsB, Bool.and_eq_true, decide_eq_true_eq, List.all_eq_true] at hB
    obtain ⟨hr, hall⟩ := hB
    have hml : ∃ q, m = q + 1 := by
      cases alts with
      | nil => exact absurd rfl hm0
      | cons ts r =>
        have := hall ts (by simp)
        cases ts with
        | nil => cases this
        | cons t r' => simp only [Bool.and_eq_true, decide_eq_true_eq] at this; exact ⟨_, this.1.symm⟩
    obtain ⟨q, rfl⟩ := hml
    rw [List.length_nil, Nat.zero_add]
    refine wpAnyH_all hr (by simpa using hm0) fun i hi => ?_
    obtain ⟨ts, hts, rfl⟩ := List.mem_map.1 hi
    obtain ⟨tl, hp, hw⟩ := h ts hts
    have h1 := hall ts hts
    cases ts with
    | nil => cases h1
    | cons t r =>
      simp only [Bool.and_eq_true, decide_eq_true_eq] at h1
      obtain ⟨o, rl, rfl, ho, hp2⟩ := hp
      unfold wpOp
      rw [show (t :: r).headD ops.size = t from rfl, ho]
      dsimp only
      rw [if_pos hw.1]
      refine .inl (Oper.wp_mono (fun a' w' hh => ⟨hh.1, ?_⟩) hw.2)
      have := wpAnyH_seq r rl (done.setIfInBounds t true) a' w' hp2 h1.2 hh.2
      rwa [show r.length = q by omega] at this
  | k :: ks, _, done, a, ⟨o, r, rfl, ho, hp⟩, hB, ⟨v, hy, h⟩ => by
    simp only [readsB, Bool.and_eq_true] at hB
    rw [List.length_cons, show ks.length + 1 + m = (ks.length + m) + 1 by omega]
    exact wpAnyH_take ho hsel hB.2.1 hB.1 (fun c a w h => h) hy hS (reads_walk hsel hS hm0 ks r _ _ hp hB.2.2 h)
/-- A region in a round: it reads, then it turns the world in one of the ways alts. -/
theorem wpIn_region_reads {id l n : Nat} {a : Act} {w : World} {lo : List Oper} (S : World → Prop) (ks : List Nat) (alts : List (List Nat)) (m : Nat) (lk : List Oper) (hm : P.follows .mixedOrders = true)
    (hB : (Region.noSelect lo.toArray && (noDefer lo.toArray && (decide (ks.length + m = lo.toArray.size) && (!alts.isEmpty && readsB .any lo.toArray alts m ks (Array.replicate lo.toArray.size false))))) = true) (hp : picks lo.toArray ks lk) (hS : S w.drew)
    (h : wpReads P lo.toArray S (fun a' => ∀ ts ∈ alts, ∃ tl, picks lo.toArray ts tl ∧ wpTail P lo.toArray S (OnlyN Q) tl a' w.drew) lk a) : (Code.region id lo.toArray true).wpIn (Fence.wide.inRound l) n P Q a w := by
  simp only [Bool.and_eq_true, decide_eq_true_eq] at hB
  obtain ⟨h1, h2, h3, h4, h5⟩ := hB
  refine wpIn_region_of hm h2 (wpAny_of_held (S := S) _ _ _ _ ?_)
  rw [show wpAnyH P .any lo.toArray (OnlyN Q) S lo.toArray.size = wpAnyH P .any lo.toArray (OnlyN Q) S (ks.length + m) by rw [h3]]
  exact reads_walk h1 hS (fun e => by rw [e] at h4; cases h4) ks lk _ a hp h5 h
theorem reads_step {o : Oper} {r : List Oper} {a : Act} {K : Act → Prop} {v : Value} (hw : Region.wanted o (yielded ops a.tmps) = true) (hy : ∀ w, S w → (execOp a.eval o).run P w = .ok (.value v) w) (h : wpReads P ops S K r (a.put o.dst v)) : wpReads P ops S K (o :: r) a := ⟨v, .inl ⟨hw, hy⟩, h⟩
/-- A region that draws its order: it reads, then it turns the world in one of the ways alts. -/
theorem wp_region_reads {id : Nat} {a : Act} {w : World} {lo : List Oper} (S : World → Prop) (ks : List Nat) (alts : List (List Nat)) (m : Nat) (lk : List Oper) (hm : P.follows .mixedOrders = true)
    (hB : (Region.noSelect lo.toArray && (decide (ks.length + m = lo.toArray.size) && (!alts.isEmpty && readsB .any lo.toArray alts m ks (Array.replicate lo.toArray.size false)))) = true) (hp : picks lo.toArray ks lk) (hS : S w.drew)
    (h : wpReads P lo.toArray S (fun a' => ∀ ts ∈ alts, ∃ tl, picks lo.toArray ts tl ∧ wpTail P lo.toArray S (OnlyN Q) tl a' w.drew) lk a) : (Code.region id lo.toArray true).wp P Q a w := by
  simp only [Bool.and_eq_true, decide_eq_true_eq] at hB
  obtain ⟨h1, h3, h4, h5⟩ := hB
  refine Code.wp_mono (show ∀ e a w, OnlyN Q e a w → Q e a w from fun e a w h => by cases e <;> first | exact h | exact (h : False).elim) (wp_region_any hm (wpAny_of_held (S := S) _ _ _ _ ?_))
  rw [show wpAnyH P .any lo.toArray (OnlyN Q) S lo.toArray.size = wpAnyH P .any lo.toArray (OnlyN Q) S (ks.length + m) by rw [h3]]
  exact reads_walk h1 hS (fun e => by rw [e] at h4; cases h4) ks lk _ a hp h5 h
theorem wp_of_val {o : Oper} {a : Act} {w w' : World} {K : Act → World → Prop} (v : Value) (hrun : (execOp a.eval o).run P w = .ok (.value v) w') (h : K (a.put o.dst v) w') : Oper.wp P o a w K Q := by
  unfold Oper.wp; rw [hrun]; exact h
theorem wp_of_skip {o : Oper} {a : Act} {w w' : World} {K : Act → World → Prop} (hrun : (execOp a.eval o).run P w = .ok .skip w') (h : K (a.put o.dst undef) w') : Oper.wp P o a w K Q := by
  unfold Oper.wp; rw [hrun]; exact h
theorem tail_val {o : Oper} {r : List Oper} {a : Act} {w w' : World} (v : Value) (hg : o.guard = none) (hrun : (execOp a.eval o).run P w = .ok (.value v) w') (hS : S w') (h : wpTail P ops S Q r (a.put o.dst v) w') : wpTail P ops S Q (o :: r) a w := ⟨by simp [Region.wanted, hg], wp_of_val v hrun ⟨hS, h⟩⟩
theorem tail_skip {o : Oper} {r : List Oper} {a : Act} {w w' : World} (hg : o.guard = none) (hrun : (execOp a.eval o).run P w = .ok .skip w') (hS : S w') (h : wpTail P ops S Q r (a.put o.dst undef) w') : wpTail P ops S Q (o :: r) a w := ⟨by simp [Region.wanted, hg], wp_of_skip hrun ⟨hS, h⟩⟩
theorem exec_delete {o : Oper} {a : Act} {w w' : World} {m x : Operand} {ts : Array TypeId} (ho : o.op = .call { callee := .builtin .delete, args := #[m, x], argTypes := ts }) {vm vx v : Value} (hm : a.eval m = vm) (hx : a.eval x = vx)
    (hrun : (Builtin.delete_ ts o.type #[vm, vx]).run P w = .ok v w') : (execOp a.eval o).run P w = .ok (.value v) w' := by
  unfold execOp; simp [ho, resolve, invoke, builtin, hm, hx, hrun, Result.andThen]
theorem exec_append {o : Oper} {a : Act} {w w' : World} {m x : Operand} {ts : Array TypeId} (ho : o.op = .call { callee := .builtin .append, args := #[m, x], argTypes := ts }) {vm vx v : Value} (hm : a.eval m = vm) (hx : a.eval x = vx)
    (hrun : (Builtin.append_ ts o.type #[vm, vx]).run P w = .ok v w') : (execOp a.eval o).run P w = .ok (.value v) w' := by
  unfold execOp; simp [ho, resolve, invoke, builtin, hm, hx, hrun, Result.andThen]
theorem exec_lookup {o : Oper} {a : Act} {w w' : World} {t : TypeId} {m x : Operand} {c : Bool} (ho : o.op = .lookup t m x c) {vm vx v : Value} (hm : a.eval m = vm) (hx : a.eval x = vx)
    (hrun : (Instr.lookup t vm vx c).run P w = .ok v w') : (execOp a.eval o).run P w = .ok (.value v) w' := by
  unfold execOp; simp [ho, hm, hx, hrun, Result.andThen]
theorem exec_build1 {o : Oper} {a : Act} {w : World} {t e : TypeId} {x : Operand} {v z : Value} {i0 : TypeInfo} (ho : o.op = .buildSlice t 1 #[(0, x)]) (hu : P.underlying t = some (.slice e)) (hi : P.info? e = some i0) (hz : i0.zero = some z) (hs : i0.size = 1) (hzs : z.cells.size = 1) (hx : a.eval x = v) (hv : v.cells = #[v]) :
    (execOp a.eval o).run P w = .ok (.value (.slice (some ⟨w.heap.size, 0, none⟩) 1 1)) (w.alloc (.cells #[v] e)) := by
  have hm : ∀ f : Nat → Value, Array.map f (Array.range 1) = #[f 0] := fun f => by rw [show Array.range 1 = #[0] from by decide]; simp
  have hf : Instr.fill (fun i => some (i, 1)) (Array.map (fun x => z.cells[x % z.cells.size]!) (Array.range 1)) [(0, v)] = some #[v] := by
    rw [hm]
    simp [Instr.fill, hv]
  unfold execOp
  simp [ho, hx, Instr.buildSlice, run_underlying hu, sizeOf, typeInfo, zeroValue, hi, hz, hs, newRow, hf, Result.andThen]
theorem exec_mapUpdate {o : Oper} {a : Act} {w w' : World} {t : TypeId} {m x y : Operand} (ho : o.op = .mapUpdate t m x y) {vm vx vy : Value} (hm : a.eval m = vm) (hx : a.eval x = vx) (hy : a.eval y = vy)
    (hrun : (Instr.mapUpdate t vm vx vy).run P w = .ok () w') : (execOp a.eval o).run P w = .ok .skip w' := by
  unfold execOp; simp [ho, hm, hx, hy, hrun, Result.andThen]
def opAt : List Oper → Nat → Oper
  | o :: _, 0 => o
  | _ :: r, n + 1 => opAt r n
  | [], _ => { dst := none, op := .move (.tmp 0), type := 0, pos := "", after := #[], guard := none }
theorem opAt_get : ∀ {lo : List Oper} {k : Nat}, k < lo.length → lo[k]? = some (opAt lo k)
  | o :: _, 0, _ => rfl
  | _ :: r, n + 1, h => by rw [List.getElem?_cons_succ]; exact opAt_get (lo := r) (by simpa using h)
  | [], k, h => absurd h (Nat.not_lt_zero _)
theorem picks_map {lo : List Oper} : ∀ {ks : List Nat}, (ks.all fun k => decide (k < lo.length)) = true → picks lo.toArray ks (ks.map (opAt lo))
  | [], _ => rfl
  | k :: ks, h => by
    simp only [List.all_cons, Bool.and_eq_true, decide_eq_true_eq] at h
    exact ⟨_, _, rfl, by simpa using opAt_get h.1, picks_map h.2⟩
def orderB (lo : List Oper) (ks : List Nat) (alts : List (List Nat)) (m : Nat) : Bool :=
  Region.noSelect lo.toArray && (noDefer lo.toArray && (decide (ks.length + m = lo.toArray.size) && (!alts.isEmpty && (readsB .any lo.toArray alts m ks (Array.replicate lo.toArray.size false) && (ks.all (fun k => decide (k < lo.length)) && alts.all fun ts => ts.all fun k => decide (k < lo.length))))))
def allAlts (P : Program) (lo : List Oper) (S : World → Prop) (Q : Exit → Act → World → Prop) (a : Act) (w : World) : List (List Nat) → Prop
  | [] => True
  | ts :: r => wpTail P lo.toArray S Q (ts.map (opAt lo)) a w ∧ allAlts P lo S Q a w r
theorem allAlts_mem {lo : List Oper} {a : Act} {w : World} : ∀ {alts : List (List Nat)}, allAlts P lo S Q a w alts → ∀ ts ∈ alts, wpTail P lo.toArray S Q (ts.map (opAt lo)) a w
  | ts :: r, h, t, ht => by
    rcases List.mem_cons.1 ht with rfl | ht
    · exact h.1
    · exact allAlts_mem h.2 t ht
theorem wpReads_mono {K K' : Act → Prop} (hk : ∀ a, K a → K' a) : ∀ {l : List Oper} {a : Act}, wpReads P ops S K l a → wpReads P ops S K' l a
  | [], _, h => hk _ h
  | _ :: _, _, ⟨v, h1, h2⟩ => ⟨v, h1, wpReads_mono hk h2⟩
/-- As wpIn_region_reads, the operations laid out. -/
theorem wpIn_region_order {id l n : Nat} {a : Act} {w : World} {lo : List Oper} (S : World → Prop) (ks : List Nat) (alts : List (List Nat)) (m : Nat) (hm : P.follows .mixedOrders = true) (hB : orderB lo ks alts m = true) (hS : S w.drew)
    (h : wpReads P lo.toArray S (fun a' => allAlts P lo S (OnlyN Q) a' w.drew alts) (ks.map (opAt lo)) a) : (Code.region id lo.toArray true).wpIn (Fence.wide.inRound l) n P Q a w := by
  simp only [orderB, Bool.and_eq_true, List.all_eq_true (l := alts)] at hB
  obtain ⟨h1, h2, h3, h4, h5, h6, h7⟩ := hB
  exact wpIn_region_reads S ks alts m _ hm (by simp only [Bool.and_eq_true]; exact ⟨h1, h2, h3, h4, h5⟩) (picks_map h6) hS (wpReads_mono (fun a' ha ts hts => ⟨_, picks_map (h7 ts hts), allAlts_mem ha ts hts⟩) h)
theorem wp_region_order {id : Nat} {a : Act} {w : World} {lo : List Oper} (S : World → Prop) (ks : List Nat) (alts : List (List Nat)) (m : Nat) (hm : P.follows .mixedOrders = true) (hB : orderB lo ks alts m = true) (hS : S w.drew)
    (h : wpReads P lo.toArray S (fun a' => allAlts P lo S (OnlyN Q) a' w.drew alts) (ks.map (opAt lo)) a) : (Code.region id lo.toArray true).wp P Q a w := by
  simp only [orderB, Bool.and_eq_true, List.all_eq_true (l := alts)] at hB
  obtain ⟨h1, h2, h3, h4, h5, h6, h7⟩ := hB
  exact wp_region_reads S ks alts m _ hm (by simp only [Bool.and_eq_true]; exact ⟨h1, h3, h4, h5⟩) (picks_map h6) hS (wpReads_mono (fun a' ha ts hts => ⟨_, picks_map (h7 ts hts), allAlts_mem ha ts hts⟩) h)
end reads
end Go.Proofs.YtpnpjffhkaejgaaGreatDoor
namespace Go.Proofs.YtpnpjffhkaejgaaGreatDoor
open Go.RowKit

/-- One sector is written: at once, or as a version. -/
def putV (S : Dk) (fua : Bool) (i : Nat) (l : List Nat) : Dk := { S with sec := setf S.sec i (if fua then ⟨l, []⟩ else ⟨(S.sec i).dur, (S.sec i).ver ++ [l]⟩) }
theorem putV_sec {S : Dk} {fua : Bool} {i j : Nat} {l : List Nat} (h : j ≠ i) : (putV S fua i l).sec j = S.sec j := setf_other _ _ h
theorem putV_true {S : Dk} {i : Nat} {l : List Nat} : (putV S true i l).sec i = ⟨l, []⟩ := setf_same _ _ _
theorem putV_false {S : Dk} {i : Nat} {l : List Nat} : (putV S false i l).sec i = ⟨(S.sec i).dur, (S.sec i).ver ++ [l]⟩ := setf_same _ _ _
theorem Dk.Ok.putV {S : Dk} (h : S.Ok) (fua : Bool) (i : Nat) {l : List Nat} (hl : l.length = 256 ∧ BytesOk l) : (putV S fua i l).Ok := ⟨h.n1, h.n2, fun j hj => by
    by_cases e : j = i
    · subst e
      cases fua
      · rw [putV_false]
        refine ⟨(h.sec j hj).1, fun v hv => ?_⟩
        rcases List.mem_append.1 hv with hv | hv
        · exact (h.sec j hj).2 v hv
        · rw [List.mem_singleton.1 hv]; exact hl
      · rw [putV_true]
        exact ⟨hl, fun v hv => by cases hv⟩
    · rw [putV_sec e]; exact h.sec j hj, h.fall, h.left⟩
theorem DHead.putV {w : World} {d : Nat} {L : DLay} {S : Dk} (h : DHead w d L S) (fua : Bool) (i : Nat) (l : List Nat) : DHead w d L (putV S fua i l) := h
theorem IsDisk.hs_mb {w : World} {d : Nat} {L : DLay} {F : Nat → Prop} {S : Dk} (h : IsDisk w d L F S) {j q : Nat} (hj : j < S.n) (hq : q < (S.sec j).ver.length) : (L.hs j q).1 ≠ L.mb := fun e => by
  obtain ⟨es, ck, hmb0⟩ := h.map.block
  have hv : (S.sec j).ver ≠ [] := List.length_pos_iff.1 (by omega)
  obtain ⟨cs, _, _, _, _, hc⟩ := h.ver j hj hv
  have h256 := ((h.ok.sec j hj).2 _ (List.getElem_mem hq)).1
  obtain ⟨b, o, e2, hcell⟩ := (hc q hq).2.2.2 0 (by rw [h256]; decide)
  cases e2
  obtain ⟨o2, ho2, hic⟩ := cells_of_cell hcell
  rw [e, hmb0] at ho2
  cases ho2
  cases hic
theorem IsDisk.g_mb {w : World} {d : Nat} {L : DLay} {F : Nat → Prop} {S : Dk} (h : IsDisk w d L F S) {j : Nat} (hj : j < S.n) (hv : (S.sec j).ver ≠ []) : L.g j ≠ L.mb ∧ L.g j ≠ L.db ∧ d ≠ L.g j := by
  obtain ⟨es, ck, hmb0⟩ := h.map.block
  obtain ⟨cs, hg, _⟩ := h.ver j hj hv
  obtain ⟨csd, hdb0, _⟩ := h.dur
  obtain ⟨c, l, hd0, _⟩ := h.hd
  exact ⟨(fun e => by rw [e, hmb0] at hg; cases hg), dne hg hdb0 (by decide), dne hd0 hg (by decide)⟩
/-- Written at once: the durable bytes are new, the versions are gone. -/
theorem IsDisk.put_fua {w w1 w2 : World} {d : Nat} {L : DLay} {F : Nat → Prop} {S : Dk} (h : IsDisk w d L F S) (i : Nat) (hi : i < S.n) {l : List Nat} (hl : l.length = 256 ∧ BytesOk l)
    (hb : BlkF w1 L.db S.n (setf (fun j => (S.sec j).dur) i l)) (u1 : Upd [L.db] w w1) (hm : IMap Tryz.prog 3 w2 L.mb (fun z => if z = (i : Int) then none else mapOf L S z)) (u2 : Upd [L.mb] w1 w2) : IsDisk w2 d L F (putV S true i l) := by
  obtain ⟨a1, a2, a3⟩ := h.apart3
  have u : Upd [L.db, L.mb] w w2 := (u1.mono (by simp)).trans (u2.mono (by simp))
  obtain ⟨csd, hdb0, _⟩ := h.dur
  obtain ⟨es, ck, hmb0⟩ := h.map.block
  have hne : ∀ j, ((putV S true i l).sec j).ver ≠ [] → j ≠ i ∧ (S.sec j).ver ≠ [] := fun j hj => by
    by_cases e : j = i
    · subst e; rw [putV_true] at hj; exact absurd rfl hj
    · rw [putV_sec e] at hj; exact ⟨e, hj⟩
  refine ⟨h.ok.putV true i hl, (h.hd.upd u (by simp [a1, a2])).putV true i l, ?_, hm.congr fun x => ?_, fun j hj hv => ?_, fun j k hj hk h1 h2 hjk => h.apart j k hj hk (hne j h1).2 (hne k h2).2 hjk,
    fun j k hj hk h1 q hq => ?_, h.fd, h.fdb, h.fmb, fun j hj hv => h.fg j hj (hne j hv).2, fun j hj q hq => ?_, fun x hx => Nat.lt_of_lt_of_le (h.old x hx) u.size⟩
  · refine (hb.upd u2 (by simpa using a3)).congr fun j _ => ?_
    by_cases e : j = i
    · subst e; rw [setf_same, putV_true]
    · rw [setf_other _ _ e, putV_sec e]
  · by_cases e : x = (i : Int)
    · subst e
      rw [if_pos rfl]
      unfold mapOf
      rw [if_neg (fun e => e.2.2 (by rw [Int.toNat_natCast, putV_true]))]
    · rw [if_neg e]
      unfold mapOf
      have hx : 0 ≤ x → x.toNat ≠ i := fun h0 e2 => e (by omega)
      by_cases h0 : 0 ≤ x
      · unfold verV; rw [putV_sec (hx h0)]; rfl
      · rw [if_neg (fun e => h0 e.1), if_neg (fun e => h0 e.1)]
  · obtain ⟨e, hv'⟩ := hne j hv
    rw [putV_sec e]
    have hv0 := h.ver j hj hv'
    obtain ⟨cs, hg, _, _, _, hc⟩ := h.ver j hj hv'
    refine hv0.upd (u.p (F := fun x => x = L.db ∨ x = L.mb) (by simp)) (fun e => ?_) fun q hq e => ?_
    · rcases e with e | e
      · exact dne hg hdb0 (by decide) e
      · rw [e, hmb0] at hg; cases hg
    · rcases e with e | e
      · exact (hc q hq).2.1 e
      · exact h.hs_mb hj hq e
  · by_cases e : k = i
    · subst e; rw [putV_true] at hq; exact absurd hq (Nat.not_lt_zero _)
    · rw [putV_sec e] at hq; exact h.hsg j k hj hk (hne j h1).2 q hq
  · by_cases e : j = i
    · subst e; rw [putV_true] at hq; exact absurd hq (Nat.not_lt_zero _)
    · rw [putV_sec e] at hq; exact h.fh j hj q hq
/-- The layout with one version more of sector i, its m-th: its header in block g', its bytes at o0 of block g0. -/
def DLay.add (L : DLay) (i m g' cap' g0 o0 : Nat) : DLay := ⟨L.db, L.mb, setf L.g i g', setf L.cap i cap', fun j q => if j = i ∧ q = m then (g0, o0) else L.hs j q⟩
def heads (L : DLay) (i m : Nat) : List Value := (List.range m).map fun j => Value.slice (some ⟨(L.hs i j).1, (L.hs i j).2, none⟩) 256 256
theorem heads_get {L : DLay} {i m q : Nat} (x : Value) : (heads L i m ++ [x])[q]? = if q < m then some (Value.slice (some ⟨(L.hs i q).1, (L.hs i q).2, none⟩) 256 256) else if q = m then some x else none := by
  have hl : (heads L i m).length = m := by simp [heads]
  rw [List.getElem?_append, hl]
  by_cases h : q < m
  · rw [if_pos h, if_pos h]; simp [heads, h]
  · rw [if_neg h, if_neg h]
    by_cases e : q = m
    · subst e; simp
    · rw [if_neg e, List.getElem?_eq_none (by simp; omega)]
/-- Written as a version: its header is behind the others. -/
theorem IsDisk.put_ver {w wa w1 w2 : World} {d : Nat} {L : DLay} {F : Nat → Prop} {S : Dk} (h : IsDisk w d L F S) (i : Nat) (hi : i < S.n) {l : List Nat} (hl : l.length = 256 ∧ BytesOk l) {g0 o0 : Nat} (hby : IsBytes w2 (some ⟨g0, o0, none⟩) l)
    (hdb : g0 ≠ L.db) (hgg : ∀ j, j < S.n → (S.sec j).ver ≠ [] → g0 ≠ L.g j) (hg0 : g0 < w.heap.size) (ua : Upd [] w wa) {g' cap' m : Nat} (hm : (S.sec i).ver.length = m) {v : Value} (hv : v = if (S.sec i).ver = [] then .slice none 0 0 else verV L S i)
    (hrow : w1.ownsRow 0 62 1 (.slice (some ⟨g', 0, none⟩) (m + 1) cap') (m + 1) (heads L i m ++ [.slice (some ⟨g0, o0, none⟩) 256 256])) (hmine : Mine v wa (.slice (some ⟨g', 0, none⟩) (m + 1) cap') w1)
    (hmap : IMap Tryz.prog 3 w2 L.mb (fun z => if z = (i : Int) then some (.slice (some ⟨g', 0, none⟩) (m + 1) cap') else mapOf L S z)) (u2 : Upd [L.mb] w1 w2) :
    IsDisk w2 d (L.add i m g' cap' g0 o0) (fun x => F x ∨ x = g' ∨ x = g0) (putV S false i l) := by
  obtain ⟨a1, a2, a3⟩ := h.apart3
  have hT : ∀ x ∈ v.ownBlock.toList, (S.sec i).ver ≠ [] ∧ x = L.g i := fun x hx => by
    by_cases e : (S.sec i).ver = []
    · rw [hv, if_pos e] at hx; simp [Value.ownBlock] at hx
    · rw [hv, if_neg e] at hx; exact ⟨e, by simpa [verV, Value.ownBlock] using hx⟩
  have hg' : ((S.sec i).ver ≠ [] ∧ g' = L.g i) ∨ w.heap.size ≤ g' := by
    rcases hmine.blk g' (by simp [Value.ownBlock]) with e | e
    · exact .inl (hT _ e)
    · exact .inr (Nat.le_trans ua.size e)
  have u : Upd (L.mb :: v.ownBlock.toList) w w2 := ((ua.mono (by simp)).trans (hmine.upd.mono (fun x hx => List.mem_cons_of_mem _ hx))).trans (u2.mono (by simp))
  have up : UpdP (fun x => x = L.mb ∨ ((S.sec i).ver ≠ [] ∧ x = L.g i)) w w2 := u.p fun x hx => by
    rcases List.mem_cons.1 hx with e | e
    · exact .inl e
    · exact .inr (hT x e)
  have hmb := h.old _ h.fmb
  have hg'mb : g' ≠ L.mb := fun e => by
    rcases hg' with ⟨e1, e2⟩ | e2
    · exact (h.g_mb hi e1).1 (e2.symm.trans e)
    · omega
  obtain ⟨_, ⟨hn, _⟩ | ⟨g2, c2, cur, he, _, hcur, hcc, hcm, hcs, htk⟩⟩ := hrow
  · cases hn
  simp only [Value.slice.injEq, Option.some.injEq, Addr.mk.injEq, and_true, true_and] at he
  obtain ⟨e1, e2⟩ := he
  subst e1
  subst e2
  have hcur2 := u2.get hcur (by simpa using hg'mb)
  have hcg : ∀ q, q < m + 1 → cur[q]? = (heads L i m ++ [Value.slice (some ⟨g0, o0, none⟩) 256 256])[q]? := fun q hq => by
    rw [← htk, List.getElem?_take_of_lt (by omega), Array.getElem?_toList]
  have hne : ∀ j, j ≠ i → ((putV S false i l).sec j).ver ≠ [] → (S.sec j).ver ≠ [] := fun j e hj => by rwa [putV_sec e] at hj
  have hgo : ∀ j, j < S.n → j ≠ i → (S.sec j).ver ≠ [] → g' ≠ L.g j := fun j hj e hv e2 => by
    rcases hg' with ⟨e1, e3⟩ | e3
    · exact h.apart i j hi hj e1 hv (Ne.symm e) (e3.symm.trans e2)
    · have := h.old _ (h.fg j hj hv); omega
  have hog : ∀ j, j < S.n → ∀ q, q < (S.sec j).ver.length → (L.hs j q).1 ≠ g' := fun j hj q hq e2 => by
    rcases hg' with ⟨e1, e3⟩ | e3
    · exact h.hsg i j hi hj e1 q hq (e2.trans e3)
    · have := h.old _ (h.fh j hj q hq); omega
  have h0g : g0 ≠ g' := fun e => by
    rcases hg' with ⟨e1, e3⟩ | e3
    · exact hgg i hi e1 (e.trans e3)
    · omega
  have hlen : ∀ j, j < S.n → ∀ q, q < ((putV S false i l).sec j).ver.length → (j = i ∧ q = m) ∨ (¬ (j = i ∧ q = m) ∧ q < (S.sec j).ver.length) := fun j _ q hq => by
    by_cases e : j = i
    · subst e
      rw [putV_false, List.length_append, hm, List.length_singleton] at hq
      by_cases e2 : q = m
      · exact .inl ⟨rfl, e2⟩
      · exact .inr ⟨fun h => e2 h.2, by omega⟩
    · rw [putV_sec e] at hq; exact .inr ⟨fun h => e h.1, hq⟩
  have hL : ∀ j q, ¬ (j = i ∧ q = m) → (L.add i m g' cap' g0 o0).hs j q = L.hs j q := fun j q e => if_neg e
  have hLn : (L.add i m g' cap' g0 o0).hs i m = (g0, o0) := if_pos ⟨rfl, rfl⟩
  have hLg : (L.add i m g' cap' g0 o0).g i = g' := setf_same _ _ _
  have hLo : ∀ j, j ≠ i → (L.add i m g' cap' g0 o0).g j = L.g j := fun j e => setf_other _ _ e
  refine ⟨h.ok.putV false i hl, ?_, ?_, hmap.congr fun x => ?_, fun j hj hv2 => ?_, fun j k hj hk h1 h2 hjk => ?_, fun j k hj hk h1 q hq => ?_, .inl h.fd, .inl h.fdb, .inl h.fmb, fun j hj hv2 => ?_, fun j hj q hq => ?_, fun x hx => ?_⟩
  · obtain ⟨c, l0, hb, r⟩ := h.hd
    refine ⟨c, l0, up.get hb ?_, r⟩
    rintro (e | ⟨e, e3⟩)
    · exact a2 e
    · exact (h.g_mb hi e).2.2 e3
  · obtain ⟨cs, hb, r1, r2⟩ := h.dur
    refine BlkF.congr ⟨cs, up.get hb ?_, r1, r2⟩ fun j _ => ?_
    · rintro (e | ⟨e, e3⟩)
      · exact a3 e
      · exact (h.g_mb hi e).2.1 e3.symm
    · by_cases e : j = i
      · subst e; rw [putV_false]
      · rw [putV_sec e]
  · by_cases e : x = (i : Int)
    · subst e
      rw [if_pos rfl, mapOf_in (show i < (putV S false i l).n from hi), putV_false, if_neg (by simp)]
      unfold verV
      rw [putV_false, hLg, List.length_append, hm, show (L.add i m g' cap' g0 o0).cap i = cap' from setf_same _ _ _]; rfl
    · rw [if_neg e]
      unfold mapOf
      by_cases h0 : 0 ≤ x
      · have hx : x.toNat ≠ i := fun e2 => e (by omega)
        unfold verV
        rw [putV_sec hx, hLo _ hx, show (L.add i m g' cap' g0 o0).cap x.toNat = L.cap x.toNat from setf_other _ _ hx]; rfl
      · rw [if_neg (fun e => h0 e.1), if_neg (fun e => h0 e.1)]
  · by_cases e : j = i
    · subst e
      refine ⟨cur, by rw [hLg]; exact hcur2, by rw [show (L.add j m g' cap' g0 o0).cap j = cap' from setf_same _ _ _, hcs, Nat.mul_one], by rw [putV_false, List.length_append, hm, List.length_singleton, show (L.add j m g' cap' g0 o0).cap j = cap' from setf_same _ _ _]; exact hcc,
        by rw [show (L.add j m g' cap' g0 o0).cap j = cap' from setf_same _ _ _]; exact hcm, fun q hq => ?_⟩
      have hq2 := hq
      rw [putV_false, List.length_append, hm, List.length_singleton] at hq2
      rw [hcg q hq2, heads_get]
      rcases hlen j hj q hq with ⟨_, e2⟩ | ⟨e2, e3⟩
      · subst e2
        rw [if_neg (by omega), if_pos rfl, hLn]
        refine ⟨rfl, hdb, ?_⟩
        have : ((putV S false j l).sec j).ver[q] = l := by simp [putV_false, ← hm]
        rw [this]; exact hby
      · rw [hm] at e3
        rw [if_pos e3, hL _ _ e2]
        have hvn : (S.sec j).ver ≠ [] := List.length_pos_iff.1 (by omega)
        obtain ⟨_, _, _, _, _, hc⟩ := h.ver j hj hvn
        obtain ⟨_, q2, q3⟩ := hc q (by omega)
        refine ⟨rfl, q2, ?_⟩
        have : ((putV S false j l).sec j).ver[q] = (S.sec j).ver[q]'(by omega) := by simp only [putV_false]; rw [List.getElem_append_left (by omega)]
        rw [this]
        refine ⟨q3.1, fun z hz => ?_⟩
        obtain ⟨b, o, e4, hcell⟩ := q3.2 z hz
        cases e4
        exact ⟨_, _, rfl, by
          rw [← hcell]
          exact World.cell?_of_block (up.block _ (World.block_lt_of_cell? _ _ hcell) (by
            rintro (e | ⟨e, e3⟩)
            · exact h.hs_mb hj (by omega) e
            · exact h.hsg j j hj hj e q (by omega) e3))⟩
    · have hv3 := hne j e hv2
      rw [putV_sec e]
      have hd2 := (h.ver j hj hv3).upd up (by
        rintro (e4 | ⟨e4, e5⟩)
        · exact (h.g_mb hj hv3).1 e4
        · exact h.apart j i hj hi hv3 e4 e e5) (fun q hq => by
        rintro (e4 | ⟨e4, e5⟩)
        · exact h.hs_mb hj hq e4
        · exact h.hsg i j hi hj e4 q hq e5)
      obtain ⟨cs, hb, r1, r2, r3, r4⟩ := hd2
      refine ⟨cs, by rw [hLo j e]; exact hb, by rw [show (L.add i m g' cap' g0 o0).cap j = L.cap j from setf_other _ _ e]; exact r1, by rw [show (L.add i m g' cap' g0 o0).cap j = L.cap j from setf_other _ _ e]; exact r2, by rw [show (L.add i m g' cap' g0 o0).cap j = L.cap j from setf_other _ _ e]; exact r3, fun q hq => ?_⟩
      rw [hL j q (fun hh => e hh.1)]
      exact r4 q hq
  · by_cases e : j = i
    · subst e
      rw [hLg, hLo k (Ne.symm hjk)]
      exact hgo k hk (Ne.symm hjk) (hne k (Ne.symm hjk) h2)
    · rw [hLo j e]
      by_cases e2 : k = i
      · subst e2
        rw [hLg]; exact Ne.symm (hgo j hj e (hne j e h1))
      · rw [hLo k e2]; exact h.apart j k hj hk (hne j e h1) (hne k e2 h2) hjk
  · rcases hlen k hk q hq with ⟨e2, e3⟩ | ⟨e2, e3⟩
    · subst e2
      subst e3
      rw [hLn]
      by_cases e : j = k
      · subst e; rw [hLg]; exact h0g
      · rw [hLo j e]; exact hgg j hj (hne j e h1)
    · rw [hL _ _ e2]
      by_cases e : j = i
      · subst e; rw [hLg]; exact hog k hk q e3
      · rw [hLo j e]; exact h.hsg j k hj hk (hne j e h1) q e3
  · by_cases e : j = i
    · subst e; rw [hLg]; exact .inr (.inl rfl)
    · rw [hLo j e]; exact .inl (h.fg j hj (hne j e hv2))
  · rcases hlen j hj q hq with ⟨e2, e3⟩ | ⟨e2, e3⟩
    · subst e2
      subst e3
      rw [hLn]; exact .inr (.inr rfl)
    · rw [hL _ _ e2]; exact .inl (h.fh j hj q e3)
  · rcases hx with e | e | e
    · exact Nat.lt_of_lt_of_le (h.old x e) u.size
    · rw [e]; exact lt_of_block hcur2
    · rw [e]; exact Nat.lt_of_lt_of_le hg0 u.size
end Go.Proofs.YtpnpjffhkaejgaaGreatDoor
