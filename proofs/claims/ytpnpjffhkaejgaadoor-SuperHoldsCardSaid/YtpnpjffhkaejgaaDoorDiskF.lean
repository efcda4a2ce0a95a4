/-
  PROVED HERE: which sectors of a disk are dirty, in order. Conditions: those that each theorem names.
-/
import Derived.Test.YtpnpjffhkaejgaaDoorDiskE
import Derived.Test.YtpnpjffhkaejgaaDoorShelf
namespace Go.Proofs.YtpnpjffhkaejgaaDoor
open Go.RowKit Go.Maps Go.Sort Go.Shelf

def Dk.dirty (S : Dk) : List Nat := (List.range S.n).filter fun i => !(S.sec i).ver.isEmpty
theorem mem_dirty {S : Dk} {i : Nat} : i ∈ S.dirty ↔ i < S.n ∧ (S.sec i).ver ≠ [] := by
  unfold Dk.dirty
  rw [List.mem_filter, List.mem_range]
  simp
theorem dirty_sorted (S : Dk) : S.dirty.Pairwise (· < ·) := List.Pairwise.filter _ List.pairwise_lt_range
def nats (l : List Nat) : List Value := l.map fun i : Nat => Value.int .i64 (i : Int)
def DirtyOut (B : Nat) (l : List Nat) (e : Ending) (w' : World) : Prop := ∃ v, e = .returned v ∧ w'.ownsRow B 3 1 v l.length (nats l)
theorem mapOf_isSome {L : DLay} {S : Dk} {x : Int} : (mapOf L S x).isSome = true ↔ ∃ i : Nat, x = i ∧ i ∈ S.dirty := by
  constructor
  · intro h
    obtain ⟨v, hv⟩ := Option.isSome_iff_exists.1 h
    obtain ⟨i, rfl, h1, h2, _⟩ := mapOf_some hv
    exact ⟨i, rfl, mem_dirty.2 ⟨h1, h2⟩⟩
  · rintro ⟨i, rfl, hi⟩
    obtain ⟨h1, h2⟩ := mem_dirty.1 hi
    rw [mapOf_in h1, if_neg h2]; rfl
theorem sorted_dirty {S : Dk} {L : DLay} {ss ks : List Int} (hp : ss.Perm ks) (hn : ks.Nodup) (hk : ∀ x, x ∈ ks ↔ (mapOf L S x).isSome = true) : ss.mergeSort (fun x y => decide (x ≤ y)) = S.dirty.map fun i : Nat => (i : Int) := by
  have hd : (S.dirty.map fun i : Nat => (i : Int)).Pairwise (· < ·) := List.pairwise_map.2 ((dirty_sorted S).imp fun h => by omega)
  refine List.Perm.eq_of_pairwise (le := fun a b => a ≤ b) (fun a b _ _ h1 h2 => by omega) ((List.pairwise_mergeSort (fun a b c => by simp; omega) (fun a b => by simp; omega) ss).imp fun h => by simpa using h) (hd.imp fun h => by omega) ?_
  refine ((List.mergeSort_perm _ _).trans hp).trans ((List.perm_ext_iff_of_nodup hn (hd.imp fun h => by omega)).2 fun x => ?_)
  rw [hk, mapOf_isSome, List.mem_map]
  constructor
  · rintro ⟨i, rfl, h⟩; exact ⟨i, h, rfl⟩
  · rintro ⟨i, h, rfl⟩; exact ⟨i, rfl, h⟩
theorem sortsA (m : Nat) : AnyZI.SortsIn Tryd.prog Tryd.sortedA_ren Fence.wide m :=
  ⟨fun blk off cap ss W hH hblk hsz => callsIn_wide.2 (AnyM.slices_Sort_int Tryd.sortA blk off cap ss W hH hblk hsz),
   fun p cap W => callsIn_wide.2 (AnyM.slices_Sort_int_none Tryd.sortA p cap W)⟩
set_option maxHeartbeats 1000000 in
theorem dirty_any {w : World} {d : Nat} {L : DLay} {F : Nat → Prop} {S : Dk} (h : IsDisk w d L F S) : Calls Tryd.prog 20 #[.pointer (some ⟨d, 0, none⟩)] w fun e w' => DirtyOut w.heap.size S.dirty e w' ∧ Upd [] w w' := by
  refine (callsIn_wide (n := 6)).1 ?_
  obtain ⟨D0, hown, hv⟩ := h.map
  obtain ⟨k1, k2, _⟩ := keys_view hown Tryd.underlying3
  have hsz : Maps.size D0 ≤ 4096 := by
    refine size_bound hown Tryd.underlying3 fun x hx => ?_
    rw [hv] at hx
    obtain ⟨i, rfl, hi⟩ := mapOf_isSome.1 hx
    have := (mem_dirty.1 hi).1
    have := h.ok.n2
    omega
  have hmax : Maps.size D0 ≤ maxLen := by unfold maxLen; omega
  have hbytes : Maps.size D0 * 8 ≤ 140737488355328 := by omega
  have hbl := hown.lt
  have hseq : SeqGives Fence.wide 2 Tryd.prog 47 #[.pointer (some ⟨w.heap.size, 0, none⟩)] encZ (fun ss => ss.Perm (Go.intKeys D0)) (Maps.size D0) (w.alloc (.cells #[.map (some L.mb)] 63)) :=
    AnyZI.keys_gives (ρ := Tryd.keysA_ren) { Tryd.keysA with } Fence.wide _ trivial rfl (by omega) w.heap.size L.mb (Maps.size D0) D0 _ (by simp) (by simp) (by
      obtain ⟨es, clock, hb, Ft, hs, hD⟩ := hown
      exact ⟨es, clock, (Below.heap_alloc _ _ L.mb hbl).trans hb, Ft, hs, hD⟩)
  have cK : ∀ mb W, CallsIn Fence.wide 5 Tryd.prog 37 #[.map mb] W fun e w' => e = .returned (.func (.func 47) #[] #[.pointer (some ⟨W.heap.size, 0, none⟩)]) ∧ w' = W.alloc (.cells #[.map mb] 63) := fun mb W => AnyZI.keys_in Tryd.keysA Fence.wide 5 trivial rfl mb W
  have cS := AnyZI.sorted_in Tryd.sortedA Fence.wide 5 trivial trivial trivial trivial rfl (by omega) (sortsA _) (enters_of Tryd.func46 (by kernel_rfl) rfl) 47 #[.pointer (some ⟨w.heap.size, 0, none⟩)] trivial (enters_of Tryd.func47 (by kernel_rfl) rfl) _ _ hmax hbytes _ hseq
  change CallsIn _ _ Tryd.prog 36 _ _ _ at cS
  have hfK : Fence.wide.fn 37 := trivial
  have hfS : Fence.wide.fn 36 := trivial
  obtain ⟨c0, l0, hb0, _⟩ := h.hd
  obtain ⟨_, q1, _⟩ := dcell hb0
  refine callsIn_of_wp Tryd.func20 rfl trivial ?_ rfl
  simp only [Tryd.ntmps20, List.size_toArray, List.length_cons, List.length_nil, Nat.reduceAdd, Nat.reduceSub, Array.replicate_succ, Array.replicate_zero, List.push_toArray, List.append_toArray, List.nil_append, List.cons_append]
  gi_wp2_with (first
    | (gi_at_call 37; refine (cK _ _).mono ?_; rintro e w' ⟨rfl, rfl⟩)
    | (gi_at_call 36; refine cS.mono ?_; rintro e w' ⟨v, ss, rfl, hS, hrow, hnil, hb⟩))
  go_ret
  have hb2 := ((Below.refl _ w).alloc (Nat.le_refl _) (.cells #[.map (some L.mb)] 63)).trans (hb.mono (by simp))
  refine ⟨⟨v, rfl, ?_⟩, Upd.of_below hb2⟩
  have hrow2 : w'.ownsRow w.heap.size 3 1 v ss.length ((ss.mergeSort (fun x y => decide (x ≤ y))).map encZ) := ownsRow_base_a hrow (by simp)
  rw [sorted_dirty hS k1 (fun x => by rw [k2, hv])] at hrow2
  have hl : ss.length = S.dirty.length := by
    have := congrArg List.length (sorted_dirty hS k1 (fun x => by rw [k2, hv]))
    simpa using this
  rw [hl, List.map_map] at hrow2
  exact hrow2
end Go.Proofs.YtpnpjffhkaejgaaDoor
