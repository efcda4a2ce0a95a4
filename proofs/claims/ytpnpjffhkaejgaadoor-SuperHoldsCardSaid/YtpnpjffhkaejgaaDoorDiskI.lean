/-
  PROVED HERE: slices.Chunk over bytes, in pieces of 256. Conditions: those that each theorem names.
-/
import Derived.Test.YtpnpjffhkaejgaaDoorDiskH
import Derived.RangeFuncBox
import Derived.RangeFuncLeaves
import Derived.RangeFuncWrites
import Derived.Shelf.Abstract
import Derived.OwnWalkIn
import Derived.TacticsInMore
import Derived.LoopNIn
import Derived.LoopIn
namespace Go.Proofs.YtpnpjffhkaejgaaDoor
open Go.RowKit Go.Shelf

attribute [local go_sem] Oper.semAt_some

/-- A slice of cells of one, from a place up to a place, and no further. -/
theorem run_sl3 {P : Program} (w : World) {t e : TypeId} (hu : P.underlying t = some (.slice e)) (hs : (P.info? e).map (·.size) = some 1) (g o len cap : Nat) (k k' k2 : IntKind) (i j : Int) (h0 : 0 ≤ i) (h1 : i < j) (h2 : j ≤ cap) :
    (Instr.sliceAt t (.slice (some ⟨g, o, none⟩) len cap) (some (.int k i)) (some (.int k' j)) (some (.int k2 j))).run P w = .ok (.slice (some ⟨g, o + i.toNat, none⟩) (j.toNat - i.toNat) (j.toNat - i.toNat)) w := by
  cases hq : P.info? e with
  | none => simp [hq] at hs
  | some q =>
    have hj : q.size = 1 := by simpa [hq] using hs
    have hb := run_bound (P := P) w k2 j cap .slice3Acap (by omega) h2
    have hb1 := run_bound (P := P) w k' j j.toNat .slice3B (by omega) (by omega)
    have hb2 := run_bound (P := P) w k i j.toNat .slice3C h0 (by omega)
    have hne : ¬ j.toNat = i.toNat := by omega
    simp [Instr.sliceAt, Instr.slice, Instr.sliceBounds, run_underlying hu w, sizeOf, typeInfo, hq, hj, hb, hb1, hb2, hne, add_off]
/-- What a round of the loop keeps for Chunk: its two boxes. -/
def KpB (B2 B3 : Nat) (W W' : World) : Prop := W'.cell? ⟨B2, 0, none⟩ = W.cell? ⟨B2, 0, none⟩ ∧ W'.cell? ⟨B3, 0, none⟩ = W.cell? ⟨B3, 0, none⟩
theorem KpB.trans {B2 B3 : Nat} {A B C : World} (h : KpB B2 B3 A B) (k : KpB B2 B3 B C) : KpB B2 B3 A C := ⟨k.1.trans h.1, k.2.trans h.2⟩
theorem KpB.put {B2 B3 : Nat} {w : World} (h2 : B2 < w.heap.size) (h3 : B3 < w.heap.size) (W : World) (l : Nat) (o o' : Obj) (hl : w.heap.size ≤ l) (_ : W.heap[l]? = some o) (_ : o.isCells = false) (_ : o.isWalk = false) : KpB B2 B3 W (W.putObj l o') :=
  ⟨World.cell?_of_block (World.putObj_heap_other (by show B2 ≠ l; omega)), World.cell?_of_block (World.putObj_heap_other (by show B3 ≠ l; omega))⟩
def pieceV (g c : Nat) (x : Nat) : Value := .slice (some ⟨g, 256 * (x % c), none⟩) 256 256
set_option maxRecDepth 100000 in
set_option maxHeartbeats 4000000 in
theorem chunk1_in (F : Fence) (n : Nat) (h7 : F.fn 41) (hro : F.round = none) (hn : 1 ≤ n) (l B2 B3 g c cap : Nat) (hc0 : 0 < c) (hc4 : c ≤ 4096) (hcap : 256 * c ≤ cap) (J Jx : List Nat → World → Prop) (hJd : ∀ s W, J s W → J s W.drew)
    (hY : ∀ pre x W, J pre W → pre.length < c → YieldAt F (n - 1) Tryd.prog l #[pieceV g c x] W fun e W' =>
      (e = .returned (.bool true) ∧ J (pre ++ [x]) W' ∧ KpB B2 B3 W W') ∨ (e = .returned (.bool false) ∧ Jx (pre ++ [x]) W'))
    (W : World) (hB2 : W.cell? ⟨B2, 0, none⟩ = some (.slice (some ⟨g, 0, none⟩) (256 * c) cap)) (hB3 : W.cell? ⟨B3, 0, none⟩ = some (.int .i64 256)) (h0 : J [] W) :
    CallsIn F n Tryd.prog 41 #[.func (.yield l) #[] #[], .pointer (some ⟨B2, 0, none⟩), .pointer (some ⟨B3, 0, none⟩)] W fun e W' => (∃ v, e = .returned v) ∧
      ((∃ ys, ys = List.range c ∧ J ys W') ∨ (∃ pre, (∃ k, k ≤ c ∧ pre = List.range k) ∧ Jx pre W')) := by
  refine callsIn_of_wp Tryd.func41 rfl h7 ?_ hro
  simp only [Tryd.ntmps41, List.size_toArray, List.length_cons, List.length_nil, Nat.reduceAdd, Nat.reduceSub, Array.replicate_succ, Array.replicate_zero, List.push_toArray, List.append_toArray, List.nil_append, List.cons_append]
  gi_wp2
  gi_loopw [4] (fun i wr => ∃ k : Nat, k ≤ c ∧ i = .int .i64 ((256 * k : Nat) : Int) ∧ J (List.range k) wr ∧ KpB B2 B3 W wr)
    (fun i _ => 256 * c - (RowKit.intOf i).toNat)
  case atStart => exact ⟨0, Nat.zero_le _, rfl, h0, rfl, rfl⟩
  case round =>
    obtain ⟨k, hk, rfl, hJs, hnx⟩ := hrel
    have b2 := hnx.1.trans hB2
    have b3 := hnx.2.trans hB3
    by_cases hlt : k < c
    · obtain ⟨fn, tmps, assign, body, hy, hR⟩ := hY _ k wr.drew (hJd _ _ hJs) (by rw [List.length_range]; exact hlt)
      unfold pieceV at hy
      rw [Nat.mod_eq_of_lt hlt] at hy
      obtain ⟨r, hr⟩ : ∃ r, 256 * c - 256 * k = r := ⟨_, rfl⟩
      have hr2 : (256 : Int) ≤ r := by omega
      have hr3 : ¬ (r : Int) < 256 := by omega
      have hmn : min (256 : Int) r = 256 := by omega
      have htn : (256 * (k : Int) + 256).toNat - 256 * k = 256 := by omega
      have htn2 : (256 * (k : Int) + 256).toNat = 256 * k + 256 := by omega
      have hs1 : ∀ wz, (Instr.sliceAt 39 (.slice (some ⟨g, 0, none⟩) (256 * c) cap) (some (.int .i64 ((256 * k : Nat) : Int))) none none).run Tryd.prog wz = .ok (.slice (some ⟨g, 256 * k, none⟩) r (cap - 256 * k)) wz := fun wz => by
        have := run_sl_from (P := Tryd.prog) wz Tryd.underlying39 sizeU8 g 0 (256 * c) cap .i64 ((256 * k : Nat) : Int) (by omega) (by omega) (by omega)
        rw [this, Int.toNat_natCast, Nat.zero_add, hr]
      have hs2 : ∀ wz, (Instr.sliceAt 39 (.slice (some ⟨g, 0, none⟩) (256 * c) cap) (some (.int .i64 ((256 * k : Nat) : Int))) (some (.int .i64 (((256 * k : Nat) : Int) + 256))) (some (.int .i64 (((256 * k : Nat) : Int) + 256)))).run Tryd.prog wz = .ok (.slice (some ⟨g, 256 * k, none⟩) 256 256) wz := fun wz => by
        have := run_sl3 (P := Tryd.prog) wz Tryd.underlying39 sizeU8 g 0 (256 * c) cap .i64 .i64 .i64 ((256 * k : Nat) : Int) (((256 * k : Nat) : Int) + 256) (by omega) (by omega) (by omega)
        rw [this, Int.toNat_natCast, Nat.zero_add, show (((256 * k : Nat) : Int) + 256).toNat = 256 * k + 256 by omega, Nat.add_sub_cancel_left]
      gi_wp2
      gi_region
      all_goals
        gi_wp2
        refine hR.mono ?_
        rintro e W3 (⟨rfl, hJ3, hk3⟩ | ⟨rfl, hJx3⟩)
        · have hk4 : KpB B2 B3 W W3 := KpB.trans (B := wr.drew) hnx hk3
          have b2' := hk4.1.trans hB2
          have b3' := hk4.2.trans hB3
          gi_wp2
          go_roundw
          case rel => exact ⟨k + 1, by omega, by go_num, by rw [List.range_succ]; exact hJ3, hk4⟩
          case measure => simp [RowKit.intOf]; omega
        · gi_wp2
          refine bodyPost_ret (results_none rfl _ _ _) rfl ?_
          exact ⟨⟨_, rfl⟩, .inr ⟨_, ⟨k + 1, by omega, (List.range_succ).symm⟩, hJx3⟩⟩
    · obtain rfl : k = c := by omega
      gi_wp2
      go_end0
      exact ⟨⟨_, rfl⟩, .inl ⟨_, rfl, hJs⟩⟩
theorem chunk_in (F : Fence) (n : Nat) (h5 : F.fn 27) (hro : F.round = none) (a : Option Addr) (len cap : Nat) (w : World) :
    CallsIn F n Tryd.prog 27 #[.slice a len cap, .int .i64 256] w fun e w' => e = .returned (.func (.func 41) #[] #[.pointer (some ⟨w.heap.size, 0, none⟩), .pointer (some ⟨w.heap.size + 1, 0, none⟩)]) ∧ w' = (w.alloc (.cells #[.slice a len cap] 39)).alloc (.cells #[.int .i64 256] 3) := by
  refine callsIn_of_wp Tryd.func27 rfl h5 ?_ hro
  simp only [Tryd.ntmps27, List.size_toArray, List.length_cons, List.length_nil, Nat.reduceAdd, Nat.reduceSub, Array.replicate_succ, Array.replicate_zero, List.push_toArray, List.append_toArray, List.nil_append, List.cons_append]
  gi_wp2
  go_ret
  exact ⟨rfl, rfl⟩
theorem chunk_stops (F : Fence) (n : Nat) (h7 : F.fn 41) (hro : F.round = none) (hn : 1 ≤ n) (B2 B3 g c cap : Nat) (hc0 : 0 < c) (hc4 : c ≤ 4096) (hcap : 256 * c ≤ cap) (w : World) (h2 : B2 < w.heap.size) (h3 : B3 < w.heap.size)
    (hB2 : w.cell? ⟨B2, 0, none⟩ = some (.slice (some ⟨g, 0, none⟩) (256 * c) cap)) (hB3 : w.cell? ⟨B3, 0, none⟩ = some (.int .i64 256)) :
    SeqStopsK F n Tryd.prog 41 #[.pointer (some ⟨B2, 0, none⟩), .pointer (some ⟨B3, 0, none⟩)] (fun x : Nat => #[pieceV g c x]) (KpB B2 B3) (fun ys => ys = List.range c) (fun pre => ∃ k, k ≤ c ∧ pre = List.range k) c w := fun l J Jx W hW hJ _ hY h0 => by
  refine (chunk1_in F n h7 hro hn l B2 B3 g c cap hc0 hc4 hcap J Jx (fun s W1 hj => hJ s W1 _ none hj ⟨rfl, rfl, rfl, Nat.le_refl _, fun _ _ _ => rfl⟩ (fun r e => by cases e)) hY W ((hW.cell (p := ⟨B2, 0, none⟩) h2).trans hB2) ((hW.cell (p := ⟨B3, 0, none⟩) h3).trans hB3) h0).mono ?_
  rintro e W' ⟨he, h | h⟩
  · exact ⟨he, .inl h⟩
  · exact ⟨he, .inr h⟩
end Go.Proofs.YtpnpjffhkaejgaaDoor
