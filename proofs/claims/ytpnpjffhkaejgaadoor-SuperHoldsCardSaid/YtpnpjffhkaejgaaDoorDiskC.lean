/-
  PROVED HERE: a new disk; what is read of a disk. Conditions: those that each theorem names.
-/
import Derived.Test.YtpnpjffhkaejgaaDoorDiskB
import Derived.Laws.MakeOwn
import Derived.Carry
namespace Go.Proofs.YtpnpjffhkaejgaaDoor
open Go.RowKit

def zeros256 : List Nat := List.replicate 256 0
def Dk.new (n : Nat) : Dk := ⟨n, fun _ => ⟨zeros256, []⟩, fun _ => 0, none⟩
theorem zeros256_len : zeros256.length = 256 := List.length_replicate
theorem new_no {w : World} (s : Int) (hs : s < 1 ∨ 4096 < s) : Calls Tryd.prog 10 #[.int .i64 s] w fun e w' => e = .returned (.tuple #[.pointer none, .int .i64 1]) ∧ w = w' := by
  have h2 : s < 1 ∨ (1 ≤ s ∧ 4096 < s) := by omega
  clear hs
  rcases h2 with h | ⟨h, h1⟩
  all_goals
    go_enter Tryd.func10, Tryd.ntmps10
    go_wp2
    go_ret2
    exact ⟨rfl, rfl⟩
theorem newCells_get (N j : Nat) (hj : j < N) : (madeCells #[Value.int .u8 0] N)[j]? = some (.int .u8 0) := by
  rw [← Array.getElem?_toList, toList_madeCells_one, List.getElem?_replicate, if_pos hj]
def NewDisk (B n : Nat) (e : Ending) (w' : World) : Prop := ∃ d L F, e = .returned (.tuple #[.pointer (some ⟨d, 0, none⟩), .int .i64 0]) ∧ IsDisk w' d L F (Dk.new n) ∧ ∀ x, F x → B ≤ x
def newCells (a b n : Nat) : Array Value := #[.slice (some ⟨a, 0, none⟩) (256 * n) (256 * n), .map (some b), .int .i64 0, .int .i64 0, .int .i64 0, .int .i64 0, .bool false, .int .i64 0]
theorem isNew (w : World) (n : Nat) (Z : Array Value) (hs : Z.size = 256 * n) (hg : ∀ j, j < 256 * n → Z[j]? = some (.int .u8 0)) (h1 : 1 ≤ n) (h2 : n ≤ 4096) :
    IsDisk (((w.alloc (.cells Z 5)).alloc (.map #[] 0)).alloc (.cells (newCells w.heap.size (w.heap.size + 1) n) 66)) (w.heap.size + 1 + 1) ⟨w.heap.size, w.heap.size + 1, fun _ => 0, fun _ => 0, fun _ _ => (0, 0)⟩
      (fun x => x = w.heap.size ∨ x = w.heap.size + 1 ∨ x = w.heap.size + 1 + 1) (Dk.new n) := by
  have k0 := heap_alloc_new w (.cells Z 5)
  have k1 := IMap.made (w.alloc (.cells Z 5)) Tryd.prog 3
  have k2 := heap_alloc_new ((w.alloc (.cells Z 5)).alloc (.map #[] 0)) (.cells (newCells w.heap.size (w.heap.size + 1) n) 66)
  simp only [World.size_alloc] at k1 k2
  have u2 := (Upd.refl [] ((w.alloc (.cells Z 5)).alloc (.map #[] 0))).alloc (.cells (newCells w.heap.size (w.heap.size + 1) n) 66)
  refine ⟨⟨h1, h2, fun i _ => ⟨⟨zeros256_len, BytesOk.zeros _⟩, fun v hv => by cases hv⟩, fun k => by show 0 ≤ _; omega, fun k hk => by cases hk⟩, ⟨false, 0, k2, by omega, rfl⟩,
    ⟨Z, u2.get (((Upd.refl [] _).alloc _).get k0 (by simp)) (by simp), by rw [hs]; exact Nat.le_refl _, fun i hi j hj => ?_⟩, (k1.upd u2 (by simp)).congr fun x => ?_, fun i _ hv => absurd rfl hv, fun i j _ _ hv => absurd rfl hv, fun i j _ _ hv => absurd rfl hv, .inr (.inr rfl), .inl rfl, .inr (.inl rfl), fun i _ hv => absurd rfl hv, fun i _ j hj => absurd hj (Nat.not_lt_zero _), fun x hx => ?_⟩
  · simp only [Dk.new] at hi
    rw [hg _ (by omega)]
    show _ = some (Value.int .u8 ((zeros256.getD j 0 : Nat) : Int))
    have : zeros256.getD j 0 = 0 := by unfold zeros256; rw [List.getD_eq_getElem?_getD, List.getElem?_replicate]; split <;> rfl
    rw [this]; rfl
  · unfold mapOf
    rw [if_neg (fun h => h.2.2 rfl)]
  · simp only [World.size_alloc]; omega
set_option maxRecDepth 100000 in
set_option maxHeartbeats 1600000 in
theorem new_yes {w : World} (n : Nat) (h1 : 1 ≤ n) (h2 : n ≤ 4096) : Calls Tryd.prog 10 #[.int .i64 (n : Nat)] w fun e w' => NewDisk w.heap.size n e w' ∧ Upd [] w w' := by
  obtain ⟨i0, hi, hz0, hz1, hz2⟩ := info_parts infoByte
  have hmk := run_make (P := Tryd.prog) w 39 5 i0 _ Tryd.underlying39 hi hz0 .i64 .i64 ((n : Int) * 256) ((n : Int) * 256) (by omega) (by omega) (by rw [hz2]; omega) (by omega)
  rw [show ((n : Int) * 256).toNat = 256 * n by omega, hz1, Nat.mul_one, show (Value.int IntKind.u8 0).cells = #[Value.int .u8 0] from rfl] at hmk
  have hmm := @run_makeMap Tryd.prog
  have hbd : ∀ v m w, (Instr.build 66 #[(0, v), (1, m)]).run Tryd.prog w = (Instr.build 66 #[(0, v), (1, m)]).run Tryd.prog w := fun _ _ _ => rfl
  clear hbd
  obtain ⟨Z, hZ⟩ : ∃ Z, madeCells #[Value.int .u8 0] (256 * n) = Z := ⟨_, rfl⟩
  have hzs : Z.size = 256 * n := by rw [← hZ]; exact size_madeCells _ _
  have hzg : ∀ j, j < 256 * n → Z[j]? = some (.int .u8 0) := fun j hj => by rw [← hZ]; exact newCells_get _ j hj
  rw [hZ] at hmk
  have HZ := Lib.hid hzs
  have HG := Lib.hid hzg
  clear hZ hzs hzg hi hz0 hz1 hz2
  go_enter Tryd.func10, Tryd.ntmps10
  go_wp2
  go_ret2
  exact ⟨⟨_, _, _, rfl, isNew w n Z HZ.out HG.out h1 h2, fun x hx => by omega⟩, (((Upd.refl [] w).alloc _).alloc _).alloc _⟩
end Go.Proofs.YtpnpjffhkaejgaaDoor
