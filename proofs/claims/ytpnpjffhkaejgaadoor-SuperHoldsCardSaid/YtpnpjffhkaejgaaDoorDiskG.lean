/-
  PROVED HERE: the power going, and coming back. Conditions: those that each theorem names.
-/
import Derived.Test.YtpnpjffhkaejgaaDoorDiskF
namespace Go.Proofs.YtpnpjffhkaejgaaDoor
open Go.RowKit

/-- A slice of ints that a caller hands over. -/
def IsIntsAt (w : World) (a : Option Addr) (l : List Int) : Prop := ∀ i (_ : i < l.length), ∃ b o, a = some ⟨b, o, none⟩ ∧ w.cell? ⟨b, o + i, none⟩ = some (.int .i64 (l.getD i 0))
theorem IsIntsAt.upd {w w' : World} {a : Option Addr} {l : List Int} {S : List Nat} (h : IsIntsAt w a l) (u : Upd S w w') (hs : ∀ b o, a = some ⟨b, o, none⟩ → b ∉ S) : IsIntsAt w' a l := fun i hi => by
  obtain ⟨b, o, ha, hc⟩ := h i hi
  exact ⟨b, o, ha, by rw [← hc]; exact World.cell?_of_block (u.block b (World.block_lt_of_cell? _ _ hc) (hs b o ha))⟩
/-- Which of 0 .. m a pick names. -/
def pickN (p : Int) (m : Nat) : Nat := (p % ((m : Int) + 1)).toNat
theorem pickN_le (p : Int) (m : Nat) : pickN p m ≤ m := by
  unfold pickN
  have := Int.emod_lt_of_pos p (show (0 : Int) < (m : Int) + 1 by omega)
  have := Int.emod_nonneg p (show (m : Int) + 1 ≠ 0 by omega)
  omega
theorem pick_steps (p : Int) (m : Nat) : -((m : Int) + 1) < p.tmod ((m : Int) + 1) ∧ p.tmod ((m : Int) + 1) < (m : Int) + 1 ∧ (p.tmod ((m : Int) + 1) + ((m : Int) + 1)) % ((m : Int) + 1) = (pickN p m : Nat) := by
  have h0 : (0 : Int) < (m : Int) + 1 := by omega
  have h1 := Int.tmod_lt_of_pos p h0
  have h2 : -((m : Int) + 1) < p.tmod ((m : Int) + 1) := by
    have := Int.tmod_lt_of_pos (-p) h0
    rw [Int.neg_tmod] at this
    omega
  refine ⟨h2, h1, ?_⟩
  unfold pickN
  rw [Int.toNat_of_nonneg (Int.emod_nonneg _ (by omega)), Int.add_emod_right]
  rw [Int.tmod_eq_emod]
  split
  · rw [show ((0 : Nat) : Int) = 0 from rfl, Int.sub_zero]; exact Int.emod_emod_of_dvd _ (Int.dvd_refl _)
  · rw [Int.natAbs_of_nonneg (by omega), Int.sub_emod_right]
    exact Int.emod_emod_of_dvd _ (Int.dvd_refl _)
/-- What is durable when the first k of the dirty sectors are settled. -/
def Dk.durs (S : Dk) (picks : List Int) : Nat → Nat → List Nat
  | 0 => fun i => (S.sec i).dur
  | k + 1 => if pickN (picks.getD k 0) (S.sec (S.dirty.getD k 0)).ver.length = 0 then S.durs picks k else setf (S.durs picks k) (S.dirty.getD k 0) ((S.sec (S.dirty.getD k 0)).ver.getD (pickN (picks.getD k 0) (S.sec (S.dirty.getD k 0)).ver.length - 1) [])
def Dk.crash (S : Dk) (picks : List Int) : Dk := ⟨S.n, fun i => ⟨S.durs picks (min S.dirty.length picks.length) i, []⟩, fun _ => 0, none⟩
theorem getD_in {α : Type} {l : List α} {i : Nat} {x : α} (h : i < l.length) : l.getD i x ∈ l := by
  rw [List.getD_eq_getElem?_getD, List.getElem?_eq_getElem h]
  exact List.getElem_mem h
theorem durs_ok {S : Dk} (h : S.Ok) (picks : List Int) (k : Nat) (hk : k ≤ S.dirty.length) (i : Nat) (hi : i < S.n) : (S.durs picks k i).length = 256 ∧ BytesOk (S.durs picks k i) := by
  induction k with
  | zero => exact (h.sec i hi).1
  | succ k ih =>
    unfold Dk.durs
    split
    · exact ih (by omega)
    · rename_i h0
      by_cases e : i = S.dirty.getD k 0
      · subst e
        rw [setf_same]
        have := pickN_le (picks.getD k 0) (S.sec (S.dirty.getD k 0)).ver.length
        have hq : pickN (picks.getD k 0) (S.sec (S.dirty.getD k 0)).ver.length - 1 < (S.sec (S.dirty.getD k 0)).ver.length := by omega
        exact (h.sec _ hi).2 _ (getD_in hq)
      · rw [setf_other _ _ e]; exact ih (by omega)
theorem Dk.Ok.crash {S : Dk} (h : S.Ok) (picks : List Int) : (S.crash picks).Ok := ⟨h.n1, h.n2, fun i hi => ⟨durs_ok h picks _ (Nat.min_le_left _ _) i hi, fun v hv => by cases hv⟩, fun k => Nat.zero_le _, fun k hk => by cases hk⟩
theorem row_nats {w : World} {B : Nat} {v : Value} {l : List Nat} (h : w.ownsRow B 3 1 v l.length (nats l)) : ∃ a cap, v = .slice a l.length cap ∧ ∀ k, k < l.length → ∃ g, a = some ⟨g, 0, none⟩ ∧ B ≤ g ∧ w.cell? ⟨g, k, none⟩ = some (.int .i64 (l.getD k 0 : Nat)) := by
  obtain ⟨hl, ⟨rfl, h0⟩ | ⟨g, cap, cur, rfl, hg, hb, hc, hm, hs, ht⟩⟩ := h
  · exact ⟨none, 0, by rw [h0], fun k hk => by omega⟩
  · refine ⟨_, cap, rfl, fun k hk => ⟨g, rfl, hg, ?_⟩⟩
    rw [(cells_of hb).1]
    have e : (cur.toList.take (l.length * 1))[k]? = (nats l)[k]? := by rw [ht]
    rw [List.getElem?_take_of_lt (by omega)] at e
    rw [← Array.getElem?_toList, e]
    simp [nats, hk]
end Go.Proofs.YtpnpjffhkaejgaaDoor
