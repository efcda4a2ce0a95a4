/-
  PROVED HERE: two lists that are the same are found to be the same (Same, ints). Conditions: those that each theorem names.
-/
import Derived.Test.YtpnpjffhkaejgaaGreatDoorRefDH
namespace Go.Proofs.YtpnpjffhkaejgaaGreatDoor
open Go.RowKit

set_option maxRecDepth 100000 in
set_option maxHeartbeats 1600000 in
theorem same_yes {w : World} {a a' : Option Addr} {l : List Nat} {n cap cap' : Nat} (hb : IsBytes w a l) (hb' : IsBytes w a' l) (hn : l.length = n) (hl : n ≤ 9223372036854775807) :
    Calls Tryz.prog 52 #[.slice a n cap, .slice a' n cap'] w fun e w' => e = .returned (.bool true) ∧ Upd [] w w' := by
  have HB := Lib.hid hb
  have HB' := Lib.hid hb'
  have HN := Lib.hid hn
  clear hb hb' hn
  go_enter Tryz.func52, Tryz.ntmps52
  go_wp2
  go_loopw [5] (fun i wr => ∃ j : Nat, j ≤ n ∧ i = .int .i64 j ∧ Upd [] w wr) (fun i _ => n - (intOf i).toNat)
  case atStart => exact ⟨0, by omega, rfl, Upd.refl _ _⟩
  case round =>
    obtain ⟨j, hj, rfl, hU⟩ := hrel
    have HU := Lib.hid hU
    clear hU
    by_cases hlt : j < n
    · obtain ⟨b, o, rfl, hc⟩ := (HB.out.upd HU.out (by simp)).2 j (by have := HN.out; omega)
      obtain ⟨b', o', rfl, hc'⟩ := (HB'.out.upd HU.out (by simp)).2 j (by have := HN.out; omega)
      generalize l[j]'(by have := HN.out; omega) = x at *
      go_wp2
      go_region
      go_wp2
      go_roundw
      case rel => exact ⟨j + 1, by omega, by go_num, HU.out.drew⟩
      case measure => simp [intOf]; omega
    · obtain rfl : j = n := by omega
      go_wp2
      go_ret
      exact ⟨rfl, HU.out⟩
theorem IsIntsAt.up {w w' : World} {a : Option Addr} {l : List Int} {S : List Nat} (h : IsIntsAt w a l) (u : Upd S w w') (hs : ∀ b o, a = some ⟨b, o, none⟩ → b ∉ S) : IsIntsAt w' a l := fun i hi => by
  obtain ⟨b, o, e, hc⟩ := h i hi
  exact ⟨b, o, e, by rw [← hc]; exact World.cell?_of_block (u.block b (World.block_lt_of_cell? _ _ hc) (hs b o e))⟩
theorem row_ints {w : World} {B : Nat} {v : Value} {l : List Nat} (h : w.ownsRow B 3 1 v l.length (nats l)) : ∃ a cap, v = .slice a l.length cap ∧ IsIntsAt w a (l.map Int.ofNat) ∧ (∀ b o, a = some ⟨b, o, none⟩ → B ≤ b) := by
  obtain ⟨hl, ⟨rfl, h0⟩ | ⟨g, cap, cur, rfl, hg, hb, hc, hm, hs, ht⟩⟩ := h
  · exact ⟨none, 0, by rw [h0], fun i hi => by rw [List.length_map] at hi; omega, by rintro b o ⟨⟩⟩
  · refine ⟨_, cap, rfl, fun i hi => ⟨g, 0, rfl, ?_⟩, by rintro b o ⟨⟩; exact hg⟩
    rw [List.length_map] at hi
    rw [(cells_of hb).1, Nat.zero_add]
    have e : (cur.toList.take (l.length * 1))[i]? = (nats l)[i]? := by rw [ht]
    rw [List.getElem?_take_of_lt (by omega)] at e
    rw [show (nats l)[i]? = some (.int .i64 ((l.map Int.ofNat).getD i 0)) by simp [nats, List.getD_eq_getElem?_getD, hi]] at e
    simpa using e
end Go.Proofs.YtpnpjffhkaejgaaGreatDoor
