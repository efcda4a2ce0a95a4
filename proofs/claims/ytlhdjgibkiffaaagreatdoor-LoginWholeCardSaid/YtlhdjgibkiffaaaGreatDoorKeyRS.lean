/-
  PROVED HERE: the document's comparison of two rows of bytes. Conditions: those that each theorem names.
-/
import Derived.Test.YtlhdjgibkiffaaaGreatDoorKeyB
import Derived.Test.YtlhdjgibkiffaaaGreatDoorQuiet
namespace Go.Proofs.YtlhdjgibkiffaaaGreatDoor
open Go.RowKit Go.Shelf
theorem take_eqT {a b : Txt} (hn : a.length = b.length) {k : Nat} (hk : k < a.length) (h : a.take k = b.take k) : (a[k] = b[k]'(hn ▸ hk) → a.take (k + 1) = b.take (k + 1)) ∧ (a[k] ≠ b[k]'(hn ▸ hk) → decide (a = b) = false) := by
  refine ⟨fun e => ?_, fun e => decide_eq_false fun hab => e (by subst hab; rfl)⟩
  rw [List.take_succ_eq_append_getElem hk, List.take_succ_eq_append_getElem (hn ▸ hk), h, e]
set_option maxRecDepth 100000 in
set_option maxHeartbeats 4000000 in
theorem bsame_any {w : World} {v u : Value} {a b : Txt} (ha : IsTxtV w v a) (hb : IsTxtV w u b) : Calls Tryz.prog 14 #[v, u] w fun e w' => e = .returned (.bool (decide (a = b))) ∧ Below w.heap.size w w' := by
  obtain ⟨p, ca, rfl, ta, la, -, ma⟩ := ha
  obtain ⟨q, cb, rfl, tb, lb, -, mb⟩ := hb
  have HA := Lib.hid ta
  have HB := Lib.hid tb
  have HL := Lib.hid (show a.length ≤ 9223372036854775807 by unfold maxLen at ma; omega)
  have HLb := Lib.hid (show b.length ≤ 9223372036854775807 by unfold maxLen at mb; omega)
  clear ta tb la ma lb mb
  by_cases hn : a.length = b.length
  · have HN := Lib.hid hn
    generalize hnb : b.length = nb at *
    subst hn
    have HNB := Lib.hid hnb
    clear hnb
    go_enter Tryz.func14, Tryz.ntmps14
    go_wp2_with fail
    go_loopw [5] (fun i wr => ∃ k : Nat, k ≤ a.length ∧ i = .int .i64 (k : Nat) ∧ a.take k = b.take k ∧ Below w.heap.size w wr) (fun i _ => (a.length - intOf i).toNat)
    case atStart => exact ⟨0, Nat.zero_le _, rfl, rfl, Below.refl _ _⟩
    case round =>
      obtain ⟨k, hk, rfl, hT, hW⟩ := hrel
      have HT := Lib.hid hT
      have HW := Lib.hid hW
      have hl := HL.out
      clear hT hW
      by_cases hkl : k < a.length
      · have hkb : k < b.length := by have := HNB.out; omega
        obtain ⟨g, o, rfl, hg, q1⟩ := HA.out.below HW.out k hkl
        obtain ⟨g', o', rfl, hg', q2⟩ := HB.out.below HW.out k hkb
        have hte := take_eqT (HNB.out.symm) hkl HT.out
        have q1' := fun W (hW : Below wr.heap.size wr W) => (hW.cell (p := ⟨g, o + k, none⟩) hg).trans q1
        have q2' := fun W (hW : Below wr.heap.size wr W) => (hW.cell (p := ⟨g', o' + k, none⟩) hg').trans q2
        have hcx : (a[k]).toNat = (b[k]).toNat ↔ a[k] = b[k] := UInt8.toNat_inj
        have HTE := Lib.hid (show ((a[k]).toNat = (b[k]).toNat → a.take (k + 1) = b.take (k + 1)) ∧ ((a[k]).toNat ≠ (b[k]).toNat → decide (a = b) = false) from ⟨fun e => hte.1 (hcx.1 e), fun e => hte.2 fun e2 => e (hcx.2 e2)⟩)
        clear hte hcx
        generalize (a[k]).toNat = xa at *
        generalize (b[k]).toNat = xb at *
        by_cases hx : xa = xb
        · have HE := Lib.hid (HTE.out.1 hx)
          have hx2 : ((xa : Int) != (xb : Int)) = false := bne_eq_false_iff_eq.2 (by omega)
          clear hx
          go_wp2_with fail
          go_quiet (fail)
          go_wp2
          go_roundw
          case rel => exact ⟨k + 1, hkl, by simp, HE.out, below_drewN HW.out nq⟩
          case measure => simp [intOf]; omega
        · have HE := Lib.hid (HTE.out.2 hx)
          have hx2 : ((xa : Int) != (xb : Int)) = true := bne_iff_ne.2 (by omega)
          clear hx
          go_wp2_with fail
          go_quiet (fail)
          go_wp2
          go_ret
          exact ⟨by rw [HE.out]; rfl, below_drewN HW.out nq⟩
      · obtain rfl : k = a.length := by omega
        have HE := Lib.hid (show decide (a = b) = true by
          have h := HT.out
          rw [List.take_length, ← HNB.out, List.take_length] at h
          exact decide_eq_true h)
        go_wp2_with fail
        go_ret
        exact ⟨by rw [HE.out]; rfl, HW.out⟩
  · have hn' : ((a.length : Int) != (b.length : Int)) = true := bne_iff_ne.2 (by omega)
    have HE := Lib.hid (show decide (a = b) = false from decide_eq_false fun e => hn (by rw [e]))
    have hl1 := HL.out
    have hl2 := HLb.out
    go_enter Tryz.func14, Tryz.ntmps14
    go_wp2_with fail
    go_ret
    exact ⟨by rw [HE.out]; rfl, Below.refl _ _⟩
end Go.Proofs.YtlhdjgibkiffaaaGreatDoor
