/-
  PROVED HERE: arguments that are rows of strings are opened. Conditions: they can be read as data.
-/
import Derived.Test.YthjlajplckfldaaGreatDoorOpenAgg
import Derived.Test.YthjlajplckfldaaGreatDoorKeyL
import Derived.SliceStrings
namespace Go.Proofs.YthjlajplckfldaaGreatDoor
open Go.ChangeShapes Go.WideShapes Go.Deep Go.RowKit
section
variable {H : Type} {enc : TypeId × Value → H} {w : World} {base : Nat} {spare : Nat → Bool} {held : Bool}
set_option maxRecDepth 100000 in
theorem open_txts_arg {r : Reach} {b0 : Nat} {v : Value} {d : DataW H} {p : List MemPlace} (hv : Value.okWide Tryz.prog w r b0 39 v) (h : DataW.Trod enc Tryz.prog w base spare held 39 v d p) :
    ∃ l, IsTxts w v l := by
  obtain ⟨a, len, cap, rfl⟩ := okWide_slice Tryz.underlying39 hv
  obtain ⟨fuel, hf⟩ := h
  simp only [Value.cells] at hf
  rcases open_strings Tryz.underlying39 Tryz.underlying9 (by kernel_rfl) hf with ⟨hcs, -⟩ | ⟨a, len, cap, ss, hcs, -, hl, hm, hlen, -, hc, -⟩
  · simp only [List.cons.injEq, and_true] at hcs
    rw [hcs]
    exact ⟨[], none, 0, rfl, Nat.le_refl _, by unfold maxLen; omega, fun i h => absurd h (by simp)⟩
  · simp only [List.cons.injEq, and_true] at hcs
    rw [hcs]
    have hls : len ≤ ss.length := by rw [hlen]; split <;> omega
    refine ⟨(ss.take len).map fun s => s.data.toList, some a, cap, by simp [Nat.min_eq_left hls], by simp; omega, hm, fun i h => ?_⟩
    have hi : i < len := by simp at h; omega
    have h0 := hc i (by omega)
    have his : i < ss.length := by omega
    have hg : ss.getD i ByteArray.empty = ss[i]'his := by simp [List.getD, his]
    rw [hg] at h0
    generalize hx : ss[i]'his = x at h0
    have hlt := World.block_lt_of_cell? _ _ h0
    have h1 := hc 0 (by omega)
    have ha : a = ⟨a.block, a.off, none⟩ := by
      have e : a.add 0 = a := by simp [Addr.add]
      rw [e] at h1
      exact addr_plain h1
    rw [ha, add_off] at h0 hlt
    refine ⟨a.block, a.off, by rw [← ha], hlt, ?_⟩
    rw [h0, List.getElem_map, List.getElem_take, hx]
end
end Go.Proofs.YthjlajplckfldaaGreatDoor
