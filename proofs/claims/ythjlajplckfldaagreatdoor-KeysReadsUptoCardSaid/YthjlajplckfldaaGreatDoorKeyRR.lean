/-
  PROVED HERE: the document's pair is the plain function. Conditions: those that each theorem names.
-/
import Derived.Test.YthjlajplckfldaaGreatDoorKeyRC
import Derived.BigRegion
namespace Go.Proofs.YthjlajplckfldaaGreatDoor
open Go.RowKit Go.Shelf
theorem cutEq_at {s : Txt} {k : Nat} (hk : k < s.length) (hno : (61 : UInt8) ∉ s.take k) (h : s[k] = 61) : cutEq s = some (s.take k, s.drop (k + 1)) := by
  have e : s = s.take k ++ 61 :: s.drop (k + 1) := by
    rw [← h, ← List.drop_eq_getElem_cons hk, List.take_append_drop]
  exact (congrArg cutEq e).trans (cutEq_of hno)
theorem no61_step {s : Txt} {k : Nat} (hk : k < s.length) (hno : (61 : UInt8) ∉ s.take k) (h : s[k] ≠ 61) : (61 : UInt8) ∉ s.take (k + 1) := by
  rw [List.take_succ_eq_append_getElem hk, List.mem_append, List.mem_singleton]
  rintro (h1 | h1)
  · exact hno h1
  · exact h h1.symm
theorem mid_zero (d : Txt) (i : Nat) : mid d 0 i = d.take i := by unfold mid; simp
theorem mid_end (d : Txt) (i : Nat) : mid d i d.length = d.drop i := by
  unfold mid
  rw [List.take_of_length_le (by rw [List.length_drop]; omega)]
section
variable {P : Program}
theorem results_cells_tmp {fn : Func} {p u : Tmp} {t1 : TypeId} (h : fn.results = #[.cell p t1, .tmp u]) (tmps : Array Value) {w : World} {a1 : Addr} {v1 v2 : Value} (hp : tmps.getD p undef = .pointer (some a1)) (hu : tmps.getD u undef = v2)
    (hl : (loadVar t1 a1).run P w = .ok v1 w) : (results fn tmps).run P w = .ok (.tuple #[v1, v2]) w := by
  rw [Array.getD_eq_getD_getElem?] at hp hu
  simp only [results, h]
  simp [Sem.run_bind, Result.andThen, hp, hu, asAddr, hl]
end
theorem run_loadPair {W : World} {g : Nat} {a b : Value} (h : W.heap[g]? = some (.cells #[a, b] 59 (0, 0))) : (loadVar 59 ⟨g, 0, none⟩).run Tryz.prog W = .ok (.agg #[a, b]) W :=
  run_loadVar_cells W g 0 2 _ [a, b] _ (fun j u hu => by rw [Nat.zero_add, (cells_of h).1 j]; simpa using hu) Tryz.underlying59 rfl (by kernel_rfl) rfl
theorem alloc_last (w : World) (o : Obj) : (w.alloc o).heap[w.heap.size]? = some o := by
  show (w.heap.push o)[w.heap.size]? = some o
  simp
/-- A pair of strings is laid into its cell. -/
theorem pair_laid {W : World} {b : Nat} {u v x y : Value} (h : W.heap[b]? = some (.cells #[u, v] 59 (0, 0))) : ((W.setCell ⟨b, 0, none⟩ x).setCell ⟨b, 1, none⟩ y).heap[b]? = some (.cells #[x, y] 59 (0, 0)) := by
  have h1 := heap_setCell_same W b 0 _ _ x h
  have h2 := heap_setCell_same (W.setCell ⟨b, 0, none⟩ x) b 1 _ _ y h1
  exact h2
set_option maxRecDepth 100000 in
set_option maxHeartbeats 4000000 in
theorem rpair_any {w : World} (s : Txt) (hs : s.length ≤ 281474976710656) : Calls Tryz.prog 28 #[.string (txt s)] w fun e w' => e = .returned (.tuple #[.agg #[.string (txt ((cutEq s).getD ([], [])).1), .string (txt ((cutEq s).getD ([], [])).2)], .bool (cutEq s).isSome]) ∧ Below w.heap.size w w' := by
  have HS := Lib.hid hs
  clear hs
  go_enter Tryz.func28, Tryz.ntmps28
  go_wp2_with fail
  go_loopw [4] (fun i wr => ∃ k : Nat, k ≤ s.length ∧ i = .int .i64 (k : Nat) ∧ (61 : UInt8) ∉ s.take k ∧ wr.heap[w.heap.size]? = some (.cells #[.string (txt []), .string (txt [])] 59 (0, 0)) ∧ Below w.heap.size w wr) (fun i _ => (s.length - intOf i).toNat)
  case atStart =>
    exact ⟨0, Nat.zero_le _, rfl, by simp, alloc_last _ _, (Below.refl _ _).alloc (Nat.le_refl _) _⟩
  case round =>
    obtain ⟨k, hk, rfl, hN, hC, hB⟩ := hrel
    have HC := Lib.hid hC
    have HB := Lib.hid hB
    have hs := HS.out
    have y0 : wr.cell? ⟨w.heap.size, 0, none⟩ = some (.string (txt [])) := (cells_of hC).1 0
    have y1 : wr.cell? ⟨w.heap.size, 1, none⟩ = some (.string (txt [])) := (cells_of hC).1 1
    have z0 : wr.frozen? ⟨w.heap.size, 0, none⟩ = false := (cells_of hC).2 0
    have z1 : wr.frozen? ⟨w.heap.size, 1, none⟩ = false := (cells_of hC).2 1
    by_cases hkl : k < s.length
    · by_cases h61 : s[k] = 61
      · have hx : ((((txt s)[k]'hkl).toNat : Int) == 61) = true := beq_iff_eq.2 (by show ((s[k].toNat : Nat) : Int) = 61; rw [h61]; rfl)
        have HE := Lib.hid (cutEq_at hkl hN h61)
        have hs1 : (txt s).extract 0 k = txt (s.take k) := by rw [txt_extract, mid_zero]
        have hs2 : (txt s).extract (k + 1) s.length = txt (s.drop (k + 1)) := by rw [txt_extract, mid_end]
        clear hN h61 hC hB
        go_wp2_with fail
        go_region
        go_wp2
        refine bodyPost_ret (results_cells_tmp rfl _ rfl rfl (run_loadPair (pair_laid HC.out))) rfl ?_
        exact ⟨by rw [HE.out]; rfl, ((HB.out.setCell (Nat.le_refl _) _).setCell (Nat.le_refl _) _).drew⟩
      · have hx : ((((txt s)[k]'hkl).toNat : Int) == 61) = false := beq_eq_false_iff_ne.2 fun e => h61 (by apply UInt8.toNat_inj.1; show s[k].toNat = 61; have e' : ((s[k].toNat : Nat) : Int) = 61 := e; omega)
        have HN := Lib.hid (no61_step hkl hN h61)
        clear hN h61 hC hB
        go_wp2_with fail
        go_roundw
        case rel => exact ⟨k + 1, hkl, by simp, HN.out, HC.out, HB.out⟩
        case measure => simp [intOf]; omega
    · obtain rfl : k = s.length := by omega
      rw [List.take_length] at hN
      have HE := Lib.hid (cutEq_none hN)
      clear hN hB hC
      go_wp2_with fail
      refine bodyPost_ret (results_cells_tmp rfl _ rfl rfl (run_loadPair (pair_laid HC.out))) rfl ?_
      exact ⟨by rw [HE.out]; rfl, (HB.out.setCell (Nat.le_refl _) _).setCell (Nat.le_refl _) _⟩
end Go.Proofs.YthjlajplckfldaaGreatDoor
