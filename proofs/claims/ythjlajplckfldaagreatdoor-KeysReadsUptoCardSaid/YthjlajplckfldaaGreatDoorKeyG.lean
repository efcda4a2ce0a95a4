/-
  PROVED HERE: the laws' own functions that turn the document's pairs into the program's. Conditions: those that each theorem names.
-/
import Derived.Test.YthjlajplckfldaaGreatDoorKeyB
import Derived.Test.YthjlajplckfldaaGreatDoorOrder
import Derived.Test.YthjlajplckfldaaGreatDoorQuiet
namespace Go.Proofs.YthjlajplckfldaaGreatDoor
open Go.RowKit Go.Shelf
set_option maxRecDepth 100000 in
set_option maxHeartbeats 4000000 in
theorem given_any {w : World} {v : Value} {l : List Pr} (h : IsPrsA w v l) (hl : l.length ≤ 4398046511103) : Calls Tryz.prog 7 #[v] w fun e w' => (∃ u, e = .returned u ∧ IsPrs w' u l) ∧ Below w.heap.size w w' := by
  obtain ⟨p, cap, rfl⟩ : ∃ p cap, v = .slice p l.length cap := h.slice
  have H := Lib.hid h
  have HL := Lib.hid hl
  clear h hl
  go_enter Tryz.func7, Tryz.ntmps7
  go_wp2_with fail
  go_loopw [3, 4] (fun v i wr => ∃ k : Nat, k ≤ l.length ∧ i = .int .i64 k ∧ wr.ownsRow w.heap.size 53 2 v (l.take k).length (prCells (l.take k)) ∧ Below w.heap.size w wr) (fun _ i _ => l.length - (intOf i).toNat)
  case atStart => exact ⟨0, Nat.zero_le _, rfl, World.ownsRow_nil _ _ _ _, Below.refl _ _⟩
  case round =>
    obtain ⟨k, hk, rfl, hO, hB⟩ := hrel
    have HO := Lib.hid hO
    have HB := Lib.hid hB
    have hl := HL.out
    clear hO hB
    by_cases hkl : k < l.length
    · obtain ⟨_, g, o, rfl, hg, hc1, hc2, hcc⟩ := H.out.at hkl
      generalize hkey : (l[k]).1 = key at *
      generalize hval : (l[k]).2 = val at *
      have HK := Lib.hid (⟨hkey, hval⟩ : (l[k]).1 = key ∧ (l[k]).2 = val)
      have HCC := Lib.hid (fun W hW => (⟨by have := hcc W hW 0 _ rfl; rwa [Nat.add_zero] at this, hcc W hW 1 _ rfl⟩ : W.cell? ⟨g, o + k * 2, none⟩ = some (.string (txt key)) ∧ W.cell? ⟨g, o + k * 2 + 1, none⟩ = some (.string (txt val))))
      clear hcc hkey hval
      have hcat : l.take (k + 1) = l.take k ++ [(key, val)] := by rw [List.take_succ_eq_append_getElem hkl, ← HK.out.1, ← HK.out.2]
      have HCAT := Lib.hid hcat
      have hlen : (l.take k).length = k := by rw [List.length_take]; omega
      obtain ⟨i0, hi, hz0, hz1, hz2⟩ := info_parts infoPair3
      have hown := HO.out
      have hap := run_append_own (P := Tryz.prog) (wr.drew.alloc (.cells [.string (txt key), .string (txt val)].toArray 53)) w.heap.size 27 27 53 i0 _ 2 32 Tryz.underlying27 hi hz0 hz1 hz2 rfl (by decide) _ (l.take k).length (prCells (l.take k)) ((HO.out.drew).alloc _) ⟨wr.heap.size, 0, none⟩ 1 1 [.string (txt key), .string (txt val)] rfl (news_at wr.drew [.string (txt key), .string (txt val)] _) (by simp [Value.oneCell']) (by unfold maxLen; omega) (by omega) (by have := HB.out.size; simp; omega)
      obtain ⟨v6, w6, hrun, h6, g6, _⟩ := hap
      obtain ⟨gg6, cap6, rfl⟩ := ownsRow_succ h6
      have h6' : w6.ownsRow w.heap.size 53 2 (.slice (some ⟨gg6, 0, none⟩) (k + 1) cap6) (l.take (k + 1)).length (prCells (l.take (k + 1))) := by
        rw [HCAT.out, prCells_append, List.length_append]
        rw [hlen] at h6 ⊢
        simpa [prCells] using h6
      have hb6 : Below w.heap.size w w6 := (HB.out.drew.alloc HB.out.size (.cells [.string (txt key), .string (txt val)].toArray 53)).trans ((Upd.of_grown g6).below (by have := HB.out.size; simp; omega) (fun x hx => ownsRow_block HO.out x hx))
      rw [hlen] at hrun
      have HRUN := Lib.hid hrun
      have H6 := Lib.hid h6'
      have HB6 := Lib.hid hb6
      clear hrun h6 h6' hb6 hcat hlen g6 hi hz0 hz1 hz2 hown
      go_wp2_with fail
      refine wp_region_order (fun W => Below w.heap.size w W) [0, 1, 2, 3, 4, 5, 6, 7, 8, 9, 10, 11] [[12, 13, 14]] 3 rfl (by kernel_rfl) HB.out.drew ?_
      simp only [List.map_cons, List.map_nil, opAt]
      iterate 12
        apply reads_step rfl
        · intro wq hq
          obtain ⟨q1, q2⟩ := HCC.out wq hq
          go_simp
          all_goals with_reducible rfl
        simp only [Act.put, List.setIfInBounds_toArray, List.set_cons_zero, List.set_cons_succ]
      refine ⟨?_, trivial⟩
      simp only [List.map_cons, List.map_nil, opAt]
      refine ⟨rfl, ?_⟩
      go_simp
      refine ⟨(HB.out.alloc HB.out.size _).drew, ?_⟩
      refine tail_val (w' := w6) (.slice (some ⟨gg6, 0, none⟩) (k + 1) cap6) rfl (exec_append rfl rfl rfl HRUN.out) HB6.out ?_
      refine ⟨rfl, ?_⟩
      go_simp
      refine ⟨HB6.out, ?_⟩
      dsimp only [OnlyN, Exit.then, wpTail, Exit.inBlock]
      go_wp2
      go_roundw
      case rel => exact ⟨k + 1, hkl, by simp, H6.out, HB6.out⟩
      case measure => simp [intOf]; omega
    · obtain rfl : k = l.length := by omega
      go_wp2_with fail
      go_ret
      refine ⟨⟨_, rfl, ?_⟩, HB.out⟩
      have := HO.out
      rw [List.take_length] at this
      exact prs_of_row this
end Go.Proofs.YthjlajplckfldaaGreatDoor
