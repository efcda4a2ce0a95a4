/-
  PROVED HERE: Find of package keys is the plain function. Conditions: those that each theorem names.
-/
import Derived.Test.YtlhdjgibkiffaaaGreatDoorKeyL
import Derived.Test.YtlhdjgibkiffaaaGreatDoorQuiet
import Derived.Shelf.SlicesE.DeleteFunc
namespace Go.Proofs.YtlhdjgibkiffaaaGreatDoor
open Go.RowKit Go.Shelf
set_option maxRecDepth 100000 in
set_option maxHeartbeats 2000000 in
theorem findPred {w : World} {b : Nat} {key : Txt} (hb : b < w.heap.size) (hc : w.cell? ⟨b, 0, none⟩ = some (.string (txt key))) :
    PredBelow Tryz.prog 25 #[.pointer (some ⟨b, 0, none⟩)] (fun x : Pr => .agg [.string (txt x.1), .string (txt x.2)].toArray) (fun x => x.1 == key) w := by
  intro W x hW
  have hc' := (hW.cell (p := ⟨b, 0, none⟩) hb).trans hc
  have hc2 : ∀ o, (W.alloc o).cell? ⟨b, 0, none⟩ = some (.string (txt key)) := fun o => by
    have h1 : Below W.heap.size W (W.alloc o) := (Below.refl W.heap.size W).alloc (Nat.le_refl _) o
    have h2 : b < W.heap.size := Nat.lt_of_lt_of_le hb hW.size
    rw [h1.cell (p := ⟨b, 0, none⟩) h2]
    exact hc'
  have HB := Lib.hid hW
  clear hW hc hb
  go_enter Tryz.func25, Tryz.ntmps25
  go_wp2
  go_ret
  exact ⟨rfl, HB.out.alloc HB.out.size _⟩
theorem findP_idx (l : List Pr) (key : Txt) : (Lib.idxBy (fun _ (y : Pr) => y.1 == key) l default = -1 ∧ findP l key = none) ∨ ∃ k, ∃ h : k < l.length, Lib.idxBy (fun _ (y : Pr) => y.1 == key) l default = (k : Int) ∧ findP l key = some (l[k]).2 := by
  unfold Lib.idxBy
  rcases idxByFrom_spec (fun _ (y : Pr) => y.1 == key) default l 0 with ⟨h1, h2⟩ | ⟨k, h0, h1, h2, h3⟩
  · refine .inl ⟨h1, ?_⟩
    unfold findP
    rw [List.find?_eq_none.2]
    · rfl
    · intro p hp
      obtain ⟨j, hj, rfl⟩ := List.getElem_of_mem hp
      have := h2 j hj
      simp only [getElem!_pos, hj] at this
      simpa using this
  · refine .inr ⟨k, h0, by rw [h1]; simp, ?_⟩
    unfold findP
    have hk : (l[k]).1 = key := by simpa [getElem!_pos, h0] using h2
    have : l.find? (fun p => decide (p.1 = key)) = some l[k] := by
      rw [List.find?_eq_some_iff_getElem]
      refine ⟨by simpa using hk, k, h0, rfl, fun j hj => ?_⟩
      have := h3 j hj
      simp only [getElem!_pos, show j < l.length by omega] at this
      simpa using this
    rw [this]; rfl
set_option maxRecDepth 100000 in
set_option maxHeartbeats 2000000 in
theorem idx_nil (f : Value) (w : World) : Calls Tryz.prog 24 #[.slice none 0 0, f] w fun e w' => e = .returned (.int .i64 (-1)) ∧ Below w.heap.size w w' := by
  go_enter Tryz.func24, Tryz.ntmps24
  go_wp2
  refine wp_loop_rounds 1 ?_
  rw [rounds_succ]
  go_wp2
  go_ret
  exact ⟨rfl, Below.refl _ _⟩
set_option maxRecDepth 100000 in
set_option maxHeartbeats 2000000 in
theorem find_any {w : World} {v : Value} {l : List Pr} (key : Txt) (h : IsPrs w v l) : Calls Tryz.prog 16 #[v, .string (txt key)] w fun e w' => e = .returned (.tuple #[.string (txt ((findP l key).getD [])), .bool (findP l key).isSome]) ∧ Below w.heap.size w w' := by
  have hidx : ∀ W, Below w.heap.size w W → w.heap.size < W.heap.size → W.cell? ⟨w.heap.size, 0, none⟩ = some (.string (txt key)) →
      Calls Tryz.prog 24 #[v, .func (.func 25) #[] #[.pointer (some ⟨w.heap.size, 0, none⟩)]] W fun e w' => e = .returned (.int .i64 (Lib.idxBy (fun _ (y : Pr) => y.1 == key) l default)) ∧ Below W.heap.size W w' := by
    intro W hW hs hc
    have hp := findPred hs hc
    rcases h.below hW with ⟨rfl, rfl⟩ | ⟨g, o, cap, rfl, h1, h2, h3, h4⟩
    · exact idx_nil _ W
    · have := AnyQ.slices_IndexFunc Tryz.laysSlH06 2 (fun w => Tryz.isAgg68 w) (fun w => Tryz.sizeOf68 w) (fun x : Pr => [.string (txt x.1), .string (txt x.2)]) (fun _ => rfl) (fun x => x.1 == key) 25 #[.pointer (some ⟨w.heap.size, 0, none⟩)] (enters_of Tryz.func25 (by kernel_rfl) rfl) g o l.length cap l W hp (Nat.le_refl _) (by unfold maxLen at h2; omega) h3 (fun j hj i v hi => by
        obtain ⟨q1, q2⟩ := h4 j hj
        rw [getElem!_pos l j hj] at hi
        match i, hi with
        | 0, hi => rw [Nat.add_zero, q1]; exact hi
        | 1, hi => rw [q2]; exact hi)
      rw [List.take_length] at this
      exact this
  have hlen : ∃ p n cap, v = .slice p n cap := by
    rcases h with ⟨rfl, _⟩ | ⟨g, o, cap, rfl, _⟩
    · exact ⟨_, _, _, rfl⟩
    · exact ⟨_, _, _, rfl⟩
  obtain ⟨p, n, cap, rfl⟩ := hlen
  have H := Lib.hid h
  have hb1 : Below w.heap.size w (w.alloc (.cells #[.string (txt key)] 9)) := (Below.refl w.heap.size w).alloc (Nat.le_refl _) _
  have hc1 : (w.alloc (.cells #[.string (txt key)] 9)).cell? ⟨w.heap.size, 0, none⟩ = some (.string (txt key)) := by rw [World.cell?_alloc_new]; rfl
  have HI := Lib.hid (hidx _ hb1 (by simp) hc1)
  have HB1 := Lib.hid hb1
  clear h hidx hb1 hc1
  rcases findP_idx l key with ⟨h1, h2⟩ | ⟨k, hk, h1, h2⟩
  · rw [h1] at HI
    rw [h2]
    clear h1 h2
    go_enter Tryz.func16, Tryz.ntmps16
    go_wp2_with (go_at_call 24; refine HI.out.mono ?_; rintro e w2 ⟨rfl, hb2⟩; have HB2 := Lib.hid hb2; clear hb2)
    go_ret2
    exact ⟨rfl, HB1.out.trans (HB2.out.mono (by simp))⟩
  · rw [h1] at HI
    rw [h2]
    clear h1 h2
    obtain ⟨rfl, g, o, rfl, hg, hn, hcap, hcc⟩ := H.out.at hk
    have HCC := Lib.hid hcc
    generalize hval : (l[k]).2 = val at *
    clear hcc
    go_enter Tryz.func16, Tryz.ntmps16
    go_wp2_with (go_at_call 24; refine HI.out.mono ?_; rintro e w2 ⟨rfl, hb2⟩; have hc := HCC.out w2 (HB1.out.trans (hb2.mono (by simp))) 1 _ rfl; have HB2 := Lib.hid hb2; clear hb2)
    go_ret2
    exact ⟨rfl, HB1.out.trans (HB2.out.mono (by simp))⟩
end Go.Proofs.YtlhdjgibkiffaaaGreatDoor
