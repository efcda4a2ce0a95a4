/-
  PROVED HERE: AllocPlays returns true, whatever it is given. Conditions: the table of math/bits lies as its text lays it; the script is a script.
-/
import Derived.Test.YtmecndmoobddkaaDoorRefE
namespace Go.Proofs.YtmecndmoobddkaaDoor
open Go.RowKit

set_option maxHeartbeats 800000 in
set_option maxRecDepth 100000 in
theorem plays_no {n : Int} {v : Value} {w : World} (hT : Tab w) (h : n < 1 ∨ 1024 < n) : Calls Tryd.prog 4 #[.int .i64 n, v] w fun e w' => e = .returned (.bool true) ∧ Upd [] w w' := by
  have HT := Lib.hid hT
  have HN := Lib.hid h
  clear hT h
  go_enter Tryd.func4, Tryd.ntmps4
  go_wp2_with fail
  refine (new_no HN.out).mono ?_
  rintro e w1 ⟨rfl, rfl⟩
  go_wp2_with fail
  refine (rnew_no HN.out).mono ?_
  rintro e w2 ⟨rfl, rfl⟩
  go_wp2_with fail
  refine (known_any HT.out).mono ?_
  rintro e w3 ⟨rfl, u⟩
  go_wp2
  go_ret
  exact ⟨rfl, u⟩
theorem kind_cases (k : Int) : k = 0 ∨ k = 1 ∨ k = 2 ∨ k = 3 ∨ k = 4 ∨ ((k == 0) = false ∧ (k == 1) = false ∧ (k == 2) = false ∧ (k == 3) = false ∧ (k == 4) = false) := by
  by_cases h0 : k = 0
  · exact .inl h0
  · by_cases h1 : k = 1
    · exact .inr (.inl h1)
    · by_cases h2 : k = 2
      · exact .inr (.inr (.inl h2))
      · by_cases h3 : k = 3
        · exact .inr (.inr (.inr (.inl h3)))
        · by_cases h4 : k = 4
          · exact .inr (.inr (.inr (.inr (.inl h4))))
          · exact .inr (.inr (.inr (.inr (.inr (by simp [h0, h1, h2, h3, h4])))))
theorem IsR.drew {w : World} {r g1 g2 : Nat} {s : St} (h : IsR w r g1 g2 s) : IsR w.drew r g1 g2 s := h.upd (Upd.refl [] w).drew (by simp) (by simp) (by simp)
/-- Both allocators, apart, in one state. -/
structure Both (W w : World) (b r g1 g2 : Nat) (s : St) : Prop where
  isA : IsA w b s
  isR : IsR w r g1 g2 s
  below : W.heap.size ≤ b
  br : b < r
  b1 : b < g1
  b2 : b < g2
  u : Upd [] W w
theorem Both.upd {W w w' : World} {b r g1 g2 : Nat} {s : St} (h : Both W w b r g1 g2 s) (u : Upd [] w w') : Both W w' b r g1 g2 s :=
  ⟨h.isA.upd u (by simp), h.isR.upd u (by simp) (by simp) (by simp), h.below, h.br, h.b1, h.b2, h.u.step u (by simp)⟩
/-- Behind a step of both. -/
theorem Both.step {W w w1 w2 : World} {b r g1 g2 g1' g2' : Nat} {s s' : St} (h : Both W w b r g1 g2 s) (ha : IsA w1 b s') (ua : Upd [b] w w1) (hr : IsR w2 r g1' g2' s') (ur : Upd [r, g1] w1 w2)
    (e1 : g1' = g1 ∨ w1.heap.size ≤ g1') (e2 : g2' = g2 ∨ w1.heap.size ≤ g2') : Both W w2 b r g1' g2' s' := by
  have hlt := lt_of_block ha.1
  have h1 := h.b1
  have h2 := h.b2
  have h3 := h.br
  refine ⟨ha.upd ur (by simp; omega), hr, h.below, h.br, by omega, by omega, (h.u.into ua h.below).step ur fun x hx => .inr ?_⟩
  have := h.below
  simp at hx
  omega
theorem Both.other {W w w1 : World} {b r g1 g2 : Nat} {s : St} (h : Both W w b r g1 g2 s) (ua : Upd [b] w w1) : IsR w1 r g1 g2 s := by
  have h1 := h.b1
  have h2 := h.b2
  have h3 := h.br
  exact h.isR.upd ua (by simp; omega) (by simp; omega) (by simp; omega)
theorem Both.drew {W w : World} {b r g1 g2 : Nat} {s : St} (h : Both W w b r g1 g2 s) : Both W w.drew b r g1 g2 s := h.upd (Upd.refl [] w).drew
theorem cell_drew {w : World} {a : Addr} {v : Value} (h : w.cell? a = some v) : w.drew.cell? a = some v := h
/-- A list in new memory is written over: neither allocator is touched. -/
theorem Both.own {W w w0 w1 w2 : World} {b r g1 g2 : Nat} {s s0 : St} {v : Value} {l : List (Nat × Nat)} {B : Nat} (h : Both W w b r g1 g2 s) (u : Upd v.ownBlock.toList w w2) (hv : IsEnts w1 B v l) (hB : w0.heap.size ≤ B)
    (h0 : Both W w0 b r g1 g2 s0) : Both W w2 b r g1 g2 s := by
  have hlt := lt_of_block h0.isA.1
  have l1 := h0.isR.now.lt
  have l2 := h0.isR.set.lt
  have l3 : r < w0.heap.size := by obtain ⟨_, _, _, _, ho⟩ := h0.isR.obj; exact lt_of_block ho
  have hn : ∀ x, x < w0.heap.size → x ∉ v.ownBlock.toList := fun x hx hm => by have := ownsRow_block hv x hm; omega
  have hu := h0.u.size
  exact ⟨h.isA.upd u (hn _ hlt), h.isR.upd u (hn _ l3) (hn _ l1) (hn _ l2), h.below, h.br, h.b1, h.b2, h.u.step u fun x hx => .inr (by have := ownsRow_block hv x hx; omega)⟩
theorem cell_stays {w w' : World} {S : List Nat} {x : Nat} {p : Value} (h : w.cell? ⟨x, 1, none⟩ = some p) (u : Upd S w w') (hs : x ∉ S) : w'.cell? ⟨x, 1, none⟩ = some p := by
  rw [← h]; exact World.cell?_of_block (u.block x (World.block_lt_of_cell? _ _ h) hs)

set_option maxHeartbeats 3200000 in
set_option maxRecDepth 100000 in
theorem plays_yes {n : Nat} {v : Value} {l : List (Int × Int)} {w : World} (hT : Tab w) (h1 : 1 ≤ n) (h2 : n ≤ 1024) (hs : IsOps w v l) :
    Calls Tryd.prog 4 #[.int .i64 n, v] w fun e w' => e = .returned (.bool true) ∧ Upd [] w w' := by
  have HT := Lib.hid hT
  have hlt := hT.lt
  obtain ⟨a, cap, rfl, hjunk⟩ := id hs
  obtain ⟨_, hl, hcs⟩ := hs.cells
  have HCS := Lib.hid hcs
  clear hT hcs hs hjunk
  have h1' : ¬ ((n : Int) < 1) := by omega
  have h2' : ¬ (1024 < (n : Int)) := by omega
  go_enter Tryd.func4, Tryd.ntmps4
  go_wp2_with fail
  refine (new_yes h1 h2).mono ?_
  rintro e w1 ⟨rfl, hA1, u1⟩
  have hb1 := lt_of_block hA1.1
  have H1 := Lib.hid hA1
  have U1 := Lib.hid u1
  generalize hb : w.heap.size = b at *
  have HB := Lib.hid hb
  clear hA1 u1 hb
  go_wp2_with fail
  refine (rnew_yes h1 h2).mono ?_
  rintro e w2 ⟨r, g1, g2, rfl, hr, hr1, hr2, hr3, u2⟩
  have hBoth : Both w w2 b r g1 g2 (St.new n) := ⟨H1.out.upd u2 (by simp), hr, Nat.le_of_eq HB.out, by omega, by omega, by omega, U1.out.step u2 (by simp)⟩
  have HT2 := Lib.hid (HT.out.upd hBoth.u (by simp))
  have HBo := Lib.hid hBoth
  clear hr hr2 hr3 u2 hBoth
  go_wp2_with fail
  refine (known_any HT2.out).mono ?_
  rintro e w3 ⟨rfl, u3⟩
  have HB3 := Lib.hid (HBo.out.upd u3)
  clear u3
  go_wp2_with fail
  go_outline
  go_loopw [7] (fun i wr => ∃ k : Nat, k ≤ l.length ∧ i = .int .i64 k ∧ ∃ s g1 g2, Both w wr b r g1 g2 s) (fun i _ => l.length - (intOf i).toNat)
  case atStart => exact ⟨0, by omega, rfl, _, _, _, HB3.out⟩
  case round =>
    obtain ⟨k, hk, rfl, s, g1, g2, hB⟩ := hrel
    have HBr := Lib.hid hB
    have HTr := Lib.hid (HT.out.upd hB.u (by simp))
    clear hB
    by_cases hltk : k < l.length
    · obtain ⟨b0, o, rfl, hc1, hc2⟩ := HCS.out k hltk
      have hbl := World.block_lt_of_cell? _ _ hc1
      have hr1 : wr.cell? ⟨b0, o + k * 2, none⟩ = some (.int .i64 l[k].1) := by rw [← hc1]; exact World.cell?_of_block (HBr.out.u.block b0 hbl (by simp))
      have hr2 : wr.cell? ⟨b0, o + k * 2 + 1, none⟩ = some (.int .i64 l[k].2) := by rw [← hc2]; exact World.cell?_of_block (HBr.out.u.block b0 hbl (by simp))
      generalize l[k] = x at *
      obtain ⟨kd, pg⟩ := x
      simp only at hr1 hr2
      have hbx := lt_of_block HBr.out.isA.1
      have hrx := HBr.out.isR.now.lt
      have hrx2 := HBr.out.isR.set.lt
      have hrx3 : r < wr.heap.size := by obtain ⟨_, _, _, _, ho⟩ := HBr.out.isR.obj; exact lt_of_block ho
      clear hc1 hc2 hbl
      have HZ : Hid (∀ ob, Both w (wr.alloc ob) b r g1 g2 s) := fun ob => HBr.out.upd ((Upd.refl [] _).alloc ob)
      have HZT : Hid (∀ ob, Tab (wr.alloc ob)) := fun ob => HTr.out.upd ((Upd.refl [] _).alloc ob) (by simp)
      have hx0 : (wr.alloc (.cells #[.int .i64 kd, .int .i64 pg] 38)).cell? ⟨wr.heap.size, 1, none⟩ = some (.int .i64 pg) := by rw [World.cell?_alloc_new]; rfl
      have HX0 := Lib.hid hx0
      clear hx0
      have hnb : wr.heap.size ∉ [b] := by rw [List.mem_singleton]; omega
      have hn1 : wr.heap.size ∉ [g1] := by rw [List.mem_singleton]; omega
      have hn2 : wr.heap.size ∉ [r, g1] := by simp; omega
      have hn3 : wr.heap.size ∉ [r] := by rw [List.mem_singleton]; omega
      rcases kind_cases kd with rfl | rfl | rfl | rfl | rfl | ⟨e0, e1, e2, e3, e4⟩
      case' inl =>
        go_wp2
        have hBx := (HZ.out (.cells #[.int .i64 0, .int .i64 pg] 38))
        have hTx := (HZT.out (.cells #[.int .i64 0, .int .i64 pg] 38))
        have hx := HX0.out
        have hxs : wr.heap.size < (wr.alloc (.cells #[.int .i64 0, .int .i64 pg] 38)).heap.size := by simp
        generalize wr.alloc (.cells #[.int .i64 0, .int .i64 pg] 38) = wx at *
        have hBd : Both w wx.drew b r g1 g2 s := ⟨hBx.isA, hBx.isR.drew, hBx.below, hBx.br, hBx.b1, hBx.b2, hBx.u.drew⟩
        have hxd : wx.drew.cell? ⟨wr.heap.size, 1, none⟩ = some (.int .i64 pg) := hx
        have hA := hBd.isA
        go_region_held3 (fun w' => w'.cell? ⟨wr.heap.size, 1, none⟩ = some (.int .i64 pg)) (first | exact hx | exact hxd | exact hx1 | exact hx2)
          (first
            | (go_at_call 15; (with_reducible refine (mark_any hA).mono ?_); rintro e wa ⟨rfl, ha, ua⟩; have hR1 := hBd.other ua; have hx1 := cell_stays hxd ua hnb)
            | (go_at_call 16; (with_reducible refine (rmark_any hR1).mono ?_); rintro e wy ⟨rfl, hb, ub⟩; have hx2 := cell_stays hx1 ub hn1))
        have BB := Lib.hid (hBd.step ha ua hb (ub.mono (by simp)) (.inl rfl) (.inl rfl))
        have hy := hx2
        have hys : wr.heap.size < wy.heap.size := World.block_lt_of_cell? _ _ hy
        clear hBx hTx hx hxs hBd hxd hA ha ua hR1 hx1 hb ub hx2
      case' inr.inl =>
        go_wp2_with fail
        have hBx := (HZ.out (.cells #[.int .i64 1, .int .i64 pg] 38))
        have hTx := (HZT.out (.cells #[.int .i64 1, .int .i64 pg] 38))
        have hx := HX0.out
        have hxs : wr.heap.size < (wr.alloc (.cells #[.int .i64 1, .int .i64 pg] 38)).heap.size := by simp
        generalize wr.alloc (.cells #[.int .i64 1, .int .i64 pg] 38) = wx at *
        refine (take_any hBx.isA hTx).mono ?_
        rintro e wa ⟨rfl, ha, ua⟩
        have hR1 := hBx.other ua
        have HB1 := Lib.hid hBx
        have HA1 := Lib.hid ha
        have UA := Lib.hid ua
        have HR1 := Lib.hid hR1
        have hx1 := cell_stays hx ua hnb
        clear hBx hTx hx hxs ha ua hR1
        go_wp2_with fail
        refine (rtake_any HR1.out).mono ?_
        rintro e wy ⟨rfl, hb, ub⟩
        have BB := Lib.hid (HB1.out.step HA1.out UA.out hb (ub.mono (by simp)) (.inl rfl) (.inl rfl))
        have hy := cell_stays hx1 ub hn1
        have hys : wr.heap.size < wy.heap.size := World.block_lt_of_cell? _ _ hy
        clear hx1 hb ub HB1 HA1 UA HR1
        go_wp2_with fail
      case' inr.inr.inl =>
        go_wp2
        have hBx := (HZ.out (.cells #[.int .i64 2, .int .i64 pg] 38))
        have hTx := (HZT.out (.cells #[.int .i64 2, .int .i64 pg] 38))
        have hx := HX0.out
        have hxs : wr.heap.size < (wr.alloc (.cells #[.int .i64 2, .int .i64 pg] 38)).heap.size := by simp
        generalize wr.alloc (.cells #[.int .i64 2, .int .i64 pg] 38) = wx at *
        have hBd : Both w wx.drew b r g1 g2 s := ⟨hBx.isA, hBx.isR.drew, hBx.below, hBx.br, hBx.b1, hBx.b2, hBx.u.drew⟩
        have hxd : wx.drew.cell? ⟨wr.heap.size, 1, none⟩ = some (.int .i64 pg) := hx
        have hA := hBd.isA
        go_region_held3 (fun w' => w'.cell? ⟨wr.heap.size, 1, none⟩ = some (.int .i64 pg)) (first | exact hx | exact hxd | exact hx1 | exact hx2)
          (first
            | (go_at_call 12; (with_reducible refine (drop_any hA).mono ?_); rintro e wa ⟨rfl, ha, ua⟩; have hR1 := hBd.other ua; have hx1 := cell_stays hxd ua hnb)
            | (go_at_call 18; (with_reducible refine (rdrop_any hR1).mono ?_); rintro e wy ⟨rfl, hb, ub⟩; have hx2 := cell_stays hx1 ub hn1))
        have BB := Lib.hid (hBd.step ha ua hb (ub.mono (by simp)) (.inl rfl) (.inl rfl))
        have hy := hx2
        have hys : wr.heap.size < wy.heap.size := World.block_lt_of_cell? _ _ hy
        clear hBx hTx hx hxs hBd hxd hA ha ua hR1 hx1 hb ub hx2
      case' inr.inr.inr.inl =>
        go_wp2_with fail
        have hBx := (HZ.out (.cells #[.int .i64 3, .int .i64 pg] 38))
        have hTx := (HZT.out (.cells #[.int .i64 3, .int .i64 pg] 38))
        have hx := HX0.out
        have hxs : wr.heap.size < (wr.alloc (.cells #[.int .i64 3, .int .i64 pg] 38)).heap.size := by simp
        generalize wr.alloc (.cells #[.int .i64 3, .int .i64 pg] 38) = wx at *
        refine (settle_any hBx.isA).mono ?_
        rintro e wa ⟨rfl, ha, ua⟩
        have hR1 := hBx.other ua
        have HB1 := Lib.hid hBx
        have HA1 := Lib.hid ha
        have UA := Lib.hid ua
        have HR1 := Lib.hid hR1
        have hx1 := cell_stays hx ua hnb
        clear hBx hTx hx hxs ha ua hR1
        go_wp2_with fail
        refine (rsettle_any HR1.out).mono ?_
        rintro e wy ⟨rfl, g2', hb, hg2, ub⟩
        have BB := Lib.hid (HB1.out.step HA1.out UA.out hb (ub) (.inl rfl) (.inr hg2))
        have hy := cell_stays hx1 ub hn2
        have hys : wr.heap.size < wy.heap.size := World.block_lt_of_cell? _ _ hy
        clear hx1 hb ub HB1 HA1 UA HR1
        go_wp2_with fail
      case' inr.inr.inr.inr.inl =>
        go_wp2_with fail
        have hBx := (HZ.out (.cells #[.int .i64 4, .int .i64 pg] 38))
        have hTx := (HZT.out (.cells #[.int .i64 4, .int .i64 pg] 38))
        have hx := HX0.out
        have hxs : wr.heap.size < (wr.alloc (.cells #[.int .i64 4, .int .i64 pg] 38)).heap.size := by simp
        generalize wr.alloc (.cells #[.int .i64 4, .int .i64 pg] 38) = wx at *
        refine (undo_any hBx.isA).mono ?_
        rintro e wa ⟨rfl, ha, ua⟩
        have hR1 := hBx.other ua
        have HB1 := Lib.hid hBx
        have HA1 := Lib.hid ha
        have UA := Lib.hid ua
        have HR1 := Lib.hid hR1
        have hx1 := cell_stays hx ua hnb
        clear hBx hTx hx hxs ha ua hR1
        go_wp2_with fail
        refine (rundo_any HR1.out).mono ?_
        rintro e wy ⟨rfl, g1', hb, hg1, ub⟩
        have BB := Lib.hid (HB1.out.step HA1.out UA.out hb (ub.mono (by simp)) (.inr hg1) (.inl rfl))
        have hy := cell_stays hx1 ub hn3
        have hys : wr.heap.size < wy.heap.size := World.block_lt_of_cell? _ _ hy
        clear hx1 hb ub HB1 HA1 UA HR1
        go_wp2_with fail
      case' inr.inr.inr.inr.inr =>
        go_wp2_with fail
        have hBx := (HZ.out (.cells #[.int .i64 kd, .int .i64 pg] 38))
        have hTx := (HZT.out (.cells #[.int .i64 kd, .int .i64 pg] 38))
        have hx := HX0.out
        have hxs : wr.heap.size < (wr.alloc (.cells #[.int .i64 kd, .int .i64 pg] 38)).heap.size := by simp
        generalize wr.alloc (.cells #[.int .i64 kd, .int .i64 pg] 38) = wx at *
        have BB := Lib.hid hBx
        have hy := hx
        have hys : wr.heap.size < wx.heap.size := World.block_lt_of_cell? _ _ hy
        clear hBx hTx hx hxs
      all_goals
        have hBd := BB.out.drew
        have hyd := cell_drew hy
        have hown : ∀ {B : Nat} {v : Value} {l' : List (Nat × Nat)} {wz : World}, IsEnts wz B v l' → wr.heap.size < B → wr.heap.size ∉ v.ownBlock.toList := fun h hB hm => by
          have := ownsRow_block h _ hm; omega
        have HOwn := @hown
        clear hown
        go_wp2
        go_region_held3 (fun w' => w'.cell? ⟨wr.heap.size, 1, none⟩ = some (.int .i64 pg)) (first | exact hy | exact hyd | exact hya | exact hyb | exact hyc)
          (first
            | (go_at_call 10; (with_reducible refine (free_any hBd.isA).mono ?_); rintro e wf ⟨rfl, rfl⟩)
            | (go_at_call 22; (with_reducible refine (rfree_any hBd.isR).mono ?_); rintro e wf ⟨rfl, rfl⟩)
            | (go_at_call 23; (with_reducible refine (isFree_any hBd.isA).mono ?_); rintro e wf ⟨rfl, rfl⟩)
            | (go_at_call 24; (with_reducible refine (risFree_any hBd.isR).mono ?_); rintro e wf ⟨rfl, rfl⟩)
            | (go_at_call 11; (with_reducible refine (runs_any hBd.isA).mono ?_); rintro e wa ⟨va, rfl, hva, ua⟩; have hBa := hBd.upd ua; have hya := cell_stays hyd ua (by simp))
            | (go_at_call 26; (with_reducible refine (rruns_any hBa.isR).mono ?_); rintro e wb ⟨vb, rfl, hvb, ub⟩; have hBb := hBa.upd ub; have hyb := cell_stays hya ub (by simp); have hva2 := hva.stays ub; have hsep := hva.apart hvb)
            | (go_at_call 25; (with_reducible refine (entries_same hva2 hvb hsep).mono ?_); rintro e wc ⟨rfl, uc⟩; have hyc := cell_stays hyb uc (HOwn hva hys)))
        have BF := Lib.hid (hBb.own uc hva (Nat.le_refl _) hBd)
        clear hBd hyd hBa hya hBb hyb hva2 hsep hyc hva hvb ua ub uc BB hy
        go_wp2
        go_roundw
        case rel => exact ⟨k + 1, by omega, by go_num, _, _, _, BF.out⟩
        case measure => simp [intOf]; omega
    · obtain rfl : k = l.length := by omega
      go_wp2
      go_ret
      exact ⟨rfl, HBr.out.u⟩
end Go.Proofs.YtmecndmoobddkaaDoor
