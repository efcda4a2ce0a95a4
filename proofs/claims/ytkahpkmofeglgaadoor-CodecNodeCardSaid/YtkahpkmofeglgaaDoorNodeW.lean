/-
  PROVED HERE: PutNode of package codec. Conditions: the keys and the values can be read.
-/
import Derived.Test.YtkahpkmofeglgaaDoorNodeRec
import Derived.Test.YtkahpkmofeglgaaDoorHeadW
import Derived.Test.YtkahpkmofeglgaaDoorImageG
namespace Go.Proofs.YtkahpkmofeglgaaDoor
open Go.RowKit

/-- A node as the program holds it. -/
def nodeV (n : Nd) (v u : Value) : Value := .agg #[.bool n.leaf, v, u]
theorem Upd.cell {S : List Nat} {w w' : World} (h : Upd S w w') {p : Addr} {v : Value} (hc : w.cell? p = some v) (hs : p.block ∉ S) : w'.cell? p = some v := by
  rw [World.cell?_of_block (h.block p.block (World.block_lt_of_cell? _ _ hc) hs)]; exact hc
theorem okNode0_cases (n : Nd) : (okNode0 n = true ∧ ((n.keys.length : Int) != (n.vals.length : Int)) = false ∧ decide (8 < (n.keys.length : Int)) = false) ∨
    (okNode0 n = false ∧ (((n.keys.length : Int) != (n.vals.length : Int)) = true ∨ (((n.keys.length : Int) != (n.vals.length : Int)) = false ∧ decide (8 < (n.keys.length : Int)) = true))) := by
  unfold okNode0
  by_cases h1 : n.keys.length = n.vals.length
  · by_cases h2 : 8 < n.keys.length
    · exact .inr ⟨decide_eq_false (by omega), .inr ⟨by rw [h1]; simp, decide_eq_true (by omega)⟩⟩
    · exact .inl ⟨decide_eq_true (by omega), by rw [h1]; simp, decide_eq_false (by omega)⟩
  · exact .inr ⟨decide_eq_false (by omega), .inl (by rw [bne_iff_ne]; omega)⟩
set_option maxRecDepth 100000 in
set_option maxHeartbeats 1600000 in
theorem putNode_no {w : World} {a a' : Option Addr} {cap cap' : Nat} (n : Nd) (ho : okNode0 n = false) (hl : n.keys.length ≤ 9223372036854775807) (hl' : n.vals.length ≤ 9223372036854775807) :
    Calls Tryd.prog 35 #[nodeV n (.slice a n.keys.length cap) (.slice a' n.vals.length cap')] w fun e w' => PutOut w.heap.size (putNode n) e w' ∧ Upd [] w w' := by
  rw [putNode_not0 ho]
  obtain ⟨lf, ks, vs⟩ := n
  unfold nodeV
  simp only at hl hl' ⊢
  rcases okNode0_cases ⟨lf, ks, vs⟩ with ⟨h1, _⟩ | ⟨_, h1⟩
  · rw [ho] at h1; cases h1
  simp only at h1
  clear ho
  rcases h1 with h1 | ⟨h1, h2⟩
  all_goals
    go_enter Tryd.func35, Tryd.ntmps35
    go_wp2
    go_ret2
    exact ⟨PutOut.no _ _, (Upd.refl [] w).alloc _⟩
set_option maxRecDepth 100000 in
set_option maxHeartbeats 6400000 in
theorem putNode_yes {w : World} {a a' : Option Addr} {cap cap' : Nat} {n : Nd} (hb : IsInts w a n.keys) (hb' : IsInts w a' n.vals) (ho : okNode0 n = true) :
    Calls Tryd.prog 35 #[nodeV n (.slice a n.keys.length cap) (.slice a' n.vals.length cap')] w fun e w' => PutOut w.heap.size (putNode n) e w' ∧ Upd [] w w' := by
  rcases okNode0_cases n with ⟨_, d1, d2⟩ | ⟨h1, _⟩
  rotate_left
  · rw [ho] at h1; cases h1
  obtain ⟨hkv, hl8⟩ := okNode0_parts ho
  have hpl := pairs_len ho
  have hps := fun hp => putNode_some (n := n) ho hp
  have hpn := fun k hk hp => putNode_notp (n := n) (okPairs_not (k := k) hk hp)
  have hpg := fun k h1 h2 h => pairs_get (n := n) (k := k) h1 h2 h
  have hhl := nodeHead_len n
  have hnb : nodeHead n = be n.leaf.toNat 1 ++ be n.keys.length 1 := rfl
  unfold nodeBytes at hps
  generalize putNode n = R at hps hpn ⊢
  generalize nodeHead n = N at hps hhl hnb
  generalize n.pairs = P at hpl hps hpn hpg
  clear ho
  obtain ⟨lf, ks, vs⟩ := n
  simp only at d1 d2 hkv hl8 hpl hpg hnb hb hb'
  unfold nodeV
  simp only
  rw [← hkv] at d1 ⊢
  have HKV := Lib.hid hkv
  clear hkv
  have HPS := Lib.hid hps
  have HPN := Lib.hid hpn
  have HPG := Lib.hid hpg
  have HHL := Lib.hid hhl
  have HNB := Lib.hid hnb
  have HPL := Lib.hid hpl
  have HB := Lib.hid hb
  have HB' := Lib.hid hb'
  clear hps hpn hpg hhl hnb hpl hb hb'
  have hC0 := ((Upd.refl [] _).alloc (.cells Tryd.zeroCells107 107)).get (heap_alloc_new w (.cells #[.bool lf, .slice a ks.length cap, .slice a' ks.length cap'] 67)) (by simp)
  have hW0 := isW_made (w.alloc (.cells #[.bool lf, .slice a ks.length cap, .slice a' ks.length cap'] 67))
  rw [show (w.alloc (.cells #[.bool lf, .slice a ks.length cap, .slice a' ks.length cap'] 67)).heap.size = w.heap.size + 1 by simp] at hW0
  have HC0 := Lib.hid hC0
  have HW0 := Lib.hid hW0
  have hcells : ∀ w' : World, w'.heap[w.heap.size]? = some (.cells #[.bool lf, .slice a ks.length cap, .slice a' ks.length cap'] 67 (0, 0)) → w'.cell? ⟨w.heap.size, 1, none⟩ = some (.slice a ks.length cap) ∧ w'.cell? ⟨w.heap.size, 2, none⟩ = some (.slice a' ks.length cap') := fun w' hx => by
    obtain ⟨k, _⟩ := cells_of hx
    exact ⟨k 1, k 2⟩
  have HCE := Lib.hid hcells
  have HUA := Lib.hid (show Upd [] w _ from ((Upd.refl [] w).alloc (.cells #[.bool lf, .slice a ks.length cap, .slice a' ks.length cap'] 67)).alloc (.cells Tryd.zeroCells107 107))
  clear hC0 hW0 hcells
  have HPUT := Lib.hid (put_any (n := lf.toNat) (k := 1) HW0.out (by decide) (by cases lf <;> decide) (by decide))
  cases lf
  all_goals
    simp only [Bool.toNat_false, Bool.toNat_true, Int.ofNat_zero, Int.ofNat_one] at HPUT
    go_enter Tryd.func35, Tryd.ntmps35
    go_wp2_with fail
    refine HPUT.out.mono ?_
    rintro e w1 ⟨rfl, g1, u1⟩
    have HC1 := Lib.hid (u1.get HC0.out (by simp))
    have G1 := Lib.hid g1
    have U1 := Lib.hid (HUA.out.step u1 (fun x hx => .inr (by simp at hx; omega)))
    clear g1 u1
    obtain ⟨q1, q2⟩ := HCE.out _ HC1.out
    go_wp2_with fail
    refine (put_any (n := ks.length) (k := 1) G1.out (by decide) (by omega) (by simp [be_len])).mono ?_
    rintro e w2 ⟨rfl, g2, u2⟩
    have HC2 := Lib.hid (u2.get HC1.out (by simp))
    have hg2 : IsW w2 (w.heap.size + 1) (N ++ pairBytes (P.take 0)) := by
      rw [HNB.out, List.take_zero, show pairBytes [] = [] from rfl, List.append_nil]; exact g2
    have G2 := Lib.hid hg2
    have U2 := Lib.hid (U1.out.step u2 (fun x hx => .inr (by simp at hx; omega)))
    clear g2 hg2 u2 HC1 G1 q1 q2
    obtain ⟨q1, q2⟩ := HCE.out _ HC2.out
    go_wp2
    go_loopw [32] (fun i wr => ∃ k : Nat, k ≤ ks.length ∧ i = .int .i64 k ∧ (∀ j (_ : j < k) (h7 : j < P.length), okPair P[j] = true) ∧ IsW wr (w.heap.size + 1) (N ++ pairBytes (P.take k)) ∧ wr.heap[w.heap.size]? = w2.heap[w.heap.size]? ∧ Upd [] w wr) (fun i _ => ks.length - (intOf i).toNat)
    case atStart => exact ⟨0, by omega, rfl, fun j hj => absurd hj (by omega), G2.out, rfl, U2.out⟩
    case round =>
      obtain ⟨k, hk, rfl, hin, hW, hX, hU⟩ := hrel
      rw [HC2.out] at hX
      clear q1 q2
      obtain ⟨q1, q2⟩ := HCE.out _ hX
      have HX := Lib.hid hX
      have HIN := Lib.hid hin
      have HWR := Lib.hid hW
      have HU := Lib.hid hU
      clear hin hW hU hX
      by_cases hlt7 : k < ks.length
      · have hkp : k < P.length := by have := HPL.out; omega
        obtain ⟨b, o, rfl, hc⟩ := (HB.out.upd HU.out (by simp)) k hlt7
        have hkv7 : k < vs.length := by have := HKV.out; omega
        obtain ⟨b', o', rfl, hc'⟩ := (HB'.out.upd HU.out (by simp)) k hkv7
        have HSS := Lib.hid (pairBytes_take P k hkp)
        have HL := Lib.hid (show (N ++ pairBytes (P.take k)).length = 2 + 6 * k by rw [List.length_append, HHL.out, pairBytes_len, List.length_take]; omega)
        have HN := Lib.hid (HPN.out k hkp)
        have hpk := HPG.out k hlt7 hkv7 hkp
        have hbw : b' < w.heap.size := HB'.out.lt (by have := HKV.out; omega) b' o' rfl
        rw [hpk] at HSS HN
        generalize ks[k] = x at hc HSS HN hpk
        generalize vs[k] = y at hc' HSS HN hpk
        have HPK := Lib.hid hpk
        have HBW := Lib.hid hbw
        clear hpk hbw
        unfold okPair at HN
        simp only at HN HSS
        cases hI : inB x 1048575
        · go_wp2_with (go_at_call 52; refine (in_b _ _ _).mono ?_; rintro e w' ⟨rfl, rfl⟩)
          go_ret2
          rw [HN.out (by rw [hI]; rfl)]
          exact ⟨PutOut.no _ _, HU.out⟩
        · cases hJ : inB y 1023
          · go_wp2_with (go_at_call 52; refine (in_b _ _ _).mono ?_; rintro e w' ⟨rfl, rfl⟩)
            go_ret2
            rw [HN.out (by rw [hI, hJ]; rfl)]
            exact ⟨PutOut.no _ _, HU.out⟩
          · obtain ⟨m, rfl⟩ := Int.eq_ofNat_of_zero_le (inB_true.1 hI).1
            have hm := (inB_true.1 hI).2
            obtain ⟨m', rfl⟩ := Int.eq_ofNat_of_zero_le (inB_true.1 hJ).1
            have hm' := (inB_true.1 hJ).2
            go_wp2_with (go_at_call 52; refine (in_b _ _ _).mono ?_; rintro e w' ⟨rfl, rfl⟩)
            refine (put_any (k := 4) HWR.out (by decide) (by omega) (by rw [HL.out]; omega)).mono ?_
            rintro e w6 ⟨rfl, h6, u6⟩
            have hc6 := u6.cell hc' (by have := HBW.out; simp; omega)
            have hx6 := u6.get HX.out (by simp)
            have HX6 := Lib.hid hx6
            have H6 := Lib.hid h6
            have U6 := Lib.hid (HU.out.step u6 (fun x hx => .inr (by simp at hx; omega)))
            clear h6 u6 hx6 q1 q2 hc hc'
            obtain ⟨q1, q2⟩ := HCE.out _ HX6.out
            go_wp2_with fail
            refine (put_any (k := 2) H6.out (by decide) (by omega) (by rw [List.length_append, HL.out, be_len]; omega)).mono ?_
            rintro e w7 ⟨rfl, h7, u7⟩
            have HX7 := Lib.hid (u7.get HX6.out (by simp))
            have H7 := Lib.hid h7
            have U7 := Lib.hid (U6.out.step u7 (fun x hx => .inr (by simp at hx; omega)))
            clear h7 u7 q1 q2 hc6
            go_wp2
            go_roundw
            case rel =>
              refine ⟨k + 1, by omega, by go_num, fun j hj h7 => ?_, by rw [HSS.out, ← List.append_assoc, ← List.append_assoc]; exact H7.out, by rw [HX7.out, HC2.out], U7.out⟩
              by_cases e : j = k
              · subst e; rw [HPK.out]; unfold okPair; rw [hI, hJ]; rfl
              · exact HIN.out j (by omega) h7
            case measure => simp [intOf]; omega
      · obtain rfl : k = ks.length := by omega
        have HO := Lib.hid (HPS.out (okPairs_of fun k hk => HIN.out k (by have := HPL.out; omega) hk))
        have hWf := HWR.out
        rw [List.take_of_length_le (by rw [HPL.out]; exact Nat.le_refl _)] at hWf
        have HWF := Lib.hid hWf
        have HLE := Lib.hid (show (N ++ pairBytes P).length ≤ 240 by rw [List.length_append, HHL.out, pairBytes_len, HPL.out]; omega)
        clear hWf
        go_wp2_with (go_at_call 64; refine (body_any HWF.out HLE.out).mono ?_; rintro e w2 ⟨rfl, rfl, h2⟩; have H2 := Lib.hid h2; clear h2)
        go_ret2
        rw [HO.out]
        exact ⟨PutOut.yes (H2.out.ret (by omega) (pad_len HLE.out) (by decide)), HU.out⟩
end Go.Proofs.YtkahpkmofeglgaaDoor
