/-
  PROVED HERE: the document's PutNode. Conditions: the keys and the values can be read.
-/
import Derived.Test.YtkahpkmofeglgaaDoorNodeW
import Derived.Test.YtkahpkmofeglgaaDoorImageS
namespace Go.Proofs.YtkahpkmofeglgaaDoor
open Go.RowKit

set_option maxRecDepth 100000 in
set_option maxHeartbeats 1600000 in
theorem rputNode_no {w : World} {a a' : Option Addr} {cap cap' : Nat} (n : Nd) (ho : okNode0 n = false) (hl : n.keys.length ≤ 9223372036854775807) (hl' : n.vals.length ≤ 9223372036854775807) :
    Calls Tryd.prog 36 #[nodeV n (.slice a n.keys.length cap) (.slice a' n.vals.length cap')] w fun e w' => PutOut w.heap.size (putNode n) e w' ∧ Upd [] w w' := by
  rw [putNode_not0 ho]
  obtain ⟨lf, ks, vs⟩ := n
  unfold nodeV
  simp only at hl hl' ⊢
  rcases okNode0_cases ⟨lf, ks, vs⟩ with ⟨h1, _⟩ | ⟨_, h1⟩
  · rw [ho] at h1; cases h1
  simp only at h1
  clear ho
  rcases h1 with h1 | ⟨h1, h2⟩
  all_goals
    go_enter Tryd.func36, Tryd.ntmps36
    go_wp2
    go_ret2
    exact ⟨PutOut.no _ _, (Upd.refl [] w).alloc _⟩
set_option maxRecDepth 100000 in
set_option maxHeartbeats 6400000 in
theorem rputNode_yes {w : World} {a a' : Option Addr} {cap cap' : Nat} {n : Nd} (hb : IsInts w a n.keys) (hb' : IsInts w a' n.vals) (ho : okNode0 n = true) :
    Calls Tryd.prog 36 #[nodeV n (.slice a n.keys.length cap) (.slice a' n.vals.length cap')] w fun e w' => PutOut w.heap.size (putNode n) e w' ∧ Upd [] w w' := by
  rcases okNode0_cases n with ⟨_, d1, d2⟩ | ⟨h1, _⟩
  rotate_left
  · rw [ho] at h1; cases h1
  obtain ⟨hkv, hl8⟩ := okNode0_parts ho
  have hpl := pairs_len ho
  have hps := fun hp => putNode_some (n := n) ho hp
  have hpn := fun k hk hp => putNode_notp (n := n) (okPairs_not (k := k) hk hp)
  have hpg := fun k h1 h2 h => pairs_get (n := n) (k := k) h1 h2 h
  have hhl := nodeHead_len n
  have hnb : nodeHead n = be n.leaf.toNat 1 ++ be n.keys.length 1 := rfl
  unfold nodeBytes at hps
  generalize putNode n = R at hps hpn ⊢
  generalize nodeHead n = N at hps hhl hnb
  generalize n.pairs = P at hpl hps hpn hpg
  clear ho
  obtain ⟨lf, ks, vs⟩ := n
  simp only at d1 d2 hkv hl8 hpl hpg hnb hb hb'
  unfold nodeV
  simp only
  rw [← hkv] at d1 ⊢
  have HKV := Lib.hid hkv
  clear hkv
  have HPS := Lib.hid hps
  have HPN := Lib.hid hpn
  have HPG := Lib.hid hpg
  have HHL := Lib.hid hhl
  have HNB := Lib.hid hnb
  have HPL := Lib.hid hpl
  have HB := Lib.hid hb
  have HB' := Lib.hid hb'
  clear hps hpn hpg hhl hnb hpl hb hb'
  have hx := heap_alloc_new w (.cells #[.bool lf, .slice a ks.length cap, .slice a' ks.length cap'] 67)
  have hu := (Upd.refl [] w).alloc (.cells #[.bool lf, .slice a ks.length cap, .slice a' ks.length cap'] 67)
  generalize hW : w.alloc (.cells #[.bool lf, .slice a ks.length cap, .slice a' ks.length cap'] 67) = W at hx hu
  have hsz : W.heap.size = w.heap.size + 1 := by rw [← hW]; simp
  have HWE := Lib.hid hW
  have HX := Lib.hid hx
  have HU := Lib.hid hu
  have HSZ := Lib.hid hsz
  have HS : Hid (∀ w', Upd [] W w' → w'.cell? ⟨w.heap.size, 0, none⟩ = some (.bool lf) ∧ w'.cell? ⟨w.heap.size, 1, none⟩ = some (.slice a ks.length cap) ∧ w'.cell? ⟨w.heap.size, 2, none⟩ = some (.slice a' ks.length cap')) := fun w' u => by
    obtain ⟨k, _⟩ := cells_of (u.get hx (by simp))
    exact ⟨k 0, k 1, k 2⟩
  have HPUT := Lib.hid (rput_k (v := .slice none 0 0) (n := lf.toNat) (B := w.heap.size) (l := []) (w := W.drew) 1 1 rfl (IsOut.nil _ _) (by rw [show W.drew.heap.size = W.heap.size from rfl, hsz]; omega) (by decide) (by decide))
  clear hx hu hsz hW
  cases lf
  all_goals
    simp only [Bool.toNat_false, Bool.toNat_true, Int.ofNat_zero, Int.ofNat_one, List.nil_append] at HPUT HNB
    go_enter Tryd.func36, Tryd.ntmps36
    go_wp2_with fail
    rw [HWE.out]
    obtain ⟨_, hE0⟩ := HS.out W.drew (Upd.refl [] W).drew
    first | (go_region_held (fun w' => w'.cell? ⟨w.heap.size, 1, none⟩ = some (.slice a ks.length cap) ∧ w'.cell? ⟨w.heap.size, 2, none⟩ = some (.slice a' ks.length cap')) (first | exact hE0 | exact hE3 | exact hE4) (first
      | (go_at_call 57; (with_reducible refine HPUT.out.mono ?_); rintro e w3 ⟨v3, rfl, g3, m3⟩; have U3 := Lib.hid ((Upd.refl [] W).drew.step m3.upd (fun x hx => by simp [Value.ownBlock] at hx)); have hE3 := (HS.out _ U3.out).2; have G3 := Lib.hid g3; have M3 := Lib.hid m3; clear g3 m3)
      | (go_at_call 57; (with_reducible refine (rput_k 1 1 rfl G3.out (by have := HSZ.out; have := U3.out.size; omega) (by decide) (by simp [be_len])).mono ?_); rintro e w4 ⟨v4, rfl, g4, m4⟩; have M4 := Lib.hid (M3.out.trans m4); have U4 := Lib.hid ((Upd.refl [] W).drew.step M4.out.upd (fun x hx => by simp [Value.ownBlock] at hx)); have hE4 := (HS.out _ U4.out).2; have G4 := Lib.hid g4; clear g4 m4))) | fail
    clear hE0 hE3 hE4 M3 U3 G3
    have G7 := Lib.hid (show IsOut w4 w.heap.size v4 (N ++ pairBytes (P.take 0)) by
      rw [HNB.out, List.take_zero, show pairBytes [] = [] from rfl, List.append_nil]; exact G4.out)
    clear G4
    go_wp2_with fail
    go_loopw [5, 6] (fun v i wr => ∃ k : Nat, k ≤ ks.length ∧ i = .int .i64 k ∧ (∀ j (_ : j < k) (h7 : j < P.length), okPair P[j] = true) ∧ IsOut wr w.heap.size v (N ++ pairBytes (P.take k)) ∧ Mine (.slice none 0 0) W.drew v wr) (fun _ i _ => ks.length - (intOf i).toNat)
    case atStart => exact ⟨0, by omega, rfl, fun j hj => absurd hj (by omega), G7.out, M4.out⟩
    case round =>
      obtain ⟨k, hk, rfl, hin, hV, hM⟩ := hrel
      have HIN := Lib.hid hin
      have HV := Lib.hid hV
      have HM := Lib.hid hM
      have UWr := Lib.hid ((Upd.refl [] W).drew.step hM.upd (fun x hx => by simp [Value.ownBlock] at hx))
      have HUr := Lib.hid (HU.out.trans UWr.out)
      have HZ := Lib.hid (show w.heap.size ≤ wr.heap.size from HUr.out.size)
      obtain ⟨_, q1, q2⟩ := HS.out _ UWr.out
      clear hin hV hM
      by_cases hlt7 : k < ks.length
      · have hkp : k < P.length := by have := HPL.out; omega
        obtain ⟨b, o, rfl, hc⟩ := (HB.out.upd HUr.out (by simp)) k hlt7
        have hkv7 : k < vs.length := by have := HKV.out; omega
        obtain ⟨b', o', rfl, hc'⟩ := (HB'.out.upd HUr.out (by simp)) k hkv7
        have HSS := Lib.hid (pairBytes_take P k hkp)
        have HLN := Lib.hid (show (N ++ pairBytes (P.take k)).length = 2 + 6 * k by rw [List.length_append, HHL.out, pairBytes_len, List.length_take]; omega)
        have HN := Lib.hid (HPN.out k hkp)
        have hpk := HPG.out k hlt7 hkv7 hkp
        have hbw : b' < w.heap.size := HB'.out.lt (by have := HKV.out; omega) b' o' rfl
        have hbw1 : b < w.heap.size := HB.out.lt (by omega) b o rfl
        rw [hpk] at HSS HN
        generalize ks[k] = x at hc HSS HN hpk
        generalize vs[k] = y at hc' HSS HN hpk
        have HPK := Lib.hid hpk
        have HBW := Lib.hid hbw
        have HBW1 := Lib.hid hbw1
        clear hpk hbw hbw1
        unfold okPair at HN
        simp only at HN HSS
        cases hI : inB x 1048575
        · go_wp2_with (go_at_call 56; refine (rin_b _ _ _).mono ?_; rintro e w' ⟨rfl, rfl⟩)
          go_ret2
          rw [HN.out (by rw [hI]; rfl)]
          exact ⟨PutOut.no _ _, HUr.out⟩
        · cases hJ : inB y 1023
          · go_wp2_with (go_at_call 56; refine (rin_b _ _ _).mono ?_; rintro e w' ⟨rfl, rfl⟩)
            go_ret2
            rw [HN.out (by rw [hI, hJ]; rfl)]
            exact ⟨PutOut.no _ _, HUr.out⟩
          · obtain ⟨m, rfl⟩ := Int.eq_ofNat_of_zero_le (inB_true.1 hI).1
            obtain ⟨m', rfl⟩ := Int.eq_ofNat_of_zero_le (inB_true.1 hJ).1
            have hcc : wr.cell? ⟨w.heap.size, 1, none⟩ = some (.slice (some ⟨b, o, none⟩) ks.length cap) ∧ wr.cell? ⟨w.heap.size, 2, none⟩ = some (.slice (some ⟨b', o', none⟩) ks.length cap') ∧ wr.cell? ⟨b, o + k, none⟩ = some (.int .i64 (m : Int)) ∧ wr.cell? ⟨b', o' + k, none⟩ = some (.int .i64 (m' : Int)) := ⟨q1, q2, hc, hc'⟩
            have HOW : Hid (∀ x ∈ Value.ownBlock _ |>.toList, w.heap.size + 1 ≤ x) := fun x hx => by
              rcases HM.out.blk x hx with h | h
              · simp [Value.ownBlock] at h
              · rw [show W.drew.heap.size = W.heap.size from rfl, HSZ.out] at h; exact h
            have hcc' : ∀ S w', Upd S wr w' → (∀ x ∈ S, w.heap.size + 1 ≤ x) → (w'.cell? ⟨w.heap.size, 1, none⟩ = some (.slice (some ⟨b, o, none⟩) ks.length cap) ∧ w'.cell? ⟨w.heap.size, 2, none⟩ = some (.slice (some ⟨b', o', none⟩) ks.length cap') ∧ w'.cell? ⟨b, o + k, none⟩ = some (.int .i64 (m : Int)) ∧ w'.cell? ⟨b', o' + k, none⟩ = some (.int .i64 (m' : Int))) := fun S w' u h => by
              have h1 := HBW.out
              have h2 := HBW1.out
              exact ⟨u.cell q1 (fun hx => by have := h _ hx; simp at this; omega), u.cell q2 (fun hx => by have := h _ hx; simp at this; omega), u.cell hc (fun hx => by have := h _ hx; simp at this; omega), u.cell hc' (fun hx => by have := h _ hx; simp at this; omega)⟩
            have HCC := Lib.hid hcc'
            clear hcc'
            have hki : (k : Int) < (ks.length : Int) := by omega
            go_wp2_with (go_at_call 56; refine (rin_b _ _ _).mono ?_; rintro e w' ⟨rfl, rfl⟩)
            have hE0 := HCC.out _ _ (Upd.refl [] wr).drew (by simp)
            have GD := Lib.hid (HV.out.upd (Upd.refl [] wr).drew (by simp))
            have HZD := Lib.hid (show w.heap.size ≤ wr.drew.heap.size from HZ.out)
            have HLD := Lib.hid (show (N ++ pairBytes (P.take k)).length + 4 ≤ 100000000000000 by rw [HLN.out]; omega)
            have HLE := Lib.hid (show (N ++ pairBytes (P.take k) ++ be m 4).length + 2 ≤ 100000000000000 by rw [List.length_append, be_len, HLN.out]; omega)
            clear hc hc' hcc q1 q2
            first | (go_region_held (fun w' => w'.cell? ⟨w.heap.size, 1, none⟩ = some (.slice (some ⟨b, o, none⟩) ks.length cap) ∧ w'.cell? ⟨w.heap.size, 2, none⟩ = some (.slice (some ⟨b', o', none⟩) ks.length cap') ∧ w'.cell? ⟨b, o + k, none⟩ = some (.int .i64 (m : Int)) ∧ w'.cell? ⟨b', o' + k, none⟩ = some (.int .i64 (m' : Int))) (first | exact hE0 | exact hE8 | exact hE9) (first
              | (go_at_call 57; (with_reducible refine (rput_k 4 4 rfl GD.out HZD.out (by decide) HLD.out).mono ?_); rintro e w8 ⟨v8, rfl, g8, m8⟩; have M8 := Lib.hid m8; have U8 := Lib.hid ((Upd.refl _ wr).drew.trans m8.upd); have hE8 := HCC.out _ _ U8.out HOW.out; have G8 := Lib.hid g8; clear g8 m8)
              | (go_at_call 57; (with_reducible refine (rput_k 2 2 rfl G8.out (Nat.le_trans HZ.out U8.out.size) (by decide) HLE.out).mono ?_); rintro e w9 ⟨v9, rfl, g9, m9⟩; have M9 := Lib.hid (M8.out.trans m9); have U9 := Lib.hid ((Upd.refl _ wr).drew.trans M9.out.upd); have hE9 := HCC.out _ _ U9.out HOW.out; have G9 := Lib.hid g9; clear g9 m9))) | fail
            have H9 := Lib.hid (show IsOut w9 w.heap.size v9 (N ++ pairBytes (P.take (k + 1))) by rw [HSS.out, ← List.append_assoc, ← List.append_assoc]; exact G9.out)
            have HM9 := Lib.hid (HM.out.drew.trans M9.out)
            clear G9 M9 U9 hE0 hE8 hE9 M8 U8 G8 GD HZD
            go_wp2
            go_roundw
            case rel =>
              refine ⟨k + 1, by omega, by go_num, fun j hj h7 => ?_, H9.out, HM9.out⟩
              by_cases e : j = k
              · subst e; rw [HPK.out]; unfold okPair; rw [hI, hJ]; rfl
              · exact HIN.out j (by omega) h7
            case measure => simp [intOf]; omega
      · obtain rfl : k = ks.length := by omega
        have HO := Lib.hid (HPS.out (okPairs_of fun k hk => HIN.out k (by have := HPL.out; omega) hk))
        have hVf := HV.out
        rw [List.take_of_length_le (by rw [HPL.out]; exact Nat.le_refl _)] at hVf
        have HVF := Lib.hid hVf
        have HLE := Lib.hid (show (N ++ pairBytes P).length < 100000000000000 by rw [List.length_append, HHL.out, pairBytes_len, HPL.out]; omega)
        clear hVf
        go_wp2_with (go_at_call 65; refine (filled_any (n := 240) HVF.out HZ.out (by decide) HLE.out).mono ?_; rintro e w9 ⟨v9, rfl, h9, m9⟩; have H9 := Lib.hid h9; have M9 := Lib.hid (HM.out.trans m9); clear h9 m9)
        go_ret2
        rw [HO.out]
        exact ⟨PutOut.yes H9.out.ret, HU.out.trans ((Upd.refl [] W).drew.step M9.out.upd (fun x hx => by simp [Value.ownBlock] at hx))⟩
end Go.Proofs.YtkahpkmofeglgaaDoor
