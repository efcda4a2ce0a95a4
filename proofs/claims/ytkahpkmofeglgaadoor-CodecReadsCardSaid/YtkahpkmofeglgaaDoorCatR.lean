/-
  PROVED HERE: the document's PutCatalogue. Conditions: the pages of the stack and the volumes can be read.
-/
import Derived.Test.YtkahpkmofeglgaaDoorCatW
import Derived.Test.YtkahpkmofeglgaaDoorNodeR
namespace Go.Proofs.YtkahpkmofeglgaaDoor
open Go.RowKit

theorem IsOut.low {w : World} {B : Nat} {v : Value} {l : List Nat} (h : IsOut w B v l) : ∀ x ∈ v.ownBlock.toList, B ≤ x ∧ x < w.heap.size := by
  intro x hx
  obtain ⟨⟨hl, ⟨rfl, h0⟩ | ⟨g, cap, cur, rfl, hg, hb, r⟩⟩ | ⟨g, cs, ty, fr, rfl, hg, hb, r⟩, ok⟩ := h
  · simp [Value.ownBlock] at hx
  · obtain rfl : x = g := by simpa [Value.ownBlock] using hx
    exact ⟨hg, lt_of_block hb⟩
  · obtain rfl : x = g := by simpa [Value.ownBlock] using hx
    exact ⟨hg, lt_of_block hb⟩
set_option maxRecDepth 100000 in
set_option maxHeartbeats 1600000 in
theorem rputCat_no {w : World} {a a' : Option Addr} {cap cap' : Nat} (c : Cat) (ho : okCat0 c = false) (hl : c.vols.length ≤ 9223372036854775807) (hl' : c.stack.length ≤ 9223372036854775807) :
    Calls Tryd.prog 41 #[catV c (.slice a c.vols.length cap) (.slice a' c.stack.length cap')] w fun e w' => PutOut w.heap.size (putCat c) e w' ∧ Upd [] w w' := by
  rw [putCat_not0 ho]
  obtain ⟨nx, st, vs⟩ := c
  unfold catV
  simp only at hl hl' ⊢
  rcases okCat0_cases ⟨nx, st, vs⟩ with ⟨h1, _⟩ | ⟨_, h1⟩
  · rw [ho] at h1; cases h1
  simp only at h1
  clear ho
  rcases h1 with h1 | ⟨h1, h2⟩ | ⟨h1, h2, h3⟩
  all_goals
    go_enter Tryd.func41, Tryd.ntmps41
    go_wp2_with (go_at_call 56; refine (rin_b _ _ _).mono ?_; rintro e w' ⟨rfl, rfl⟩)
    go_ret2
    exact ⟨PutOut.no _ _, (Upd.refl [] w).alloc _⟩
set_option maxRecDepth 100000 in
set_option maxHeartbeats 6400000 in
theorem rputCat_yes {w : World} {a a' : Option Addr} {cap cap' : Nat} {c : Cat} (hb : IsVols w a c.vols) (hb' : IsInts w a' c.stack) (ho : okCat0 c = true) :
    Calls Tryd.prog 41 #[catV c (.slice a c.vols.length cap) (.slice a' c.stack.length cap')] w fun e w' => PutOut w.heap.size (putCat c) e w' ∧ Upd [] w w' := by
  rcases okCat0_cases c with ⟨_, d1, d2, d3⟩ | ⟨h1, _⟩
  rotate_left
  · rw [ho] at h1; cases h1
  obtain ⟨hnx, hl8, hv8⟩ := okCat0_parts ho
  have hps := fun h1 h2 => putCat_some (c := c) ho h1 h2
  have hpn := fun k hk hp => putCat_notp (c := c) (okPages_not (k := k) hk hp)
  have hpv := fun k hk hp => putCat_notv (c := c) (okVols_not (k := k) hk hp)
  unfold catBytes catHead at hps
  have hhl := catHead0_len c
  have hnb : catHead0 c = be c.next.toNat 4 ++ be c.stack.length 1 := rfl
  generalize putCat c = R at hps hpn hpv ⊢
  generalize catHead0 c = N at hps hhl hnb
  clear ho
  obtain ⟨nx, st, vs⟩ := c
  simp only at d1 d2 d3 hnx hl8 hv8 hps hpn hpv hnb hb hb'
  unfold catV
  simp only
  obtain ⟨nx, rfl⟩ := Int.eq_ofNat_of_zero_le (inB_true.1 hnx).1
  rw [hv8] at d3 ⊢
  have HV8 := Lib.hid hv8
  have HPS := Lib.hid hps
  have HPN := Lib.hid hpn
  have HPV := Lib.hid hpv
  have HHL := Lib.hid hhl
  have HNB := Lib.hid (show N = be nx 4 ++ be st.length 1 from hnb)
  have HB := Lib.hid hb
  have HB' := Lib.hid hb'
  have HL8 := Lib.hid hl8
  clear hv8 hps hpn hpv hhl hnb hb hb' hnx
  have hx := heap_alloc_new w (.cells #[.int .i64 nx, .slice a 8 cap, .slice a' st.length cap'] 75)
  have hu := (Upd.refl [] w).alloc (.cells #[.int .i64 nx, .slice a 8 cap, .slice a' st.length cap'] 75)
  generalize hW : w.alloc (.cells #[.int .i64 nx, .slice a 8 cap, .slice a' st.length cap'] 75) = W at hx hu
  have hsz : W.heap.size = w.heap.size + 1 := by rw [← hW]; simp
  have HWE := Lib.hid hW
  have HX := Lib.hid hx
  have HU := Lib.hid hu
  have HSZ := Lib.hid hsz
  have HS : Hid (∀ w', Upd [] W w' → w'.cell? ⟨w.heap.size, 0, none⟩ = some (.int .i64 (nx : Int)) ∧ w'.cell? ⟨w.heap.size, 1, none⟩ = some (.slice a 8 cap) ∧ w'.cell? ⟨w.heap.size, 2, none⟩ = some (.slice a' st.length cap')) := fun w' u => by
    obtain ⟨k, _⟩ := cells_of (u.get hx (by simp))
    exact ⟨k 0, k 1, k 2⟩
  have HPUT := Lib.hid (rput_k (v := .slice none 0 0) (n := nx) (B := w.heap.size) (l := []) (w := W.drew) 4 4 rfl (IsOut.nil _ _) (by rw [show W.drew.heap.size = W.heap.size from rfl, hsz]; omega) (by decide) (by decide))
  clear hx hu hsz hW
  go_enter Tryd.func41, Tryd.ntmps41
  go_wp2_with (go_at_call 56; refine (rin_b _ _ _).mono ?_; rintro e w' ⟨rfl, rfl⟩)
  rw [HWE.out]
  have hE0 := HS.out W.drew (Upd.refl [] W).drew
  first | (go_region_held (fun w' => w'.cell? ⟨w.heap.size, 0, none⟩ = some (.int .i64 (nx : Int)) ∧ w'.cell? ⟨w.heap.size, 1, none⟩ = some (.slice a 8 cap) ∧ w'.cell? ⟨w.heap.size, 2, none⟩ = some (.slice a' st.length cap')) (first | exact hE0 | exact hE3 | exact hE4) (first
    | (go_at_call 57; (with_reducible refine HPUT.out.mono ?_); rintro e w3 ⟨v3, rfl, g3, m3⟩; have U3 := Lib.hid ((Upd.refl [] W).drew.step m3.upd (fun x hx => by simp [Value.ownBlock] at hx)); have hE3 := HS.out _ U3.out; have G3 := Lib.hid g3; have M3 := Lib.hid m3; clear g3 m3)
    | (go_at_call 57; (with_reducible refine (rput_k 1 1 rfl G3.out (by have := HSZ.out; have := U3.out.size; omega) (by decide) (by simp [be_len])).mono ?_); rintro e w4 ⟨v4, rfl, g4, m4⟩; have M4 := Lib.hid (M3.out.trans m4); have U4 := Lib.hid ((Upd.refl [] W).drew.step M4.out.upd (fun x hx => by simp [Value.ownBlock] at hx)); have hE4 := HS.out _ U4.out; have G4 := Lib.hid g4; clear g4 m4))) | fail
  clear hE0 hE3 hE4 M3 U3 G3
  have G7 := Lib.hid (show IsOut w4 w.heap.size v4 (N ++ countBytes (st.take 0)) by
    rw [HNB.out, List.take_zero, show countBytes [] = [] from rfl, List.append_nil]; exact G4.out)
  clear G4
  go_wp2_with fail
  go_loopw [4, 5] (fun v i wr => ∃ k : Nat, k ≤ st.length ∧ i = .int .i64 k ∧ (∀ j (_ : j < k) (h7 : j < st.length), inB st[j] 1023 = true) ∧ IsOut wr w.heap.size v (N ++ countBytes (st.take k)) ∧ Mine (.slice none 0 0) W.drew v wr) (fun _ i _ => st.length - (intOf i).toNat)
  case atStart => exact ⟨0, by omega, rfl, fun j hj => absurd hj (by omega), G7.out, M4.out⟩
  case round =>
    obtain ⟨k, hk, rfl, hin, hV, hM⟩ := hrel
    have HIN := Lib.hid hin
    have HV := Lib.hid hV
    have HM := Lib.hid hM
    have UWr := Lib.hid ((Upd.refl [] W).drew.step hM.upd (fun x hx => by simp [Value.ownBlock] at hx))
    have HUr := Lib.hid (HU.out.trans UWr.out)
    have HZ := Lib.hid (show w.heap.size ≤ wr.heap.size from HUr.out.size)
    obtain ⟨q0, q1, q2⟩ := HS.out _ UWr.out
    clear hin hV hM
    by_cases hlt7 : k < st.length
    · obtain ⟨b, o, rfl, hc⟩ := (HB'.out.upd HUr.out (by simp)) k hlt7
      have HSS := Lib.hid (countBytes_take st k hlt7)
      have HLN := Lib.hid (show (N ++ countBytes (st.take k)).length + 2 ≤ 100000000000000 by rw [List.length_append, HHL.out, countBytes_len, List.length_take]; omega)
      have HN := Lib.hid (HPN.out k hlt7)
      generalize hx : st[k] = x at hc HSS HN
      have HXE := Lib.hid hx
      clear hx
      cases hI : inB x 1023
      · go_wp2_with (go_at_call 56; refine (rin_b _ _ _).mono ?_; rintro e w' ⟨rfl, rfl⟩)
        go_ret2
        rw [HN.out hI]
        exact ⟨PutOut.no _ _, HUr.out⟩
      · obtain ⟨m, rfl⟩ := Int.eq_ofNat_of_zero_le (inB_true.1 hI).1
        go_wp2_with (first | (go_at_call 56; refine (rin_b _ _ _).mono ?_; rintro e w' ⟨rfl, rfl⟩) | (go_at_call 57; refine (rput_k 2 2 rfl HV.out HZ.out (by decide) HLN.out).mono ?_; rintro e w8 ⟨v8, rfl, h8, m8⟩; have H8 := Lib.hid h8; have M8 := Lib.hid m8; clear h8 m8))
        go_roundw
        case rel =>
          refine ⟨k + 1, by omega, by go_num, fun j hj h7 => ?_, by rw [HSS.out, ← List.append_assoc]; exact H8.out, HM.out.trans M8.out⟩
          by_cases e : j = k
          · subst e; rw [HXE.out]; exact hI
          · exact HIN.out j (by omega) h7
        case measure => simp [intOf]; omega
    · obtain rfl : k = st.length := by omega
      have HOP := Lib.hid (okPages_of (l := st) fun k hk => HIN.out k (by omega) hk)
      have hVf := HV.out
      rw [List.take_length] at hVf
      have hhd : (N ++ countBytes st).length ≤ 21 := by rw [List.length_append, HHL.out, countBytes_len]; have := HL8.out; omega
      have HVF := Lib.hid hVf
      have HPL := Lib.hid (show (pad (N ++ countBytes st) 21).length = 21 from pad_len hhd)
      have HLE := Lib.hid (show (N ++ countBytes st).length < 100000000000000 by omega)
      have hfil := filled_any (n := 21) HVF.out HZ.out (by decide) HLE.out
      generalize pad (N ++ countBytes st) 21 = M at hfil HPL HPS
      have HFIL := Lib.hid hfil
      clear hVf hfil hhd HIN HPN
      go_wp2_with fail
      refine HFIL.out.mono ?_
      rintro e w4 ⟨v4, rfl, h4, m4⟩
      have M4 := Lib.hid (HM.out.trans m4)
      have U4 := Lib.hid ((Upd.refl [] W).drew.step M4.out.upd (fun x hx => by simp [Value.ownBlock] at hx))
      have G4 := Lib.hid (show IsOut w4 w.heap.size v4 (M ++ volsBytes (vs.take 0)) by rw [List.take_zero, show volsBytes [] = [] from rfl, List.append_nil]; exact h4)
      clear h4 m4 HM HV HVF UWr HUr HZ HFIL q0 q1 q2
      go_wp2_with fail
      go_loopw [4, 6] (fun v i wr => ∃ k : Nat, k ≤ 8 ∧ i = .int .i64 k ∧ (∀ j (_ : j < k) (h7 : j < vs.length), okVol vs[j] = true) ∧ IsOut wr w.heap.size v (M ++ volsBytes (vs.take k)) ∧ Mine (.slice none 0 0) W.drew v wr) (fun _ i _ => 8 - (intOf i).toNat)
      case atStart => exact ⟨0, by omega, rfl, fun j hj => absurd hj (by omega), G4.out, M4.out⟩
      case round =>
        obtain ⟨k, hk, rfl, hin, hV, hM⟩ := hrel
        have HIN := Lib.hid hin
        have HV := Lib.hid hV
        have HM := Lib.hid hM
        have HOWN := Lib.hid hV.low
        have UWr := Lib.hid ((Upd.refl [] W).drew.step hM.upd (fun x hx => by simp [Value.ownBlock] at hx))
        have HUr := Lib.hid (HU.out.trans UWr.out)
        have HZ := Lib.hid (show w.heap.size ≤ wr.heap.size from HUr.out.size)
        obtain ⟨q0, q1, q2⟩ := HS.out _ UWr.out
        clear hin hV hM
        by_cases hlt7 : k < 8
        · have hkv : k < vs.length := by have := HV8.out; omega
          obtain ⟨b, o, rfl, hc⟩ := (HB.out.upd HUr.out (by simp)) k hkv
          have HSS := Lib.hid (volsBytes_take vs k hkv)
          have HL := Lib.hid (show M.length + (volsBytes (vs.take k)).length = 21 + 19 * k by rw [HPL.out, volsBytes_len, List.length_take]; have := HV8.out; omega)
          have HN := Lib.hid (HPV.out k hkv)
          generalize hx : vs[k] = x at hc HSS HN
          have HXE := Lib.hid hx
          clear hx
          have hov : okVol x = true → ∃ i s z q r m : Nat, x = ⟨i, s, z, q, r, m⟩ := by
            intro h
            obtain ⟨i, s, z, q, r, m⟩ := x
            unfold okVol at h
            simp only [Bool.and_eq_true, inB_true] at h
            obtain ⟨h1, h2, h3, h4, h5, h6⟩ := h
            exact ⟨i.toNat, s.toNat, z.toNat, q.toNat, r.toNat, m.toNat, by congr 1 <;> omega⟩
          have HOV := Lib.hid hov
          clear hov
          cases hI : okVol x
          · obtain ⟨i, s, z, q, r, m⟩ := x
            have HA := Lib.hid (heap_alloc_new wr (.cells #[.int .i64 i, .int .i64 s, .int .i64 z, .int .i64 q, .int .i64 r, .int .i64 m] 129))
            have HVO := Lib.hid (rvolume_any (w := wr.alloc (.cells #[.int .i64 i, .int .i64 s, .int .i64 z, .int .i64 q, .int .i64 r, .int .i64 m] 129)) ⟨i, s, z, q, r, m⟩)
            rw [hI] at HVO
            unfold Vol.vals at hc
            simp only at hc
            have HCC := Lib.hid hc
            clear hc
            go_wp2_with (first
              | (refine wpList_load_cells rfl 129 (.tmp 61) rfl b (o + k * 6) 6 rfl [.int .i64 i, .int .i64 s, .int .i64 z, .int .i64 q, .int .i64 r, .int .i64 m] _ HCC.out Tryd.underlying129 rfl infoVol rfl ?_)
              | (refine wpList_load_all rfl 129 (.tmp 7) rfl wr.heap.size 6 rfl _ _ _ _ HA.out Tryd.underlying129 rfl infoVol rfl ?_)
              | (go_at_call 68; refine HVO.out.mono ?_; rintro e w6 ⟨rfl, u6⟩; have U6 := Lib.hid u6; clear u6))
            go_ret2
            rw [HN.out hI]
            exact ⟨PutOut.no _ _, (HUr.out.alloc _).trans U6.out⟩
          · obtain ⟨i, s, z, q, r, m, rfl⟩ := HOV.out hI
            have HA := Lib.hid (heap_alloc_new wr (.cells #[.int .i64 i, .int .i64 s, .int .i64 z, .int .i64 q, .int .i64 r, .int .i64 m] 129))
            have HVO := Lib.hid (rvolume_any (w := wr.alloc (.cells #[.int .i64 i, .int .i64 s, .int .i64 z, .int .i64 q, .int .i64 r, .int .i64 m] 129)) ⟨i, s, z, q, r, m⟩)
            rw [hI] at HVO
            unfold Vol.vals at hc
            simp only at hc
            have HCC := Lib.hid hc
            have hce : ∀ w' : World, w'.heap[wr.heap.size]? = some (.cells #[.int .i64 (i : Int), .int .i64 (s : Int), .int .i64 (z : Int), .int .i64 (q : Int), .int .i64 (r : Int), .int .i64 (m : Int)] 129 (0, 0)) → w'.cell? ⟨wr.heap.size, 0, none⟩ = some (.int .i64 (i : Int)) ∧ w'.cell? ⟨wr.heap.size, 1, none⟩ = some (.int .i64 (s : Int)) ∧ w'.cell? ⟨wr.heap.size, 2, none⟩ = some (.int .i64 (z : Int)) ∧ w'.cell? ⟨wr.heap.size, 3, none⟩ = some (.int .i64 (q : Int)) ∧ w'.cell? ⟨wr.heap.size, 4, none⟩ = some (.int .i64 (r : Int)) ∧ w'.cell? ⟨wr.heap.size, 5, none⟩ = some (.int .i64 (m : Int)) := fun w' hx => by
              obtain ⟨k, _⟩ := cells_of hx
              exact ⟨k 0, k 1, k 2, k 3, k 4, k 5⟩
            have HCV := Lib.hid hce
            clear hc hce
            go_wp2_with (first
              | (refine wpList_load_cells rfl 129 (.tmp 61) rfl b (o + k * 6) 6 rfl [.int .i64 i, .int .i64 s, .int .i64 z, .int .i64 q, .int .i64 r, .int .i64 m] _ HCC.out Tryd.underlying129 rfl infoVol rfl ?_)
              | (refine wpList_load_all rfl 129 (.tmp 7) rfl wr.heap.size 6 rfl _ _ _ _ HA.out Tryd.underlying129 rfl infoVol rfl ?_)
              | fail)
            refine HVO.out.mono ?_
            rintro e y0 ⟨rfl, u6⟩
            have hu6 := ((Upd.refl [] wr).alloc (.cells #[.int .i64 i, .int .i64 s, .int .i64 z, .int .i64 q, .int .i64 r, .int .i64 m] 129)).trans u6
            have HYB := Lib.hid (u6.get HA.out (by simp))
            have hcu : ∀ S w', Upd S y0 w' → (∀ x ∈ S, x < wr.heap.size) → w'.cell? ⟨wr.heap.size, 0, none⟩ = some (.int .i64 (i : Int)) ∧ w'.cell? ⟨wr.heap.size, 1, none⟩ = some (.int .i64 (s : Int)) ∧ w'.cell? ⟨wr.heap.size, 2, none⟩ = some (.int .i64 (z : Int)) ∧ w'.cell? ⟨wr.heap.size, 3, none⟩ = some (.int .i64 (q : Int)) ∧ w'.cell? ⟨wr.heap.size, 4, none⟩ = some (.int .i64 (r : Int)) ∧ w'.cell? ⟨wr.heap.size, 5, none⟩ = some (.int .i64 (m : Int)) := fun S w' u h => HCV.out _ (u.get HYB.out (fun hx => Nat.lt_irrefl _ (h _ hx)))
            have HCU := Lib.hid hcu
            have HOL : Hid (∀ x ∈ u4.ownBlock.toList, x < wr.heap.size) := fun x hx => (HOWN.out x hx).2
            have K0 := Lib.hid ((HV.out.upd hu6 (by simp)).upd (Upd.refl [] y0).drew (by simp))
            have HZ0 := Lib.hid (show w.heap.size ≤ y0.drew.heap.size from Nat.le_trans HZ.out hu6.size)
            have HY6 := Lib.hid hu6
            have HLE := Lib.hid (show (M ++ volsBytes (vs.take k)).length ≤ 99999999999999 by rw [List.length_append, HL.out]; omega)
            clear u6 hu6 hcu HCC HCV HVO HA
            go_wp2_with fail
            have HLE0 := Lib.hid (show (M ++ volsBytes (vs.take k)).length + 4 ≤ 100000000000000 by simp only [List.length_append]; have := HL.out; omega)
            have HLE1 := Lib.hid (show (M ++ volsBytes (vs.take k) ++ be i 4).length + 1 ≤ 100000000000000 by simp only [List.length_append, be_len]; have := HL.out; omega)
            have HLE2 := Lib.hid (show (M ++ volsBytes (vs.take k) ++ be i 4 ++ be s 1).length + 4 ≤ 100000000000000 by simp only [List.length_append, be_len]; have := HL.out; omega)
            have HLE3 := Lib.hid (show (M ++ volsBytes (vs.take k) ++ be i 4 ++ be s 1 ++ be z 4).length + 4 ≤ 100000000000000 by simp only [List.length_append, be_len]; have := HL.out; omega)
            have HLE4 := Lib.hid (show (M ++ volsBytes (vs.take k) ++ be i 4 ++ be s 1 ++ be z 4 ++ be q 4).length + 2 ≤ 100000000000000 by simp only [List.length_append, be_len]; have := HL.out; omega)
            have HLE5 := Lib.hid (show (M ++ volsBytes (vs.take k) ++ be i 4 ++ be s 1 ++ be z 4 ++ be q 4 ++ be r 2).length + 4 ≤ 100000000000000 by simp only [List.length_append, be_len]; have := HL.out; omega)
            have hE0 := HCU.out _ _ (Upd.refl [] y0).drew (by simp)
            first | (go_region_held (fun w' => w'.cell? ⟨wr.heap.size, 0, none⟩ = some (.int .i64 (i : Int)) ∧ w'.cell? ⟨wr.heap.size, 1, none⟩ = some (.int .i64 (s : Int)) ∧ w'.cell? ⟨wr.heap.size, 2, none⟩ = some (.int .i64 (z : Int)) ∧ w'.cell? ⟨wr.heap.size, 3, none⟩ = some (.int .i64 (q : Int)) ∧ w'.cell? ⟨wr.heap.size, 4, none⟩ = some (.int .i64 (r : Int)) ∧ w'.cell? ⟨wr.heap.size, 5, none⟩ = some (.int .i64 (m : Int))) (first | exact hE0 | exact hE1 | exact hE2 | exact hE3) (first
              | (go_at_call 57; (with_reducible refine (rput_k (n := i) 4 4 rfl K0.out HZ0.out (by decide) HLE0.out).mono ?_); rintro e y1 ⟨v1, rfl, g8, m8⟩; have N1 := Lib.hid m8; have V1 := Lib.hid N1.out.upd; have hE1 := HCU.out _ _ ((Upd.refl _ y0).drew.trans V1.out) HOL.out; have K1 := Lib.hid g8; clear g8 m8)
              | (go_at_call 57; (with_reducible refine (rput_k (n := s) 1 1 rfl K1.out (Nat.le_trans HZ0.out V1.out.size) (by decide) HLE1.out).mono ?_); rintro e y2 ⟨v2, rfl, g8, m8⟩; have N2 := Lib.hid (N1.out.trans m8); have V2 := Lib.hid N2.out.upd; have hE2 := HCU.out _ _ ((Upd.refl _ y0).drew.trans V2.out) HOL.out; have K2 := Lib.hid g8; clear g8 m8)
              | (go_at_call 57; (with_reducible refine (rput_k (n := z) 4 4 rfl K2.out (Nat.le_trans HZ0.out V2.out.size) (by decide) HLE2.out).mono ?_); rintro e y3 ⟨v3, rfl, g8, m8⟩; have N3 := Lib.hid (N2.out.trans m8); have V3 := Lib.hid N3.out.upd; have hE3 := HCU.out _ _ ((Upd.refl _ y0).drew.trans V3.out) HOL.out; have K3 := Lib.hid g8; clear g8 m8))) | fail
            clear hE0 hE1 hE2 K0 K1 K2 V1 V2 N1 N2
            have K3d := Lib.hid (K3.out.upd (Upd.refl [] y3).drew (by simp))
            have N3d := Lib.hid N3.out.drew
            have HZ3 := Lib.hid (show w.heap.size ≤ y3.drew.heap.size from Nat.le_trans HZ0.out V3.out.size)
            have HB3 : Hid (∀ x ∈ v3.ownBlock.toList, x ∈ u4.ownBlock.toList ∨ y0.heap.size ≤ x) := N3.out.blk
            have hE3d := HCU.out _ _ ((Upd.refl _ y0).drew.trans V3.out.drew) HOL.out
            clear hE3
            go_wp2_with fail
            first | (go_region_held (fun w' => w'.cell? ⟨wr.heap.size, 0, none⟩ = some (.int .i64 (i : Int)) ∧ w'.cell? ⟨wr.heap.size, 1, none⟩ = some (.int .i64 (s : Int)) ∧ w'.cell? ⟨wr.heap.size, 2, none⟩ = some (.int .i64 (z : Int)) ∧ w'.cell? ⟨wr.heap.size, 3, none⟩ = some (.int .i64 (q : Int)) ∧ w'.cell? ⟨wr.heap.size, 4, none⟩ = some (.int .i64 (r : Int)) ∧ w'.cell? ⟨wr.heap.size, 5, none⟩ = some (.int .i64 (m : Int))) (first | exact hE3d | exact hE4 | exact hE5 | exact hE6) (first
              | (go_at_call 57; (with_reducible refine (rput_k (n := q) 4 4 rfl K3d.out HZ3.out (by decide) HLE3.out).mono ?_); rintro e y4 ⟨v4, rfl, g8, m8⟩; have N4 := Lib.hid m8; have V4 := Lib.hid N4.out.upd; have hE4 := HCU.out _ _ (((Upd.refl _ y0).drew.trans V3.out).step (Upd.refl _ _ |>.drew.trans V4.out) HB3.out) HOL.out; have K4 := Lib.hid g8; clear g8 m8)
              | (go_at_call 57; (with_reducible refine (rput_k (n := r) 2 2 rfl K4.out (Nat.le_trans HZ3.out V4.out.size) (by decide) HLE4.out).mono ?_); rintro e y5 ⟨v5, rfl, g8, m8⟩; have N5 := Lib.hid (N4.out.trans m8); have V5 := Lib.hid N5.out.upd; have hE5 := HCU.out _ _ (((Upd.refl _ y0).drew.trans V3.out).step (Upd.refl _ _ |>.drew.trans V5.out) HB3.out) HOL.out; have K5 := Lib.hid g8; clear g8 m8)
              | (go_at_call 57; (with_reducible refine (rput_k (n := m) 4 4 rfl K5.out (Nat.le_trans HZ3.out V5.out.size) (by decide) HLE5.out).mono ?_); rintro e y6 ⟨v6, rfl, g8, m8⟩; have N6 := Lib.hid (N5.out.trans m8); have V6 := Lib.hid N6.out.upd; have hE6 := HCU.out _ _ (((Upd.refl _ y0).drew.trans V3.out).step (Upd.refl _ _ |>.drew.trans V6.out) HB3.out) HOL.out; have K6 := Lib.hid g8; clear g8 m8))) | fail
            have HM6 := Lib.hid ((HM.out.step HY6.out (by simp)).drew.trans (N3d.out.trans N6.out))
            have H6 := Lib.hid (show IsOut y6 w.heap.size v6 (M ++ volsBytes (vs.take (k + 1))) by
              have h := K6.out
              rw [HSS.out]
              unfold volBytes
              simp only [List.append_assoc] at h ⊢
              exact h)
            clear hE3d hE4 hE5 hE6 K3 K3d K4 K5 K6 V3 V4 V5 V6 N3 N3d N4 N5 N6 HB3
            go_wp2
            go_roundw
            case rel =>
              refine ⟨k + 1, by omega, by go_num, fun j hj h7 => ?_, H6.out, HM6.out⟩
              by_cases e : j = k
              · subst e; rw [HXE.out]; exact hI
              · exact HIN.out j (by omega) h7
            case measure => simp [intOf]; omega
        · obtain rfl : k = 8 := by omega
          have HO := Lib.hid (HPS.out HOP.out (okVols_of fun k hk => HIN.out k (by have := HV8.out; omega) hk))
          have hVf := HV.out
          rw [List.take_of_length_le (by rw [HV8.out]; exact Nat.le_refl _)] at hVf
          have HVF := Lib.hid hVf
          have HLE := Lib.hid (show (M ++ volsBytes vs).length < 100000000000000 by rw [List.length_append, HPL.out, volsBytes_len, HV8.out]; decide)
          clear hVf
          go_wp2_with (go_at_call 65; refine (filled_any (n := 240) HVF.out HZ.out (by decide) HLE.out).mono ?_; rintro e w9 ⟨v9, rfl, h9, m9⟩; have H9 := Lib.hid h9; have M9 := Lib.hid (HM.out.trans m9); clear h9 m9)
          go_ret2
          rw [HO.out]
          exact ⟨PutOut.yes H9.out.ret, HU.out.trans ((Upd.refl [] W).drew.step M9.out.upd (fun x hx => by simp [Value.ownBlock] at hx))⟩
end Go.Proofs.YtkahpkmofeglgaaDoor
