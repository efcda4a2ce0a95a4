/-
  PROVED HERE: AllocUndo returns true, whatever it is given. Conditions: the table of math/bits lies as its text lays it; both scripts are scripts.
-/
import Derived.Test.YtmecndmoobddkaaDoorAllocI
import Derived.Deep.RegionHeld3
namespace Go.Proofs.YtmecndmoobddkaaDoor
open Go.RowKit

/-- Behind a Settle, till an Undo: nothing is free that was not, and what is settled stays. -/
def Since (s0 s : St) : Prop := s.n = s0.n ∧ s.SF = s0.F ∧ s.SD = s0.D ∧ ∀ q, s.F.testBit q = true → s0.F.testBit q = true
theorem Since.refl (s : St) (h : s.SF = s.F) (h2 : s.SD = s.D) : Since s s := ⟨rfl, h, h2, fun _ h => h⟩
theorem Since.mark {s0 s : St} (h : Since s0 s) (p : Int) : Since s0 (s.mark p) := by
  unfold St.mark
  split
  · exact ⟨h.1, h.2.1, h.2.2.1, fun q hq => h.2.2.2 q (by rw [clr_bit] at hq; simp at hq; exact hq.1)⟩
  · exact h
theorem Since.take {s0 s : St} (h : Since s0 s) : Since s0 s.take := by
  unfold St.take; split
  · exact h.mark _
  · exact h
theorem Since.drop {s0 s : St} (h : Since s0 s) (p : Int) : Since s0 (s.drop p) := by
  unfold St.drop; split
  · exact h
  · exact h
theorem Since.undo {s0 s : St} (h : Since s0 s) : Since s0 s.undo := ⟨h.1, h.2.1, h.2.2.1, fun q hq => by
  have : s.undo.F = s0.F := h.2.1
  rw [this] at hq; exact hq⟩
theorem Since.back {s0 s : St} (h : Since s0 s) (h0 : s0.SF = s0.F) (h1 : s0.SD = s0.D) : s.undo = s0 := by
  obtain ⟨n, F, D, SF, SD⟩ := s
  obtain ⟨n', F', D', SF', SD'⟩ := s0
  simp only [Since] at h
  simp only at h0 h1
  obtain ⟨a, b, c, _⟩ := h
  subst a; subst b; subst c; subst h0; subst h1
  rfl
theorem Since.free {s0 s : St} (h : Since s0 s) {p : Int} (hp : s.isFree p = true) : s0.isFree p = true := by
  simp only [St.isFree, St.there, Bool.and_eq_true, decide_eq_true_eq] at hp ⊢
  rw [← h.1]
  exact ⟨hp.1, h.2.2.2 _ hp.2⟩
theorem Since.low {s0 s : St} (h : Since s0 s) {p : Nat} (hp : s.low = some p) : s0.isFree (p : Int) = true := by
  refine h.free ?_
  unfold St.low at hp
  rw [List.find?_range_eq_some] at hp
  have hm := hp.2.1
  simp at hm
  simp only [St.isFree, St.there, Int.toNat_natCast, hp.1, Bool.and_true, decide_eq_true_eq]
  omega
theorem St.settle_SF (s : St) : s.settle.SF = s.settle.F := rfl
theorem St.settle_SD (s : St) : s.settle.SD = s.settle.D := rfl

theorem IsEnts.stays {w w' : World} {B : Nat} {v : Value} {l : List (Nat × Nat)} (h : IsEnts w B v l) (u : Upd [] w w') : IsEnts w' B v l := by
  obtain ⟨hlen, h2⟩ := h
  refine ⟨hlen, ?_⟩
  rcases h2 with h2 | ⟨g, cap, cur, hv, hg, hb, r⟩
  · exact .inl h2
  · exact .inr ⟨g, cap, cur, hv, hg, u.get hb (by simp), r⟩
/-- A list that was made later lies elsewhere. -/
theorem IsEnts.apart {w w' : World} {B : Nat} {v v' : Value} {l l' : List (Nat × Nat)} (h : IsEnts w B v l) (h' : IsEnts w' w.heap.size v' l') : v.ownBlock ≠ v'.ownBlock ∨ l = [] := by
  obtain ⟨hlen, h2⟩ := h
  rcases h2 with ⟨_, h0⟩ | ⟨g, cap, cur, rfl, hg, hb, r⟩
  · exact .inr (List.length_eq_zero_iff.1 h0)
  · refine .inl fun e => ?_
    have := ownsRow_block h' g (by rw [← e]; simp [Value.ownBlock])
    have := lt_of_block hb
    omega
set_option maxHeartbeats 800000 in
set_option maxRecDepth 100000 in
theorem undo_no {n : Int} {v v2 : Value} {w : World} (hT : Tab w) (h : n < 1 ∨ 1024 < n) : Calls Tryd.prog 6 #[.int .i64 n, v, v2] w fun e w' => e = .returned (.bool true) ∧ Upd [] w w' := by
  have HT := Lib.hid hT
  have HN := Lib.hid h
  clear hT
  rcases h with h | h
  · go_enter Tryd.func6, Tryd.ntmps6
    go_wp2_with fail
    refine (new_no HN.out).mono ?_
    rintro e w1 ⟨rfl, rfl⟩
    go_wp2_with fail
    refine (new_no HN.out).mono ?_
    rintro e w2 ⟨rfl, rfl⟩
    go_wp2_with fail
    refine (known_any HT.out).mono ?_
    rintro e w3 ⟨rfl, u⟩
    go_wp2
    go_ret
    exact ⟨rfl, u⟩
  · have h' : ¬ n < 1 := by omega
    go_enter Tryd.func6, Tryd.ntmps6
    go_wp2_with fail
    refine (new_no HN.out).mono ?_
    rintro e w1 ⟨rfl, rfl⟩
    go_wp2_with fail
    refine (new_no HN.out).mono ?_
    rintro e w2 ⟨rfl, rfl⟩
    go_wp2_with fail
    refine (known_any HT.out).mono ?_
    rintro e w3 ⟨rfl, u⟩
    go_wp2
    go_ret
    exact ⟨rfl, u⟩

theorem IsOps.cells {w : World} {a : Option Addr} {n cap : Nat} {l : List (Int × Int)} (h : IsOps w (.slice a n cap) l) : n = l.length ∧ l.length ≤ 9223372036854775807 ∧
    ∀ i (h : i < l.length), ∃ b o, a = some ⟨b, o, none⟩ ∧ w.cell? ⟨b, o + i * 2, none⟩ = some (.int .i64 l[i].1) ∧ w.cell? ⟨b, o + i * 2 + 1, none⟩ = some (.int .i64 l[i].2) := by
  obtain ⟨a', c', hv, hl, hc⟩ := h
  simp only [Value.slice.injEq] at hv
  obtain ⟨rfl, rfl, rfl⟩ := hv
  exact ⟨rfl, hl, hc⟩

theorem page_stays {w wr w8 : World} {b p : Nat} {o : Nat} {v : Value} (h : w.cell? ⟨b, o, none⟩ = some v) (u : Upd [] w wr) (u8 : Upd [p] wr w8) (hb : w.heap.size ≤ p) : w8.cell? ⟨b, o, none⟩ = some v := by
  rw [← h]
  exact World.cell?_of_block ((u.into u8 hb).block b (World.block_lt_of_cell? _ _ h) (by simp))
set_option maxHeartbeats 1600000 in
set_option maxRecDepth 100000 in
theorem undo_yes {n : Nat} {v v2 : Value} {l l2 : List (Int × Int)} {w : World} (hT : Tab w) (h1 : 1 ≤ n) (h2 : n ≤ 1024) (hs : IsOps w v l) (hs2 : IsOps w v2 l2) :
    Calls Tryd.prog 6 #[.int .i64 n, v, v2] w fun e w' => e = .returned (.bool true) ∧ Upd [] w w' := by
  have HT := Lib.hid hT
  have hlt := hT.lt
  obtain ⟨a, cap, rfl, _⟩ := id hs
  obtain ⟨a2, cap2, rfl, _⟩ := id hs2
  obtain ⟨_, hl, hcs⟩ := hs.cells
  obtain ⟨_, hl2, hcs2⟩ := hs2.cells
  have HCS := Lib.hid hcs
  have HCS2 := Lib.hid hcs2
  clear hT hcs hcs2 hs hs2
  have h1' : ¬ ((n : Int) < 1) := by omega
  have h2' : ¬ (1024 < (n : Int)) := by omega
  go_enter Tryd.func6, Tryd.ntmps6
  go_wp2_with fail
  refine (new_yes h1 h2).mono ?_
  rintro e w1 ⟨rfl, hA1, u1⟩
  have hb1 := lt_of_block hA1.1
  have H1 := Lib.hid hA1
  have U1 := Lib.hid u1
  generalize hb : w.heap.size = b at *
  have HB := Lib.hid hb
  have HT1 := Lib.hid (HT.out.upd u1 (by simp))
  clear hA1 u1 hb
  go_wp2_with fail
  refine (new_yes h1 h2).mono ?_
  rintro e w2 ⟨rfl, hA2, u2⟩
  have hb2 := lt_of_block hA2.1
  have H2 := Lib.hid (H1.out.upd u2 (by simp))
  have H2' := Lib.hid hA2
  have U2 := Lib.hid (U1.out.step u2 (by simp))
  generalize hbb : w1.heap.size = b2 at *
  have HBB := Lib.hid hbb
  have HT2 := Lib.hid (HT1.out.upd u2 (by simp))
  clear hA2 u2 hbb
  go_wp2_with fail
  refine (known_any HT2.out).mono ?_
  rintro e w3 ⟨rfl, u3⟩
  have H3 := Lib.hid (H2.out.upd u3 (by simp))
  have H3' := Lib.hid (H2'.out.upd u3 (by simp))
  have U3 := Lib.hid (U2.out.step u3 (by simp))
  clear u3
  have HBle : Hid (w.heap.size ≤ b) := Nat.le_of_eq HB.out
  have HBle2 : Hid (w.heap.size ≤ b2) := by have := HB.out; exact (show w.heap.size ≤ b2 by omega)
  have HN12 : Hid (b ∉ [b2]) := by have h : b ∉ [b2] := by { rw [List.mem_singleton]; omega }; exact h
  have HN21 : Hid (b2 ∉ [b]) := by have h : b2 ∉ [b] := by { rw [List.mem_singleton]; omega }; exact h
  go_wp2_with fail
  go_loopw [9] (fun i wr => ∃ k : Nat, k ≤ l.length ∧ i = .int .i64 k ∧ IsA wr b ((St.new n).plays (l.take k)) ∧ IsA wr b2 ((St.new n).plays (l.take k)) ∧ Upd [] w wr) (fun i _ => l.length - (intOf i).toNat)
  case atStart => exact ⟨0, by omega, rfl, H3.out, H3'.out, U3.out⟩
  case round =>
    obtain ⟨k, hk, rfl, hA, hA', hU⟩ := hrel
    have HA := Lib.hid hA
    have HA' := Lib.hid hA'
    have HU := Lib.hid hU
    have HTr := Lib.hid (HT.out.upd hU (by simp))
    clear hA hA' hU
    by_cases hltk : k < l.length
    · obtain ⟨b0, o, rfl, hc1, hc2⟩ := HCS.out k hltk
      have hbl := World.block_lt_of_cell? _ _ hc1
      have HC1 := Lib.hid hc1
      have HC2 := Lib.hid hc2
      have hr1 : wr.cell? ⟨b0, o + k * 2, none⟩ = some (.int .i64 l[k].1) := by rw [← hc1]; exact World.cell?_of_block (HU.out.block b0 hbl (by simp))
      have hr2 : wr.cell? ⟨b0, o + k * 2 + 1, none⟩ = some (.int .i64 l[k].2) := by rw [← hc2]; exact World.cell?_of_block (HU.out.block b0 hbl (by simp))
      have HP := Lib.hid ((St.new n).plays_snoc l k hltk)
      generalize l[k] = x at *
      obtain ⟨kd, pg⟩ := x
      clear hc1 hc2
      go_wp2_with fail
      refine (play_any HA.out HTr.out).mono ?_
      rintro e w4 ⟨rfl, h4, u4⟩
      have H4 := Lib.hid h4
      have H4' := Lib.hid (HA'.out.upd u4 HN21.out)
      have U4 := Lib.hid (HU.out.into u4 HBle.out)
      have HT4 := Lib.hid (HT.out.upd U4.out (by simp))
      have hs1 : w4.cell? ⟨b0, o + k * 2, none⟩ = some (.int .i64 kd) := by rw [← HC1.out]; exact World.cell?_of_block (U4.out.block b0 hbl (by simp))
      have hs2 : w4.cell? ⟨b0, o + k * 2 + 1, none⟩ = some (.int .i64 pg) := by rw [← HC2.out]; exact World.cell?_of_block (U4.out.block b0 hbl (by simp))
      clear h4 u4 hr1 hr2
      go_wp2_with fail
      refine (play_any H4'.out HT4.out).mono ?_
      rintro e w5 ⟨rfl, h5, u5⟩
      have H5 := Lib.hid (H4.out.upd u5 HN12.out)
      have H5' := Lib.hid h5
      have U5 := Lib.hid (U4.out.into u5 HBle2.out)
      clear h5 u5 hs1 hs2
      go_wp2
      go_roundw
      case rel => exact ⟨k + 1, by omega, by go_num, by rw [HP.out]; exact H5.out, by rw [HP.out]; exact H5'.out, U5.out⟩
      case measure => simp [intOf]; omega
    · obtain rfl : k = l.length := by omega
      generalize (St.new n).plays (l.take l.length) = s at *
      go_wp2_with fail
      refine (settle_any HA.out).mono ?_
      rintro e w4 ⟨rfl, h4, u4⟩
      have H4 := Lib.hid h4
      have H4' := Lib.hid (HA'.out.upd u4 HN21.out)
      have U4 := Lib.hid (HU.out.into u4 HBle.out)
      clear h4 u4
      go_wp2_with fail
      refine (settle_any H4'.out).mono ?_
      rintro e w5 ⟨rfl, h5, u5⟩
      have H5 := Lib.hid (H4.out.upd u5 HN12.out)
      have H5' := Lib.hid h5
      have U5 := Lib.hid (U4.out.into u5 HBle2.out)
      clear h5 u5
      have h01 := s.settle_SF
      have h02 := s.settle_SD
      have H01 := Lib.hid h01
      have H02 := Lib.hid h02
      clear h01 h02
      generalize s.settle = s0 at *
      go_wp2_with fail
      go_loopw [10] (fun i wr => ∃ j : Nat, j ≤ l2.length ∧ i = .int .i64 j ∧ ∃ sx, Since s0 sx ∧ IsA wr b sx ∧ IsA wr b2 s0 ∧ Upd [] w wr) (fun i _ => l2.length - (intOf i).toNat)
      case atStart => exact ⟨0, by omega, rfl, s0, Since.refl _ H01.out H02.out, H5.out, H5'.out, U5.out⟩
      case round =>
        obtain ⟨j, hj, rfl, sx, hsx, hA, hA', hU⟩ := hrel
        have HSX := Lib.hid hsx
        have HA6 := Lib.hid hA
        have HA6' := Lib.hid hA'
        have HU6 := Lib.hid hU
        have HTr6 := Lib.hid (HT.out.upd hU (by simp))
        clear hA hA' hU hsx
        by_cases hltj : j < l2.length
        · obtain ⟨b0, o, rfl, hc1, hc2⟩ := HCS2.out j hltj
          have hbl := World.block_lt_of_cell? _ _ hc1
          have hr1 : wr.cell? ⟨b0, o + j * 2, none⟩ = some (.int .i64 l2[j].1) := by rw [← hc1]; exact World.cell?_of_block (HU6.out.block b0 hbl (by simp))
          have hr2 : wr.cell? ⟨b0, o + j * 2 + 1, none⟩ = some (.int .i64 l2[j].2) := by rw [← hc2]; exact World.cell?_of_block (HU6.out.block b0 hbl (by simp))
          generalize l2[j] = x at *
          obtain ⟨kd, pg⟩ := x
          clear hc1 hc2 hbl
          have HZ : Hid (∀ ob, IsA (wr.alloc ob) b sx) := fun ob => HA6.out.upd ((Upd.refl [] _).alloc ob) (by simp)
          have HZ' : Hid (∀ ob, IsA (wr.alloc ob) b2 s0) := fun ob => HA6'.out.upd ((Upd.refl [] _).alloc ob) (by simp)
          have HZU : Hid (∀ ob, Upd [] w (wr.alloc ob)) := fun ob => HU6.out.alloc ob
          have HZT : Hid (∀ ob, Tab (wr.alloc ob)) := fun ob => HTr6.out.upd ((Upd.refl [] _).alloc ob) (by simp)
          have hbwr := lt_of_block HA6.out.1
          have hbwr2 := lt_of_block HA6'.out.1
          simp only at hr1 hr2
          by_cases k1 : kd = 1
          · subst k1
            cases hlow : sx.low with
            | none =>
              have HL := Lib.hid hlow
              clear hlow
              go_wp2_with fail
              refine (take_any (HZ.out _) (HZT.out _)).mono ?_
              rintro e w7 ⟨rfl, h7, u7⟩
              rw [HL.out]
              have H7 := Lib.hid h7
              have H7' := Lib.hid ((HZ'.out _).upd u7 HN21.out)
              have U7 := Lib.hid ((HZU.out _).into u7 HBle.out)
              clear h7 u7
              go_wp2
              go_roundw
              case rel => exact ⟨j + 1, by omega, by go_num, _, HSX.out.take, H7.out, H7'.out, U7.out⟩
              case measure => simp [intOf]; omega
            | some p =>
              have HL := Lib.hid hlow
              have HFr := Lib.hid (HSX.out.low hlow)
              clear hlow
              go_wp2_with fail
              refine (take_any (HZ.out _) (HZT.out _)).mono ?_
              rintro e w7 ⟨rfl, h7, u7⟩
              rw [HL.out]
              have H7 := Lib.hid h7
              have H7' := Lib.hid ((HZ'.out _).upd u7 HN21.out)
              have U7 := Lib.hid ((HZU.out _).into u7 HBle.out)
              clear h7 u7
              go_wp2_with fail
              refine (isFree_is H7'.out HFr.out).mono ?_
              rintro e w8 ⟨rfl, rfl⟩
              go_wp2
              go_roundw
              case rel => exact ⟨j + 1, by omega, by go_num, _, HSX.out.take, H7.out, H7'.out, U7.out⟩
              case measure => simp [intOf]; omega
          · by_cases k0 : kd = 0
            · subst k0
              cases hfr : sx.isFree pg
              · have HL := Lib.hid hfr
                clear hfr
                go_wp2_with fail
                refine (mark_any (HZ.out _)).mono ?_
                rintro e w7 ⟨rfl, h7, u7⟩
                rw [HL.out]
                have H7 := Lib.hid h7
                have H7' := Lib.hid ((HZ'.out _).upd u7 HN21.out)
                have U7 := Lib.hid ((HZU.out _).into u7 HBle.out)
                clear h7 u7
                go_wp2
                go_roundw
                case rel => exact ⟨j + 1, by omega, by go_num, _, HSX.out.mark _, H7.out, H7'.out, U7.out⟩
                case measure => simp [intOf]; omega
              · have HL := Lib.hid hfr
                have HFr := Lib.hid (HSX.out.free hfr)
                clear hfr
                go_wp2_with fail
                have hx1 : (wr.alloc (.cells #[.int .i64 0, .int .i64 pg] 38)).heap[wr.heap.size]? = some (.cells #[.int .i64 0, .int .i64 pg] 38 (0, 0)) := heap_alloc_new _ _
                refine (mark_any (HZ.out _)).mono ?_
                rintro e w7 ⟨rfl, h7, u7⟩
                rw [HL.out]
                have H7 := Lib.hid h7
                have H7' := Lib.hid ((HZ'.out _).upd u7 HN21.out)
                have U7 := Lib.hid ((HZU.out _).into u7 HBle.out)
                have hx7 := u7.get hx1 (by rw [List.mem_singleton]; omega)
                have hx8 : w7.cell? ⟨wr.heap.size, 1, none⟩ = some (.int .i64 pg) := by rw [(cells_of hx7).1]; rfl
                clear h7 u7 hx1 hx7
                go_wp2_with fail
                refine (isFree_is H7'.out HFr.out).mono ?_
                rintro e w8 ⟨rfl, rfl⟩
                go_wp2
                go_roundw
                case rel => exact ⟨j + 1, by omega, by go_num, _, HSX.out.mark _, H7.out, H7'.out, U7.out⟩
                case measure => simp [intOf]; omega
            · by_cases k2 : kd = 2
              · subst k2
                go_wp2_with fail
                refine (drop_any (HZ.out _)).mono ?_
                rintro e w7 ⟨rfl, h7, u7⟩
                have H7 := Lib.hid h7
                have H7' := Lib.hid ((HZ'.out _).upd u7 HN21.out)
                have U7 := Lib.hid ((HZU.out _).into u7 HBle.out)
                clear h7 u7
                go_wp2
                go_roundw
                case rel => exact ⟨j + 1, by omega, by go_num, _, HSX.out.drop _, H7.out, H7'.out, U7.out⟩
                case measure => simp [intOf]; omega
              · by_cases k4 : kd = 4
                · subst k4
                  go_wp2_with fail
                  refine (undo_any (HZ.out _)).mono ?_
                  rintro e w7 ⟨rfl, h7, u7⟩
                  have H7 := Lib.hid h7
                  have H7' := Lib.hid ((HZ'.out _).upd u7 HN21.out)
                  have U7 := Lib.hid ((HZU.out _).into u7 HBle.out)
                  clear h7 u7
                  go_wp2
                  go_roundw
                  case rel => exact ⟨j + 1, by omega, by go_num, _, HSX.out.undo, H7.out, H7'.out, U7.out⟩
                  case measure => simp [intOf]; omega
                · have e0 : (kd == 0) = false := by simpa using k0
                  have e1 : (kd == 1) = false := by simpa using k1
                  have e2 : (kd == 2) = false := by simpa using k2
                  have e4 : (kd == 4) = false := by simpa using k4
                  clear k0 k1 k2 k4
                  go_wp2
                  go_roundw
                  case rel => exact ⟨j + 1, by omega, by go_num, sx, HSX.out, HZ.out _, HZ'.out _, HZU.out _⟩
                  case measure => simp [intOf]; omega
        · obtain rfl : j = l2.length := by omega
          have HBk := Lib.hid (HSX.out.back H01.out H02.out)
          go_wp2_with fail
          refine (undo_any HA6.out).mono ?_
          rintro e w7 ⟨rfl, h7, u7⟩
          rw [HBk.out] at h7
          have H7 := Lib.hid h7
          have H7' := Lib.hid (HA6'.out.upd u7 HN21.out)
          have U7 := Lib.hid (HU6.out.into u7 HBle.out)
          clear h7 u7
          go_wp2_with fail
          refine (free_any H7.out).mono ?_
          rintro e w8 ⟨rfl, rfl⟩
          go_wp2_with fail
          refine (free_any H7'.out).mono ?_
          rintro e w9 ⟨rfl, rfl⟩
          go_wp2_with fail
          refine (runs_any H7.out).mono ?_
          rintro e wa ⟨va, rfl, hva, ua⟩
          have HVa := Lib.hid hva
          have Ha := Lib.hid (H7.out.upd ua (by simp))
          have Ha' := Lib.hid (H7'.out.upd ua (by simp))
          have Ua := Lib.hid (U7.out.step ua (by simp))
          clear hva ua
          go_wp2_with fail
          refine (runs_any Ha'.out).mono ?_
          rintro e wb ⟨vb, rfl, hvb, ub⟩
          have HVb := Lib.hid hvb
          have HVa2 := Lib.hid (HVa.out.stays ub)
          have HSep := Lib.hid (IsEnts.apart HVa.out HVb.out)
          have Hb := Lib.hid (Ha.out.upd ub (by simp))
          have Hb' := Lib.hid (Ha'.out.upd ub (by simp))
          have Ub := Lib.hid (Ua.out.step ub (by simp))
          clear hvb ub
          go_wp2_with fail
          refine (entries_same HVa2.out HVb.out HSep.out).mono ?_
          rintro e wc ⟨rfl, uc⟩
          have hown := ownsRow_block HVa.out
          have hbw9 := lt_of_block H7.out.1
          have hbw9' := lt_of_block H7'.out.1
          have Hc := Lib.hid (Hb.out.upd uc (fun hm => by have := hown _ hm; omega))
          have Hc' := Lib.hid (Hb'.out.upd uc (fun hm => by have := hown _ hm; omega))
          have Uc := Lib.hid (Ub.out.step uc (fun x hx => .inr (by have := hown x hx; have := U7.out.size; omega)))
          clear uc hown
          go_wp2
          go_loopw [15] (fun i wr => ∃ j : Nat, j ≤ l2.length ∧ i = .int .i64 j ∧ ∃ sx, IsA wr b sx ∧ IsA wr b2 sx ∧ Upd [] w wr) (fun i _ => l2.length - (intOf i).toNat)
          case atStart => exact ⟨0, by omega, rfl, s0, Hc.out, Hc'.out, Uc.out⟩
          case round =>
            obtain ⟨j, hj, rfl, sx, hA, hA', hU⟩ := hrel
            have HAd := Lib.hid hA
            have HAd' := Lib.hid hA'
            have HUd := Lib.hid hU
            clear hA hA' hU
            by_cases hltj : j < l2.length
            · obtain ⟨b0, o, rfl, hc1, hc2⟩ := HCS2.out j hltj
              have hbl := World.block_lt_of_cell? _ _ hc1
              have hr2 : wr.cell? ⟨b0, o + j * 2 + 1, none⟩ = some (.int .i64 l2[j].2) := by rw [← hc2]; exact World.cell?_of_block (HUd.out.block b0 hbl (by simp))
              generalize l2[j] = x at *
              obtain ⟨kd, pg⟩ := x
              simp only at hr2 hc2
              have HC2 := Lib.hid hc2
              clear hc1 hc2
              go_wp2

              have hA : IsA wr.drew b sx := HAd.out
              have hA' : IsA wr.drew b2 sx := HAd'.out
              have hUd : Upd [] w wr.drew := HUd.out.drew
              go_region_held3 (fun w' => w'.cell? ⟨b0, o + j * 2 + 1, none⟩ = some (.int .i64 pg)) (first | exact hr2 | exact hr8 | exact hr9)
                (first
                  | (go_at_call 12; (with_reducible refine (drop_any hA).mono ?_); rintro e w8 ⟨rfl, h8, u8⟩; have hA8 := hA'.upd u8 HN21.out; have hr8 := page_stays HC2.out hUd u8 HBle.out)
                  | (go_at_call 12; (with_reducible refine (drop_any hA8).mono ?_); rintro e w9 ⟨rfl, h9, u9⟩; have hr9 := page_stays HC2.out (hUd.into u8 HBle.out) u9 HBle2.out))

              have H9 := Lib.hid (h8.upd u9 HN12.out)
              have H9' := Lib.hid h9
              have U9 := Lib.hid ((hUd.into u8 HBle.out).into u9 HBle2.out)
              clear h8 h9 u8 u9 hA hA' hUd hA8 hr8 hr9 hr2
              go_wp2
              go_roundw
              case rel => exact ⟨j + 1, by omega, by go_num, _, H9.out, H9'.out, U9.out⟩
              case measure => simp [intOf]; omega
            · obtain rfl : j = l2.length := by omega
              go_wp2_with fail
              refine (settle_any HAd.out).mono ?_
              rintro e wd ⟨rfl, hd, ud⟩
              have Hd := Lib.hid hd
              have Hd' := Lib.hid (HAd'.out.upd ud HN21.out)
              have Ud := Lib.hid (HUd.out.into ud HBle.out)
              clear hd ud
              go_wp2_with fail
              refine (settle_any Hd'.out).mono ?_
              rintro e we ⟨rfl, he, ue⟩
              have He := Lib.hid (Hd.out.upd ue HN12.out)
              have He' := Lib.hid he
              have Ue := Lib.hid (Ud.out.into ue HBle2.out)
              clear he ue
              go_wp2_with fail
              refine (runs_any He.out).mono ?_
              rintro e wf ⟨va2, rfl, hva2, ua2⟩
              have HVf := Lib.hid hva2
              have Hf' := Lib.hid (He'.out.upd ua2 (by simp))
              have Uf := Lib.hid (Ue.out.step ua2 (by simp))
              clear hva2 ua2
              go_wp2_with fail
              refine (runs_any Hf'.out).mono ?_
              rintro e wg ⟨vb2, rfl, hvb2, ub2⟩
              have HVg := Lib.hid hvb2
              have HVf2 := Lib.hid (HVf.out.stays ub2)
              have HSep2 := Lib.hid (IsEnts.apart HVf.out HVg.out)
              have Ug := Lib.hid (Uf.out.step ub2 (by simp))
              clear hvb2 ub2
              go_wp2_with fail
              refine (entries_same HVf2.out HVg.out HSep2.out).mono ?_
              rintro e wh ⟨rfl, uh⟩
              have hown2 := ownsRow_block HVf.out
              have Uh := Lib.hid (Ug.out.step uh (fun x hx => .inr (by have := hown2 x hx; have := Ue.out.size; omega)))
              clear uh hown2
              go_wp2
              go_ret
              exact ⟨rfl, Uh.out⟩
end Go.Proofs.YtmecndmoobddkaaDoor
