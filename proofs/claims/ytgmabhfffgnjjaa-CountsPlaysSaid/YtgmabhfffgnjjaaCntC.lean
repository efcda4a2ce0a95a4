/-
  PROVED HERE: Load of package counts. Conditions: those that each theorem names.
-/
import Derived.Test.YtgmabhfffgnjjaaCntB
namespace Go.Proofs.Ytgmabhfffgnjjaa
open Go.RowKit

theorem IsC.put1 {w w2 : World} {b g m j k q : Nat} {s : Ct} {l : List Int} (h : IsC w b g m s) (hl : inK l) (hq : 120 * j + k = q) (hqn : q < s.now.length) {M : Int → Option Value} (hW : WasOf s M) (hm : IMap Try.prog 3 w2 m (fun z => if z = (q : Int) then none else M z))
    (u2 : Upd [m] (w.setCell ⟨g, q, none⟩ (.int .i64 (l.getD k 0))) w2) : IsC w2 b g m (s.put1 j l k) ∧ Upd [g, m] w w2 := by
  obtain ⟨a1, a2, a3⟩ := h.apart
  have u1 : Upd [g] w (w.setCell ⟨g, q, none⟩ (.int .i64 (l.getD k 0))) := (Upd.refl [g] w).setCell (.inl (by simp)) _
  have e : s.put1 j l k = ⟨s.now.set q (l.getD k 0), s.old.set q (l.getD k 0)⟩ := by unfold Ct.put1; rw [hq, if_pos hqn]
  have hlen := Ct.put1_len s j l k
  refine ⟨⟨Ct.put1_ok h.ok j hl k, ?_, ?_, _, hm, fun x v hx => ?_, fun i hi hn => ?_⟩, (u1.mono (by simp)).trans (u2.mono (by simp))⟩
  · rw [hlen]; exact u2.get (u1.get h.hd (by simpa using a1)) (by simpa using a2)
  · rw [e]; exact u2.get (row_set h.row q _) (by simpa using a3)
  · dsimp only at hx
    by_cases ex : x = (q : Int)
    · rw [if_pos ex] at hx; cases hx
    · rw [if_neg ex] at hx
      obtain ⟨i, rfl, hi, rfl⟩ := hW.1 x v hx
      rw [hlen, e]
      refine ⟨i, rfl, hi, ?_⟩
      show _ = Value.int .i64 ((s.old.set q _).getD i 0)
      rw [getD_set _ _ _ _ (by rw [h.ok.len]; exact hqn), if_neg (fun e2 => ex (by omega))]
  · rw [hlen] at hi
    rw [e]
    show (s.old.set q _).getD i 0 = (s.now.set q _).getD i 0
    rw [getD_set _ _ _ _ (by rw [h.ok.len]; exact hqn), getD_set _ _ _ _ hqn]
    by_cases ei : i = q
    · rw [if_pos ei, if_pos ei]
    · rw [if_neg ei, if_neg ei]
      dsimp only at hn
      rw [if_neg (fun e2 => ei (by omega))] at hn
      exact hW.2 i hi hn
theorem cload_no {w : World} {b g m : Nat} {s : Ct} (h : IsC w b g m s) {p : Int} (hp : s.inM p = false) (v : Value) : Calls Try.prog 15 #[.pointer (some ⟨b, 0, none⟩), .int .i64 p, v] w fun e w' => e = .returned (.int .i64 2) ∧ w = w' := by
  obtain ⟨c0, _⟩ := h.head
  have HMY := Lib.hid (fun w => many_yes s.now.length h.ok.lo h.ok.hi w)
  have hn := h.ok.hi
  rcases Ct.inM_false hp with h1 | h1
  · clear hp h
    go_enter Try.func15, Try.ntmps15
    go_wp2
    go_ret
    exact ⟨rfl, rfl⟩
  · have h2 : ¬ p < 0 := by omega
    clear hp h
    go_enter Try.func15, Try.ntmps15
    go_wp2_with (go_at_call 13; (with_reducible refine (HMY.out _).mono ?_); rintro e w' ⟨rfl, rfl⟩)
    go_ret
    exact ⟨rfl, rfl⟩
set_option maxRecDepth 100000 in
set_option maxHeartbeats 3200000 in
theorem cload_yes {w : World} {b g m : Nat} {s : Ct} (h : IsC w b g m s) {j : Nat} (hj : j < manyOf s.now.length) {a : Option Addr} {by_ : List Nat} {cap : Nat} (hb : IsBytes w a by_) (hc : by_.length ≤ cap) (hm : cap ≤ 9223372036854775807) :
    Calls Try.prog 15 #[.pointer (some ⟨b, 0, none⟩), .int .i64 (j : Nat), .slice a by_.length cap] w fun e w' => e = .returned (.int .i64 (s.load j by_).1) ∧ IsC w' b g m (s.load j by_).2 ∧ Upd [g, m] w w' := by
  obtain ⟨c0, _⟩ := h.head
  have HMY := Lib.hid (fun w => many_yes s.now.length h.ok.lo h.ok.hi w)
  have hn := h.ok.hi
  have hj9 : j ≤ 8 := by unfold manyOf at hj; omega
  have hj' : ¬ manyOf s.now.length ≤ j := by omega
  have hin := Ct.inM_of hj
  have HG := Lib.hid (getCounts_any hb hc hm)
  have H := Lib.hid h
  cases hg : getCounts by_ with
  | none =>
    have HR := Lib.hid (show s.load j by_ = (14, s) by unfold Ct.load; rw [if_pos hin, hg])
    rw [hg] at HG
    clear h hb hc hin hg
    go_enter Try.func15, Try.ntmps15
    go_wp2_with (first
      | (go_at_call 13; (with_reducible refine (HMY.out _).mono ?_); rintro e w' ⟨rfl, rfl⟩)
      | (go_at_call 32; (with_reducible refine HG.out.mono ?_); rintro e w1 ⟨⟨v, rfl, _⟩, u1⟩; have U1 := Lib.hid u1; clear u1; simp only [Option.isSome_none]))
    go_ret
    rw [HR.out]
    exact ⟨rfl, H.out.stay U1.out, U1.out.mono (by simp)⟩
  | some l =>
    obtain ⟨hl, hk⟩ := getCounts_in hg
    have HL := Lib.hid hl
    have HK := Lib.hid hk
    have HNO := Lib.hid (fun (hr : s.room j l = false) => (show s.load j by_ = (14, s) by unfold Ct.load; rw [if_pos hin, hg]; simp only [Int.toNat_natCast]; rw [hr]; rfl))
    have HYE := Lib.hid (fun (hr : s.room j l = true) => (show s.load j by_ = (0, s.full j l) by unfold Ct.load; rw [if_pos hin, hg]; simp only [Int.toNat_natCast]; rw [hr]; rfl))
    rw [hg] at HG
    clear h hb hc hin hg hl hk
    go_enter Try.func15, Try.ntmps15
    go_wp2_with (first
      | (go_at_call 13; (with_reducible refine (HMY.out _).mono ?_); rintro e w' ⟨rfl, rfl⟩)
      | (go_at_call 32; (with_reducible refine HG.out.mono ?_); rintro e w1 ⟨⟨v, rfl, hv⟩, u1⟩; have U1 := Lib.hid u1; rw [Option.getD_some] at hv; have hlow := hv.low; obtain ⟨av, cv, rfl, hvi, hvb, hvc, hvm⟩ := hv.slice; rw [HL.out] at hvc ⊢; have HVI := Lib.hid hvi; have HVB := Lib.hid hvb; have HLOW := Lib.hid hlow; clear u1 hv hvi hvb hlow; simp only [Option.isSome_some]))
    have H1 := Lib.hid (H.out.stay U1.out)
    have c1 := H1.out.head.1
    clear c0
    go_loop [35] (fun i => ∃ k : Nat, k ≤ 120 ∧ i = .int .i64 k ∧ ∀ q, q < k → s.room1 j l q = true) (fun i => 120 - (RowKit.intOf i).toNat)
    case atStart => exact ⟨0, by decide, rfl, fun q hq => absurd hq (by omega)⟩
    case round =>
      obtain ⟨k, hk, rfl, hro⟩ := hrel
      have HRO := Lib.hid hro
      clear hro
      by_cases hlt : k < 120
      · have hkl : k < l.length := by have := HL.out; omega
        obtain ⟨bv, ov, rfl, hcell⟩ := HVI.out k hkl
        have hx := HK.out _ (List.getElem_mem hkl)
        have hr1 : s.room1 j l k = (decide (l[k] ≤ 0) || decide (120 * j + k < s.now.length)) := by unfold Ct.room1; rw [getD_in _ _ hkl]
        have HR1 := Lib.hid hr1
        generalize l[k] = x at hcell hx HR1
        obtain ⟨hx0, hx1⟩ := hx
        have hx2 : ¬ 1000 < x := by omega
        clear hr1
        by_cases hxz : x ≤ 0
        · have hx3 : ¬ 0 < x := by omega
          go_wp2
          go_round
          case rel =>
            refine ⟨k + 1, by omega, by go_num, fun q hq => ?_⟩
            by_cases e : q = k
            · subst e; rw [HR1.out, decide_eq_true hxz]; rfl
            · exact HRO.out q (by omega)
          case measure => simp [RowKit.intOf]; omega
        · have hx3 : 0 < x := by omega
          by_cases hfit : 120 * j + k < s.now.length
          · have hf2 : ¬ (s.now.length : Int) ≤ (j : Int) * 120 + (k : Int) := by omega
            go_wp2
            go_round
            case rel =>
              refine ⟨k + 1, by omega, by go_num, fun q hq => ?_⟩
              by_cases e : q = k
              · subst e; rw [HR1.out, decide_eq_true hfit, Bool.or_true]
              · exact HRO.out q (by omega)
            case measure => simp [RowKit.intOf]; omega
          · have hf2 : (s.now.length : Int) ≤ (j : Int) * 120 + (k : Int) := by omega
            have HBAD := Lib.hid (HNO.out (Ct.room_not hlt (by rw [HR1.out, decide_eq_false hxz, decide_eq_false hfit]; rfl)))
            go_wp2
            go_ret
            rw [HBAD.out]
            exact ⟨rfl, H1.out, U1.out.mono (by simp)⟩
      · obtain rfl : k = 120 := by omega
        have HROOM := Lib.hid (HYE.out (Ct.room_of HRO.out))
        clear hlt c1
        go_wp2
        go_loopw [61] (fun i wr => ∃ k : Nat, k ≤ 120 ∧ i = .int .i64 k ∧ IsC wr b g m (s.put j l k) ∧ Upd [g, m] w1 wr) (fun i _ => 120 - (RowKit.intOf i).toNat)
        case atStart => exact ⟨0, by decide, rfl, H1.out, Upd.refl _ _⟩
        case round =>
          obtain ⟨k, hk, rfl, hC, hU⟩ := hrel
          have HC := Lib.hid hC
          have HU := Lib.hid hU
          have hpl := Ct.put_len s j l k
          obtain ⟨d0, d1⟩ := hC.head
          rw [hpl] at d0
          have HPL := Lib.hid hpl
          clear hC hU hpl
          by_cases hlt : k < 120
          · have hkl : k < l.length := by have := HL.out; omega
            obtain ⟨bv, ov, rfl, hcell⟩ := HVI.out k hkl
            have hne : bv ∉ [g, m] := by
              have h1 := HLOW.out bv (HVB.out _ _ rfl)
              obtain ⟨M, hM, _⟩ := H.out.map
              have h2 := lt_of_block H.out.row
              have h3 := hM.lt
              simp only [List.mem_cons, List.not_mem_nil, or_false]
              omega
            have hcell2 : wr.cell? ⟨bv, ov + k, none⟩ = some (.int .i64 l[k]) := by rw [← hcell]; exact World.cell?_of_block (HU.out.block bv (World.block_lt_of_cell? _ _ hcell) hne)
            have hgd := getD_in l k hkl
            rw [← hgd] at hcell2
            clear hcell hne hgd
            obtain ⟨q, hq⟩ : ∃ q, 120 * j + k = q := ⟨_, rfl⟩
            have HQ := Lib.hid hq
            have he : (j : Int) * 120 + (k : Int) = (q : Int) := by omega
            by_cases hqn : q < s.now.length
            · obtain ⟨M, hM, hW⟩ := HC.out.map
              obtain ⟨a1, a2, a3⟩ := HC.out.apart
              obtain ⟨r1, r2⟩ := row_at HC.out.row (i := q) (by rw [HPL.out]; exact hqn)
              have HM := Lib.hid (hM.upd ((Upd.refl [g] wr).setCell (p := ⟨g, q, none⟩) (.inl (by simp)) (.int .i64 (l.getD k 0))) (by simpa using a3.symm))
              have HP1 := Lib.hid (fun w2 hm u2 => HC.out.put1 (w2 := w2) HK.out HQ.out (by rw [HPL.out]; exact hqn) hW hm u2)
              have HA3 := Lib.hid a3
              clear hM hW hq
              generalize l.getD k 0 = x at *
              go_wp2_with (refine wpList_idrop (k := 3) rfl (.tmp 87) (.tmp 88) rfl rfl (q : Int) rfl Try.underlying3 Try.underlying44 (WalkArith.wf_i64 (by omega)) HM.out ?_; intro w5 hm5 hu5 hs5; have M5 := Lib.hid hm5; have U5 := Lib.hid hu5; clear hm5 hu5 hs5)
              go_roundw
              case rel =>
                obtain ⟨q1, q2⟩ := HP1.out w5 M5.out U5.out
                exact ⟨k + 1, by omega, by go_num, q1, HU.out.trans q2⟩
              case measure => simp [RowKit.intOf]; omega
            · have hqn' : s.now.length ≤ q := by omega
              have e1 : s.put j l (k + 1) = s.put j l k := by show (s.put j l k).put1 j l k = _; unfold Ct.put1; rw [HPL.out, if_neg (by omega)]
              have HE := Lib.hid e1
              clear e1 hq
              go_wp2
              go_roundw
              case rel => exact ⟨k + 1, by omega, by go_num, by rw [HE.out]; exact HC.out, HU.out⟩
              case measure => simp [RowKit.intOf]; omega
          · have hfin : IsC wr b g m (s.full j l) := by rw [← Ct.full_eq s j l (show k = 120 by omega)]; exact HC.out
            obtain rfl : k = 120 := by omega
            have HF := Lib.hid hfin
            clear hfin d0 d1 hlt
            go_wp2
            go_ret
            rw [HROOM.out]
            dsimp only
            exact ⟨rfl, HF.out, (U1.out.mono (by simp)).trans HU.out⟩
theorem cload_any {w : World} {b g m : Nat} {s : Ct} (h : IsC w b g m s) (p : Int) {a : Option Addr} {by_ : List Nat} {cap : Nat} (hb : IsBytes w a by_) (hc : by_.length ≤ cap) (hm : cap ≤ 9223372036854775807) :
    Calls Try.prog 15 #[.pointer (some ⟨b, 0, none⟩), .int .i64 p, .slice a by_.length cap] w fun e w' => e = .returned (.int .i64 (s.load p by_).1) ∧ IsC w' b g m (s.load p by_).2 ∧ Upd [g, m] w w' := by
  cases hp : s.inM p
  · have e : s.load p by_ = (2, s) := by unfold Ct.load; rw [hp]; rfl
    rw [e]
    exact (cload_no h hp _).mono fun e w' ⟨h1, h2⟩ => by subst h2; exact ⟨h1, h, Upd.refl _ _⟩
  · obtain ⟨j, rfl, hj⟩ := Ct.inM_true hp
    exact cload_yes h hj hb hc hm
end Go.Proofs.Ytgmabhfffgnjjaa
