/-
  PROVED HERE: the document's Print is the plain function. Conditions: those that each theorem names.
-/
import Derived.Test.YthjlajplckfldaaGreatDoorKeyRK
import Derived.Test.YthjlajplckfldaaGreatDoorKeyK
import Derived.Test.YthjlajplckfldaaGreatDoorKeyW
import Derived.Test.YthjlajplckfldaaGreatDoorOrder
namespace Go.Proofs.YthjlajplckfldaaGreatDoor
open Go.RowKit Go.Shelf
/-- The first k pairs may be, but for their size. -/
def okT (l : List Pr) (k : Nat) : Prop := (∀ p ∈ l.take k, okKey p.1 = true ∧ okVal p.2 = true) ∧ ((l.take k).map (·.1)).Nodup
theorem okT_zero (l : List Pr) : okT l 0 := ⟨by simp, by simp⟩
theorem okT_step {l : List Pr} {k : Nat} (hk : k < l.length) (h : okT l k) (h1 : okKey (l[k]).1 = true) (h2 : okVal (l[k]).2 = true) (h3 : ∀ j (hj : j < l.length), j < k → (l[j]).1 ≠ (l[k]).1) : okT l (k + 1) := by
  unfold okT
  rw [List.take_succ_eq_append_getElem hk]
  refine ⟨fun p hp => ?_, ?_⟩
  · rcases List.mem_append.1 hp with hp | hp
    · exact h.1 p hp
    · rw [List.mem_singleton.1 hp]; exact ⟨h1, h2⟩
  · rw [List.map_append, List.nodup_append]
    refine ⟨h.2, by simp, fun a ha b hb => ?_⟩
    simp only [List.map_cons, List.map_nil, List.mem_singleton] at hb
    obtain ⟨p, hp, rfl⟩ := List.mem_map.1 ha
    obtain ⟨j, hj, rfl⟩ := List.mem_iff_getElem.1 hp
    rw [List.length_take] at hj
    rw [hb, List.getElem_take]
    exact h3 j (by omega) (by omega)
theorem may_no1 {l : List Pr} {k : Nat} (hk : k < l.length) (h : okKey (l[k]).1 = false) : mayP l = false := by
  cases hm : mayP l
  · rfl
  · have := (((mayP_iff l).1 hm).1 _ (List.getElem_mem hk)).1
    rw [h] at this; cases this
theorem may_no2 {l : List Pr} {k : Nat} (hk : k < l.length) (h : okVal (l[k]).2 = false) : mayP l = false := by
  cases hm : mayP l
  · rfl
  · have := (((mayP_iff l).1 hm).1 _ (List.getElem_mem hk)).2
    rw [h] at this; cases this
theorem may_no3 {l : List Pr} {j k : Nat} (hj : j < k) (hk : k < l.length) (h : (l[j]'(by omega)).1 = (l[k]).1) : mayP l = false := by
  cases hm : mayP l
  · rfl
  · have hn := ((mayP_iff l).1 hm).2.1
    have := List.pairwise_iff_getElem.1 hn j k (by simp; omega) (by simp; omega) hj
    exact absurd (by simpa using h) this
theorem may_no4 {l : List Pr} (h : 16 < l.length) : mayP l = false := by
  cases hm : mayP l
  · rfl
  · have := ((mayP_iff l).1 hm).2.2.1
    omega
theorem may_end {l : List Pr} (h : okT l l.length) (hl : l.length ≤ 16) : mayP l = decide (total l ≤ 1024) := by
  unfold okT at h
  rw [List.take_length] at h
  by_cases ht : total l ≤ 1024
  · rw [decide_eq_true ht]
    exact (mayP_iff l).2 ⟨h.1, h.2, hl, ht⟩
  · rw [decide_eq_false ht]
    cases hm : mayP l
    · rfl
    · exact absurd ((mayP_iff l).1 hm).2.2.2 ht
theorem okKey_len {k : Txt} (h : okKey k = true) : k.length ≤ 63 := by
  unfold okKey at h
  simp only [Bool.and_eq_true, decide_eq_true_eq] at h
  exact h.1.2
theorem okVal_len {k : Txt} (h : okVal k = true) : k.length ≤ 255 := by
  unfold okVal at h
  simp only [Bool.and_eq_true, decide_eq_true_eq] at h
  exact h.1
theorem wpList_appended {P : Program} {ops : Array Oper} {rest : List Oper} {o : Oper} {a : Act} {w w' : World} {Q : Exit → Act → World → Prop} (hgd : o.guard = none) (m x : Operand) (ts : Array TypeId) (ty : TypeId) (ho : o.op = .call { callee := .builtin .append, args := #[m, x], argTypes := ts }) (hty : o.type = ty) {vm vx v : Value} (hm : a.eval m = vm) (hx : a.eval x = vx)
    (hrun : (Builtin.append_ ts ty #[vm, vx]).run P w = .ok v w') (h : wpList P ops Q rest (a.put o.dst v) w') : wpList P ops Q (o :: rest) a w := by
  subst hty
  exact wpList_val hgd _ (exec_append ho hm hx hrun) h
/-- One byte in a row of its own is appended. -/
theorem run_pushb {w : World} {base : Nat} {v : Value} {t : Txt} (b : UInt8) (hv : OwnT w base v t) (hl : t.length ≤ 140737488355327) (hb : base ≤ w.heap.size) (ty : TypeId) :
    ∃ v' w', (Builtin.append_ #[23, 23] ty #[v, .slice (some ⟨w.heap.size, 0, none⟩) 1 1]).run Tryz.prog (w.alloc (.cells #[.int .u8 (b.toNat : Nat)] 5)) = .ok v' w' ∧ OwnT w' base v' (t ++ [b]) ∧ Upd v.ownBlock.toList w w' := by
  obtain ⟨v', w', r1, r2, r3⟩ := run_pusht (hv.upd ((Upd.refl [] _).alloc (.cells #[.int .u8 (b.toNat : Nat)] 5)) (by simp)) (x := .slice (some ⟨w.heap.size, 0, none⟩) 1 1) (u := [b]) ⟨_, _, rfl, fun i hi => by
      have hi0 : i = 0 := by simp at hi; omega
      subst hi0
      exact ⟨_, _, rfl, by simp, by rw [World.cell?_alloc_new]; rfl⟩, by simp, (fun e => by cases e), by unfold maxLen; omega⟩ (by simp; omega) (by simp; omega) ty
  exact ⟨v', w', r1, r2, ((Upd.refl _ _).alloc _).trans r3⟩
/-- The four appends of one pair. -/
theorem push_row {w : World} {base : Nat} {v : Value} {t : Txt} (key val : Txt) (hv : OwnT w base v t) (hl : t.length ≤ 1000000) (hk : key.length ≤ 63) (hvl : val.length ≤ 255) (hb : base ≤ w.heap.size) (ty : TypeId) :
    ∃ p1 n1 c1 w1 p2 n2 c2 w2 p3 n3 c3 w3 p4 c4 w4,
      (Builtin.append_ #[23, 9] ty #[v, .string (txt key)]).run Tryz.prog w = .ok (.slice p1 n1 c1) w1 ∧
      (Builtin.append_ #[23, 23] ty #[.slice p1 n1 c1, .slice (some ⟨w1.heap.size, 0, none⟩) 1 1]).run Tryz.prog (w1.alloc (.cells #[.int .u8 61] 5)) = .ok (.slice p2 n2 c2) w2 ∧
      (Builtin.append_ #[23, 9] ty #[.slice p2 n2 c2, .string (txt val)]).run Tryz.prog w2 = .ok (.slice p3 n3 c3) w3 ∧
      (Builtin.append_ #[23, 23] ty #[.slice p3 n3 c3, .slice (some ⟨w3.heap.size, 0, none⟩) 1 1]).run Tryz.prog (w3.alloc (.cells #[.int .u8 0] 5)) = .ok (.slice p4 (t ++ (key ++ [61] ++ val ++ [0])).length c4) w4 ∧
      OwnT w4 base (.slice p4 (t ++ (key ++ [61] ++ val ++ [0])).length c4) (t ++ (key ++ [61] ++ val ++ [0])) ∧ Below base w w1 ∧ Below base w w2 ∧ Below base w w3 ∧ Below base w w4 := by
  obtain ⟨v1, w1, r1, o1, u1⟩ := run_pushs key hv (by omega) hb ty
  have b1 : Below base w w1 := u1.below hb (ownsRow_block hv)
  obtain ⟨p1, c1, rfl⟩ := o1.slice
  obtain ⟨v2, w2, r2, o2, u2⟩ := run_pushb 61 o1 (by simp; omega) (Nat.le_trans hb b1.size) ty
  have b2 : Below base w w2 := b1.trans (u2.below (Nat.le_trans hb b1.size) (ownsRow_block o1))
  obtain ⟨p2, c2, rfl⟩ := o2.slice
  obtain ⟨v3, w3, r3, o3, u3⟩ := run_pushs val o2 (by simp; omega) (Nat.le_trans hb b2.size) ty
  have b3 : Below base w w3 := b2.trans (u3.below (Nat.le_trans hb b2.size) (ownsRow_block o2))
  obtain ⟨p3, c3, rfl⟩ := o3.slice
  obtain ⟨v4, w4, r4, o4, u4⟩ := run_pushb 0 o3 (by simp; omega) (Nat.le_trans hb b3.size) ty
  have b4 : Below base w w4 := b3.trans (u4.below (Nat.le_trans hb b3.size) (ownsRow_block o3))
  rw [show t ++ key ++ [61] ++ val ++ [0] = t ++ (key ++ [61] ++ val ++ [0]) by simp] at o4
  obtain ⟨p4, c4, rfl⟩ := o4.slice
  exact ⟨p1, _, c1, w1, p2, _, c2, w2, p3, _, c3, w3, p4, c4, w4, r1, r2, r3, r4, o4, b1, b2, b3, b4⟩
set_option maxRecDepth 100000 in
set_option maxHeartbeats 4000000 in
theorem rprint_any {w : World} {v : Value} {l : List Pr} (h : IsPrsA w v l) (hL : ∀ p ∈ l, p.1.length ≤ 9223372036854775807 ∧ p.2.length ≤ 9223372036854775807) : Calls Tryz.prog 8 #[v] w fun e w' => (∃ u, e = .returned (.tuple #[u, .int .i64 (errP (printO l))]) ∧ IsTxtV w' u ((printO l).getD [])) ∧ Below w.heap.size w w' := by
  obtain ⟨p, cap, rfl⟩ := h.slice
  have HH := Lib.hid h
  have HLL := Lib.hid hL
  clear h hL
  by_cases h16 : 16 < l.length
  · have HN := Lib.hid (printO_no (may_no4 h16))
    go_enter Tryz.func8, Tryz.ntmps8
    go_wp2_with fail
    go_ret2
    exact ⟨⟨.slice none 0 0, by rw [HN.out]; rfl, by rw [HN.out]; exact IsTxtV.nil _⟩, Below.refl _ _⟩
  · have HL16 := Lib.hid (show l.length ≤ 16 by omega)
    have h16' : l.length ≤ 16 := by omega
    go_enter Tryz.func8, Tryz.ntmps8
    go_wp2_with fail
    go_loopw [4, 5, 6] (fun u i _ wr => ∃ k : Nat, k ≤ l.length ∧ i = .int .i64 (k : Nat) ∧ okT l k ∧ OwnT wr w.heap.size u (printP (l.take k)) ∧ (printP (l.take k)).length ≤ 320 * k ∧ Below w.heap.size w wr) (fun _ i _ _ => (l.length - intOf i).toNat)
    case atStart => exact ⟨0, Nat.zero_le _, rfl, okT_zero l, OwnT.nil w _, by simp [printP], Below.refl _ _⟩
    case round =>
      obtain ⟨k, hk, rfl, hT, hO, hln, hB⟩ := hrel
      have HT := Lib.hid hT
      have HO := Lib.hid hO
      have HLN := Lib.hid hln
      have HB := Lib.hid hB
      clear hT hO hln hB
      obtain ⟨x, HX⟩ : ∃ x, x = wr := ⟨_, rfl⟩
      by_cases hkl : k < l.length
      · obtain ⟨p4, c4, rfl⟩ := HO.out.slice
        obtain ⟨-, g, o, rfl, hg, hc1, hc2, hcc⟩ := HH.out.at hkl
        have hL2 := HLL.out _ (List.getElem_mem hkl)
        have HN1 := Lib.hid (fun h => printO_no (may_no1 hkl h))
        have HN2 := Lib.hid (fun h => printO_no (may_no2 hkl h))
        have HN3 := Lib.hid (fun j (hj : j < k) h => printO_no (may_no3 hj hkl h))
        have HST := Lib.hid (fun h1 h2 h3 => okT_step hkl HT.out h1 h2 h3)
        have HPT := Lib.hid (fun key val h1 h2 => printP_take (key := key) (val := val) hkl h1 h2)
        generalize hkey : (l[k]).1 = ky at *
        generalize hval : (l[k]).2 = val at *
        have HPT2 := Lib.hid (HPT.out ky val rfl rfl)
        have HCC := Lib.hid (fun W hW => (⟨by have := hcc W hW 0 _ rfl; rwa [Nat.add_zero] at this, hcc W hW 1 _ rfl⟩ : W.cell? ⟨g, o + k * 2, none⟩ = some (.string (txt ky)) ∧ W.cell? ⟨g, o + k * 2 + 1, none⟩ = some (.string (txt val))))
        have HRK := Lib.hid (rkey_any (w := wr) ky hL2.1)
        have HRV := Lib.hid (rvalue_any (w := wr) val hL2.2)
        obtain ⟨q1, q2⟩ := HCC.out wr HB.out
        clear hcc hL2 HPT
        cases hok : okKey ky
        · have HE := Lib.hid (HN1.out hok)
          rw [hok] at HRK
          clear hok
          go_wp2_with (first | (go_at_call 23; (with_reducible refine HRK.out.mono ?_); rintro e w3 ⟨rfl, rfl⟩))
          go_ret2
          exact ⟨⟨.slice none 0 0, by rw [HE.out]; rfl, by rw [HE.out]; exact IsTxtV.nil _⟩, HB.out⟩
        · rw [hok] at HRK
          cases hov : okVal val
          · have HE := Lib.hid (HN2.out hov)
            rw [hov] at HRV
            clear hok hov
            go_wp2_with (first | (go_at_call 23; (with_reducible refine HRK.out.mono ?_); rintro e w3 ⟨rfl, rfl⟩) | (go_at_call 24; (with_reducible refine HRV.out.mono ?_); rintro e w3 ⟨rfl, rfl⟩))
            go_ret2
            exact ⟨⟨.slice none 0 0, by rw [HE.out]; rfl, by rw [HE.out]; exact IsTxtV.nil _⟩, HB.out⟩
          · rw [hov] at HRV
            have HST2 := Lib.hid (HST.out hok hov)
            have HKL8 := Lib.hid (okKey_len hok)
            have HVL8 := Lib.hid (okVal_len hov)
            clear hok hov HST
            go_wp2_with (first | (go_at_call 23; (with_reducible refine HRK.out.mono ?_); rintro e w3 ⟨rfl, rfl⟩) | (go_at_call 24; (with_reducible refine HRV.out.mono ?_); rintro e w3 ⟨rfl, rfl⟩))
            have HKL := Lib.hid hkl
            go_loopw [6] (fun jj wr2 => ∃ j : Nat, j ≤ k ∧ jj = .int .i64 (j : Nat) ∧ (∀ i (hi : i < l.length), i < j → (l[i]).1 ≠ ky) ∧ OwnT wr2 w.heap.size (.slice p4 (printP (l.take k)).length c4) (printP (l.take k)) ∧ Below w.heap.size w wr2) (fun jj _ => (k - intOf jj).toNat)
            case atStart => exact ⟨0, Nat.zero_le _, rfl, fun i hi h => absurd h (by omega), HO.out, HB.out⟩
            case round =>
              obtain ⟨j, hj, rfl, hne, hO2, hB2⟩ := hrel
              have HO2 := Lib.hid hO2
              have HB2 := Lib.hid hB2
              have HNE := Lib.hid hne
              clear hO2 hB2 hne
              obtain ⟨q3, q4⟩ := HCC.out wr HB2.out
              by_cases hjk : j < k
              · obtain ⟨-, g', o', e', hg', hc1', hc2', hcc'⟩ := HH.out.at (show j < l.length by omega)
                cases e'
                have q5 := hcc' wr HB2.out 0 _ rfl
                rw [Nat.add_zero] at q5
                have HN4 := Lib.hid (HN3.out j hjk)
                have HNX := Lib.hid (fun h : (l[j]'(by omega)).1 ≠ ky => (fun i hi hij => by
                  rcases Nat.lt_or_ge i j with h' | h'
                  · exact HNE.out i hi h'
                  · obtain rfl : i = j := by omega
                    exact h : ∀ i (hi : i < l.length), i < j + 1 → (l[i]).1 ≠ ky))
                generalize (l[j]'(by omega)).1 = kj at *
                clear hcc'
                rcases Bool.eq_false_or_eq_true (kj == ky) with hx | hx
                · have HE := Lib.hid (HN4.out (beq_iff_eq.1 hx))
                  go_wp2_with fail
                  go_quiet (fail)
                  go_wp2
                  go_ret2
                  exact ⟨⟨.slice none 0 0, by rw [HE.out]; rfl, by rw [HE.out]; exact IsTxtV.nil _⟩, below_drewN HB2.out nq⟩
                · have HE := Lib.hid (HNX.out (beq_eq_false_iff_ne.1 hx))
                  go_wp2_with fail
                  go_quiet (fail)
                  go_wp2
                  go_roundw
                  case rel => exact ⟨j + 1, by omega, by simp, HE.out, HO2.out.below (below_drewN (Below.refl _ _) nq), below_drewN HB2.out nq⟩
                  case measure => simp [intOf]; omega
              · have HT2 := Lib.hid (HST2.out (fun i hi hik => HNE.out i hi (by omega)))
                obtain ⟨p1, n1, c1, w1, p2, n2, c2, w2, p3, n3, c3, w3, p5, c5, w4, r1, r2, r3, r4, o4, b1, b2, b3, b4⟩ := push_row ky val HO2.out (by have := HLN.out; have := HL16.out; omega) HKL8.out HVL8.out HB2.out.size 23
                rw [← HPT2.out] at o4 r4
                have hln4 : (printP (l.take (k + 1))).length ≤ 320 * (k + 1) := by rw [HPT2.out]; have := HLN.out; have := HKL8.out; have := HVL8.out; simp; omega
                have HO4 := Lib.hid o4
                have HR1 := Lib.hid r1
                have HR2 := Lib.hid r2
                have HR3 := Lib.hid r3
                have HR4 := Lib.hid r4
                have HLN4 := Lib.hid hln4
                have HB4 := Lib.hid (HB2.out.trans b4)
                obtain ⟨q5, q6⟩ := HCC.out w2 (HB2.out.trans b2)
                clear r1 r2 r3 r4 o4 b1 b2 b3 b4 hln4
                generalize hpn : (printP (l.take (k + 1))).length = n5 at *
                go_wp2_with (first
                  | (at_builtin; refine wpList_appended rfl (.tmp 48) (.tmp 53) #[23, 9] 23 rfl rfl rfl rfl HR1.out ?_; clear HR1)
                  | (at_builtin; refine wpList_appended rfl (.tmp 55) (.tmp 56) #[23, 23] 23 rfl rfl rfl rfl HR2.out ?_; clear HR2)
                  | (at_builtin; refine wpList_appended rfl (.tmp 58) (.tmp 63) #[23, 9] 23 rfl rfl rfl rfl HR3.out ?_; clear HR3)
                  | (at_builtin; refine wpList_appended rfl (.tmp 65) (.tmp 66) #[23, 23] 23 rfl rfl rfl rfl HR4.out ?_; clear HR4))
                go_roundw
                case rel => exact ⟨k + 1, HKL.out, by simp, HT2.out, HO4.out, by rw [hpn]; exact HLN4.out, HB4.out⟩
                case measure => simp [intOf]; have := HKL.out; omega
      · have hke : k = l.length := by omega
        have HE := Lib.hid (may_end (hke ▸ HT.out) HL16.out)
        have HO2 := Lib.hid (show OwnT wr w.heap.size u4 (printP l) by have h := HO.out; rw [List.take_of_length_le (by omega)] at h; exact h)
        obtain ⟨p4, c4, rfl⟩ := HO2.out.slice
        have hpl : (printP l).length = total l := printP_length l
        rw [hpl] at HO2
        by_cases ht : total l ≤ 1024
        · have HE2 := Lib.hid (printO_yes (HE.out.trans (decide_eq_true ht)))
          go_wp2_with fail
          go_ret2
          exact ⟨⟨_, by rw [HE2.out]; rfl, by rw [HE2.out]; exact (hpl ▸ HO2.out).txtV⟩, HB.out⟩
        · have HE2 := Lib.hid (printO_no (HE.out.trans (decide_eq_false ht)))
          go_wp2_with fail
          go_ret2
          exact ⟨⟨.slice none 0 0, by rw [HE2.out]; rfl, by rw [HE2.out]; exact IsTxtV.nil _⟩, HB.out⟩
end Go.Proofs.YthjlajplckfldaaGreatDoor
