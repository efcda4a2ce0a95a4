/-
  PROVED HERE: the law KeysParts comes out true, for texts of at most 2^20 bytes. Conditions: those that each theorem names.
-/
import Derived.Test.YthjlajplckfldaaDoorKeyK
import Derived.Test.YthjlajplckfldaaDoorKeyW
import Derived.Test.YthjlajplckfldaaDoorOrder
import Derived.Test.YthjlajplckfldaaDoorQuiet
import Derived.Deep.DeepCutAuto
namespace Go.Proofs.YthjlajplckfldaaDoor
open Go.RowKit Go.Shelf
/-- Is a key of m in l, among the first k? -/
def metK (l m : List Pr) (k : Nat) : Bool := (m.take k).any fun p => (findP l p.1).isSome
theorem metK_step {l m : List Pr} {k : Nat} {key : Txt} (hk : k < m.length) (h : (m[k]).1 = key) : metK l m (k + 1) = (metK l m k || (findP l key).isSome) := by
  unfold metK
  rw [List.take_succ_eq_append_getElem hk, List.any_append, ← h]
  simp
/-- Two texts' pairs may not stand together. -/
def tooMuch (l m : List Pr) (n : Nat) : Bool := decide ((16 : Int) < (l.length : Nat) + (m.length : Nat)) || decide ((1024 : Int) < (n : Nat))
theorem parts_may {a b : Txt} {l m : List Pr} (ha : parseP a = some l) (hb : parseP b = some m) : parseP (a ++ b) = if tooMuch l m (a ++ b).length || metK l m m.length then none else some (l ++ m) := by
  obtain ⟨_, hl, pa⟩ := parseP_some ha
  obtain ⟨_, hm, pb⟩ := parseP_some hb
  have ta : total l = a.length := by rw [← printP_length, pa]
  have tb : total m = b.length := by rw [← printP_length, pb]
  have e : (metK l m m.length) = m.any fun p => (findP l p.1).isSome := by unfold metK; rw [List.take_length]
  have e2 : (m.all fun p => !(l.any fun q => decide (q.1 = p.1))) = !(m.any fun p => (findP l p.1).isSome) := by
    rw [List.not_any_eq_all_not]
    simp only [findP_any]
  rw [parseP_two ha hb, mayP_two hl hm, e, e2]
  have h1 : decide ((16 : Int) < (l.length : Nat) + (m.length : Nat)) = !decide (l.length + m.length ≤ 16) := by
    by_cases h : l.length + m.length ≤ 16
    · rw [decide_eq_true h, decide_eq_false (by omega)]; rfl
    · rw [decide_eq_false h, decide_eq_true (by omega)]; rfl
  have h2 : decide ((1024 : Int) < ((a ++ b).length : Nat)) = !decide (total l + total m ≤ 1024) := by
    rw [List.length_append]
    by_cases h : total l + total m ≤ 1024
    · rw [decide_eq_true h, decide_eq_false (by omega)]; rfl
    · rw [decide_eq_false h, decide_eq_true (by omega)]; rfl
  unfold tooMuch
  rw [h1, h2]
  cases decide (l.length + m.length ≤ 16) <;> cases decide (total l + total m ≤ 1024) <;> cases (m.any fun p => (findP l p.1).isSome) <;> rfl
theorem prs_nil {w : World} {v : Value} (h : IsPrs w v []) : ∃ p c, v = .slice p 0 c := by
  rcases h with ⟨rfl, _⟩ | ⟨g, o, c, rfl, _⟩
  · exact ⟨_, _, rfl⟩
  · exact ⟨_, _, rfl⟩
theorem IsPrs.slice {w : World} {v : Value} {l : List Pr} (h : IsPrs w v l) : ∃ p c, v = .slice p l.length c := by
  rcases h with ⟨rfl, rfl⟩ | ⟨g, o, c, rfl, _⟩
  · exact ⟨_, _, rfl⟩
  · exact ⟨_, _, rfl⟩
section
variable {P : Program}
theorem exec_load_cells {o : Oper} {a : Act} {w : World} {ty : TypeId} {x : Operand} (ho : o.op = .load ty x) {g off n : Nat} (hx : a.eval x = .pointer (some ⟨g, off, none⟩)) {vs : List Value} {d : TypeDesc} (hc : ∀ j u, vs[j]? = some u → w.cell? ⟨g, off + j, none⟩ = some u)
    (hu : P.underlying ty = some d) (hd : (match d with | .struct _ | .array _ _ => true | _ => false) = true) (hi : (P.info? ty).map (·.size) = some n) (hn : vs.length = n) : (execOp a.eval o).run P w = .ok (.value (.agg vs.toArray)) w := by
  unfold execOp
  simp only [ho, hx, Instr.loadAt, Instr.sureAddr, Sem.run_bind, Sem.run_pure, Result.andThen_ok, run_loadVar_cells w g off n ty vs d hc hu hd hi hn]
theorem wpList_appended {ops : Array Oper} {rest : List Oper} {o : Oper} {a : Act} {w w' : World} {Q : Exit → Act → World → Prop} (hgd : o.guard = none) (m x : Operand) (ts : Array TypeId) (ty : TypeId) (ho : o.op = .call { callee := .builtin .append, args := #[m, x], argTypes := ts }) (hty : o.type = ty) {vm vx v : Value} (hm : a.eval m = vm) (hx : a.eval x = vx)
    (hrun : (Builtin.append_ ts ty #[vm, vx]).run P w = .ok v w') (h : wpList P ops Q rest (a.put o.dst v) w') : wpList P ops Q (o :: rest) a w := by
  subst hty
  exact wpList_val hgd _ (exec_append ho hm hx hrun) h
end
set_option maxRecDepth 100000 in
set_option maxHeartbeats 8000000 in
theorem parts_any {w : World} {va vb : Value} {a b : Txt} (ha : IsTxtV w va a) (hb : IsTxtV w vb b) (hla : a.length ≤ 1048576) (hlb : b.length ≤ 1048576) (hV : ∀ W, Below w.heap.size w W → Vars W) : Calls Tryd.prog 3 #[va, vb] w fun e w' => e = .returned (.bool true) ∧ Below w.heap.size w w' := by
  have HA := Lib.hid ha
  have HB := Lib.hid hb
  have HLA := Lib.hid hla
  have HLB := Lib.hid hlb
  have HV := Lib.hid hV
  obtain ⟨pa, ca, rfl, ta, la1, na, _⟩ := ha
  obtain ⟨pb, cb, rfl, tb, lb1, nb, _⟩ := hb
  have HPA := Lib.hid (parse_any pa a ca ta la1 na (by omega))
  have HPB := Lib.hid (fun W (hW : Below w.heap.size w W) => parse_any pb b cb (tb.below hW) lb1 nb (by omega))
  clear ta la1 na tb lb1 nb hla hlb hV
  go_enter Tryd.func3, Tryd.ntmps3
  go_wp2_with fail
  refine HPA.out.mono ?_
  rintro e w1 ⟨⟨v1, rfl, h1⟩, hb1⟩
  have HB1 := Lib.hid hb1
  have H1 := Lib.hid h1
  clear hb1 h1
  go_wp2_with fail
  refine (HPB.out w1 HB1.out).mono ?_
  rintro e w2 ⟨⟨v2, rfl, h2⟩, hb2⟩
  have HB2 := Lib.hid (HB1.out.trans (hb2.mono HB1.out.size))
  have H1b := Lib.hid (H1.out.below hb2)
  have H2 := Lib.hid h2
  have HKN := Lib.hid (known_any (w := w2) (fun W hW => HV.out W (HB2.out.trans (hW.mono HB2.out.size))))
  clear hb2 h2 H1 HPA HPB
  go_wp2_with fail
  refine HKN.out.mono ?_
  rintro e w3 ⟨rfl, hb3⟩
  have HB3 := Lib.hid (HB2.out.trans (hb3.mono HB2.out.size))
  have H1 := Lib.hid (H1b.out.below hb3)
  have H2c := Lib.hid (H2.out.below hb3)
  clear hb3 HKN H1b H2
  cases hpa : parseP a with
  | none =>
    rw [hpa] at H1
    obtain ⟨p1, c1, rfl⟩ := prs_nil H1.out
    obtain ⟨p2, c2, rfl⟩ := H2c.out.slice
    simp only [errP_none]
    clear hpa
    go_wp2_with fail
    go_ret
    exact ⟨rfl, HB3.out⟩
  | some la =>
    rw [hpa] at H1
    simp only [errP_some, Option.getD_some] at H1 ⊢
    obtain ⟨p1, c1, rfl⟩ := H1.out.slice
    cases hpb : parseP b with
    | none =>
      rw [hpb] at H2c
      obtain ⟨p2, c2, rfl⟩ := prs_nil H2c.out
      simp only [errP_none]
      clear hpa hpb
      go_wp2_with fail
      all_goals go_ret
      all_goals exact ⟨rfl, HB3.out⟩
    | some lb =>
      rw [hpb] at H2c
      simp only [errP_some, Option.getD_some] at H2c ⊢
      obtain ⟨p2, c2, rfl⟩ := H2c.out.slice
      obtain ⟨ab, hab⟩ : ∃ ab, a ++ b = ab := ⟨_, rfl⟩
      have hpm := parts_may hpa hpb
      rw [hab] at hpm
      have HPM := Lib.hid hpm
      have hlen : ab.length ≤ 2097152 := by rw [← hab, List.length_append]; have := HLA.out; have := HLB.out; omega
      have hla16 : la.length ≤ 16 := ((mayP_iff la).1 (parseP_some hpa).2.1).2.2.1
      have hlb16 : lb.length ≤ 16 := ((mayP_iff lb).1 (parseP_some hpb).2.1).2.2.1
      have HL16 := Lib.hid (⟨hla16, hlb16⟩ : la.length ≤ 16 ∧ lb.length ≤ 16)
      obtain ⟨v4, w4, r4, o4, u4⟩ := run_pusht (OwnT.nil w3 w3.heap.size) (HA.out.below HB3.out) (by have := HLA.out; simp; omega) (Nat.le_refl _) 22
      rw [List.nil_append] at o4
      have b4 : Below w3.heap.size w3 w4 := (show Upd [] w3 w4 from u4).all
      obtain ⟨v5, w5, r5, o5, u5⟩ := run_pusht o4 (HB.out.below (HB3.out.trans (b4.mono HB3.out.size))) (by have := HLA.out; have := HLB.out; omega) b4.size 22
      rw [hab] at o5
      have b35 : Below w3.heap.size w3 w5 := b4.trans (u5.below b4.size (ownsRow_block o4))
      have b5 : Below w.heap.size w w5 := HB3.out.trans (b35.mono HB3.out.size)
      obtain ⟨p5, c5, rfl⟩ := o5.slice
      obtain ⟨q5, d5, e5, t5, l5, n5, _⟩ := o5.txtV
      cases e5
      have hpc := parse_any p5 ab c5 t5 l5 n5 (by omega)
      have HPC := Lib.hid hpc
      have HR4 := Lib.hid r4
      have HR5 := Lib.hid r5
      have HB5 := Lib.hid b5
      have H15 := Lib.hid (H1.out.below b35)
      have H25 := Lib.hid (H2c.out.below b35)
      have HLEN := Lib.hid hlen
      have b4' : Below w.heap.size w w4 := HB3.out.trans (b4.mono HB3.out.size)
      have HB4 := Lib.hid b4'
      clear r4 o4 u4 b4 r5 o5 u5 b35 b5 t5 l5 n5 hpc hpa hpb hla16 hlb16 b4' H1 H2c hlen hpm hab HA HB HLA HLB
      go_wp2_with (first
        | (at_builtin; refine wpList_appended rfl (.tmp 45) (.tmp 46) #[22, 22] 22 rfl rfl rfl rfl HR4.out ?_; clear HR4)
        | (at_builtin; refine wpList_appended rfl (.tmp 48) (.tmp 49) #[22, 22] 22 rfl rfl rfl rfl HR5.out ?_; clear HR5))
      with_reducible refine HPC.out.mono ?_
      rintro e w6 ⟨⟨v6, rfl, h6⟩, hb6⟩
      obtain ⟨p6, c6, rfl⟩ := h6.slice
      have H6 := Lib.hid h6
      have HB6 := Lib.hid (HB5.out.trans (hb6.mono HB5.out.size))
      have H16 := Lib.hid (H15.out.below hb6)
      have H26 := Lib.hid (H25.out.below hb6)
      clear hb6 h6 HPC H15 H25 HB5
      have hw1 : wrap64 (((la.length : Nat) : Int) + ((lb.length : Nat) : Int)) = ((la.length : Nat) : Int) + ((lb.length : Nat) : Int) := IntWalk.wrap64_in _ (by have := HL16.out; omega)
      go_upto_region 11 with (fail)
      go_cut [12] (fun v wx => v = .bool (tooMuch la lb ab.length) ∧ wx = w6)
      case first =>
        generalize ht1 : decide ((16 : Int) < (la.length : Nat) + (lb.length : Nat)) = T1
        generalize ht2 : decide ((1024 : Int) < (ab.length : Nat)) = T2
        have HE := Lib.hid (show tooMuch la lb ab.length = (T1 || T2) by unfold tooMuch; rw [ht1, ht2])
        cases T1
        · go_wp2_with fail
          go_meet
          exact ⟨congrArg Value.bool HE.out.symm, rfl⟩
        · go_wp2_with fail
          go_meet
          exact ⟨congrArg Value.bool HE.out.symm, rfl⟩
      case rest =>
        obtain ⟨rfl, rfl⟩ := hcut
        generalize hT0 : tooMuch la lb ab.length = T0 at *
        have HPM2 := Lib.hid HPM.out
        clear HPM hw1 hT0
        go_wp2_with fail
        go_loopw [12, 13] (fun t i wr => ∃ k : Nat, k ≤ lb.length ∧ t = .bool (T0 || metK la lb k) ∧ i = .int .i64 (k : Nat) ∧ Below w.heap.size w wr ∧ Below wc.heap.size wc wr) (fun _ i _ => (lb.length - intOf i).toNat)
        case atStart => exact ⟨0, Nat.zero_le _, by simp [metK], rfl, HB6.out, Below.refl _ _⟩
        case round =>
          obtain ⟨k, hk, rfl, rfl, hB, hB2⟩ := hrel
          have HB := Lib.hid hB
          have HB2 := Lib.hid hB2
          clear hB hB2
          have hl := HL16.out
          by_cases hkl : k < lb.length
          · obtain ⟨-, g, o, rfl, hg, hc1, hc2, hcc⟩ := (H26.out.below HB2.out).at hkl
            generalize hkey : (lb[k]).1 = ky at *
            have HST := Lib.hid (metK_step (l := la) hkl hkey)
            have hc0 := hcc wr (Below.refl _ _) 0 _ rfl
            rw [Nat.add_zero] at hc0
            have HF := Lib.hid (find_any ky (H16.out.below HB2.out))
            clear hcc hkey
            generalize metK la lb k = M at *
            go_wp2_with fail
            refine HF.out.mono ?_
            rintro e w7 ⟨rfl, hb7⟩
            have HB7 := Lib.hid (HB.out.trans (hb7.mono HB.out.size))
            have HB72 := Lib.hid (HB2.out.trans (hb7.mono HB2.out.size))
            clear hb7 hc0 HF
            generalize (findP la ky).getD [] = fv at *
            generalize (findP la ky).isSome = fb at *
            cases hTM : (T0 || M)
            · have HX := Lib.hid (show (T0 || metK la lb (k + 1)) = fb by rw [HST.out, ← Bool.or_assoc, hTM, Bool.false_or])
              clear HST hTM
              go_wp2_with fail
              go_roundw
              case rel => exact ⟨k + 1, hkl, by rw [HX.out], by simp, HB7.out, HB72.out⟩
              case measure => simp [intOf]; omega
            · have HX := Lib.hid (show (T0 || metK la lb (k + 1)) = true by rw [HST.out, ← Bool.or_assoc, hTM, Bool.true_or])
              clear HST hTM
              go_wp2_with fail
              go_roundw
              case rel => exact ⟨k + 1, hkl, by rw [HX.out], by simp, HB7.out, HB72.out⟩
              case measure => simp [intOf]; omega
          · have hkl2 : k = lb.length := by omega
            subst hkl2
            generalize hTM : (T0 || metK la lb lb.length) = TM at *
            have H6b := Lib.hid H6.out
            have HPM3 := Lib.hid HPM2.out
            clear hTM H6 HPM2
            cases TM
            · have hP : parseP ab = some (la ++ lb) := by simpa using HPM3.out
              rw [hP] at H6b ⊢
              simp only [errP_some, Option.getD_some] at H6b ⊢
              have hLAB : (la ++ lb).length = la.length + lb.length := List.length_append
              rw [hLAB]
              have HLAB := Lib.hid hLAB
              have hw1 : wrap64 (((la.length : Nat) : Int) + ((lb.length : Nat) : Int)) = ((la.length + lb.length : Nat) : Int) := by rw [IntWalk.wrap64_in _ (by have := HL16.out; omega)]; omega
              clear hP HPM3 hLAB
              go_wp2_with fail
              go_loopw [16, 17, 18] (fun i s t wr2 => ∃ k : Nat, k ≤ la.length + lb.length ∧ i = .int .i64 (k : Nat) ∧ Below w.heap.size w wr2 ∧ Below wc.heap.size wc wr2) (fun i _ _ _ => (la.length + lb.length - intOf i).toNat)
              case atStart => exact ⟨0, Nat.zero_le _, rfl, HB.out, HB2.out⟩
              case round =>
                obtain ⟨wr2, hwr2⟩ : ∃ x, x = wr := ⟨_, rfl⟩
                subst hwr2
                obtain ⟨k, hk, rfl, hB8, hB82⟩ := hrel
                have HB8 := Lib.hid hB8
                have HB82 := Lib.hid hB82
                clear hB8 hB82
                have hl := HL16.out
                by_cases hkl : k < la.length + lb.length
                · have hkl' : k < (la ++ lb).length := by rw [HLAB.out]; exact hkl
                  obtain ⟨-, g, o, rfl, hg, hc1, hc2, hcc⟩ := (H6b.out.below HB82.out).at hkl'
                  have hws : wrap64 ((k : Int) - ((la.length : Nat) : Int)) = (k : Int) - ((la.length : Nat) : Int) := IntWalk.wrap64_in _ (by omega)
                  by_cases hka : k < la.length
                  · have hpa : (la ++ lb)[k] = la[k] := List.getElem_append_left hka
                    obtain ⟨-, g2, o2, rfl, hg2, hd1, hd2, hdd⟩ := (H16.out.below HB82.out).at hka
                    rw [hpa] at hcc
                    generalize (la[k]).1 = ky at *
                    generalize (la[k]).2 = val at *
                    have HCC := Lib.hid hcc
                    have HD := Lib.hid hdd
                    clear hcc hdd hpa
                    go_wp2_with fail
                    refine wp_region_quiet_at (fun W => Below wr2.heap.size wr2 W) rfl (by kernel_rfl) ((Below.refl _ _).drew) ?_
                    apply qs_val rfl
                    · intro W hW; go_simp; all_goals with_reducible rfl
                    simp only [Act.put, List.setIfInBounds_toArray, List.set_cons_zero, List.set_cons_succ]
                    apply qs_val rfl
                    · intro W hW; go_simp; all_goals with_reducible rfl
                    simp only [Act.put, List.setIfInBounds_toArray, List.set_cons_zero, List.set_cons_succ]
                    apply qs_val rfl
                    · intro W hW; go_simp; all_goals with_reducible rfl
                    simp only [Act.put, List.setIfInBounds_toArray, List.set_cons_zero, List.set_cons_succ]
                    apply qs_val rfl (fun W hW => exec_load_cells (vs := [.string (txt ky), .string (txt val)]) rfl rfl (HCC.out W hW) Tryd.underlying31 rfl (by kernel_rfl) rfl)
                    simp only [Act.put, List.setIfInBounds_toArray, List.set_cons_zero, List.set_cons_succ]
                    apply qs_val rfl
                    · intro W hW; go_simp; all_goals with_reducible rfl
                    simp only [Act.put, List.setIfInBounds_toArray, List.set_cons_zero, List.set_cons_succ]
                    apply qs_val rfl
                    · intro W hW; go_simp; all_goals with_reducible rfl
                    simp only [Act.put, List.setIfInBounds_toArray, List.set_cons_zero, List.set_cons_succ]
                    apply qs_val rfl
                    · intro W hW; go_simp; all_goals with_reducible rfl
                    simp only [Act.put, List.setIfInBounds_toArray, List.set_cons_zero, List.set_cons_succ]
                    apply qs_val rfl (fun W hW => exec_load_cells (vs := [.string (txt ky), .string (txt val)]) rfl rfl (HD.out W hW) Tryd.underlying31 rfl (by kernel_rfl) rfl)
                    simp only [Act.put, List.setIfInBounds_toArray, List.set_cons_zero, List.set_cons_succ]
                    apply qs_val rfl
                    · intro W hW; go_simp; all_goals with_reducible rfl
                    simp only [Act.put, List.setIfInBounds_toArray, List.set_cons_zero, List.set_cons_succ]
                    intro w8 hw8
                    go_wp2_with fail
                    go_roundw
                    case rel => exact ⟨k + 1, hkl, by simp, HB8.out.trans (hw8.mono HB8.out.size), HB82.out.trans (hw8.mono HB82.out.size)⟩
                    case measure => simp [intOf]; omega
                  · obtain ⟨j, hj⟩ : ∃ j, k = la.length + j := ⟨k - la.length, by omega⟩
                    have hjb : j < lb.length := by omega
                    have hpa : (la ++ lb)[k] = lb[j] := by rw [List.getElem_append_right (by omega)]; congr 1; omega
                    obtain ⟨-, g2, o2, rfl, hg2, hd1, hd2, hdd⟩ := (H26.out.below HB82.out).at hjb
                    rw [hpa] at hcc
                    generalize (lb[j]).1 = ky at *
                    generalize (lb[j]).2 = val at *
                    have HCC := Lib.hid hcc
                    have HD := Lib.hid hdd
                    have hwj : wrap64 ((k : Int) - ((la.length : Nat) : Int)) = ((j : Nat) : Int) := by rw [hws]; omega
                    have hzj : (k : Int) - ((la.length : Nat) : Int) = ((j : Nat) : Int) := by omega
                    clear hcc hdd hpa hws hj
                    go_wp2_with fail
                    refine wp_region_quiet_at (fun W => Below wr2.heap.size wr2 W) rfl (by kernel_rfl) ((Below.refl _ _).drew) ?_
                    apply qs_val rfl
                    · intro W hW; go_simp; all_goals with_reducible rfl
                    simp only [Act.put, List.setIfInBounds_toArray, List.set_cons_zero, List.set_cons_succ]
                    apply qs_val rfl
                    · intro W hW; go_simp; all_goals with_reducible rfl
                    simp only [Act.put, List.setIfInBounds_toArray, List.set_cons_zero, List.set_cons_succ]
                    apply qs_val rfl
                    · intro W hW; go_simp; all_goals with_reducible rfl
                    simp only [Act.put, List.setIfInBounds_toArray, List.set_cons_zero, List.set_cons_succ]
                    apply qs_val rfl (fun W hW => exec_load_cells (vs := [.string (txt ky), .string (txt val)]) rfl rfl (HCC.out W hW) Tryd.underlying31 rfl (by kernel_rfl) rfl)
                    simp only [Act.put, List.setIfInBounds_toArray, List.set_cons_zero, List.set_cons_succ]
                    apply qs_val rfl
                    · intro W hW; go_simp; all_goals with_reducible rfl
                    simp only [Act.put, List.setIfInBounds_toArray, List.set_cons_zero, List.set_cons_succ]
                    apply qs_val rfl
                    · intro W hW; go_simp; all_goals with_reducible rfl
                    simp only [Act.put, List.setIfInBounds_toArray, List.set_cons_zero, List.set_cons_succ]
                    apply qs_val rfl
                    · intro W hW; go_simp; all_goals with_reducible rfl
                    simp only [Act.put, List.setIfInBounds_toArray, List.set_cons_zero, List.set_cons_succ]
                    apply qs_val rfl (fun W hW => exec_load_cells (vs := [.string (txt ky), .string (txt val)]) rfl rfl (HD.out W hW) Tryd.underlying31 rfl (by kernel_rfl) rfl)
                    simp only [Act.put, List.setIfInBounds_toArray, List.set_cons_zero, List.set_cons_succ]
                    apply qs_val rfl
                    · intro W hW; go_simp; all_goals with_reducible rfl
                    simp only [Act.put, List.setIfInBounds_toArray, List.set_cons_zero, List.set_cons_succ]
                    intro w8 hw8
                    go_wp2_with fail
                    go_roundw
                    case rel => exact ⟨k + 1, hkl, by simp, HB8.out.trans (hw8.mono HB8.out.size), HB82.out.trans (hw8.mono HB82.out.size)⟩
                    case measure => simp [intOf]; omega
                · go_wp2_with fail
                  go_ret
                  exact ⟨rfl, HB8.out⟩
            · have hP : parseP ab = none := by simpa using HPM3.out
              rw [hP]
              simp only [errP_none, Option.getD_none]
              clear hP HPM3
              go_wp2_with fail
              go_ret
              exact ⟨rfl, HB.out⟩
end Go.Proofs.YthjlajplckfldaaDoor
