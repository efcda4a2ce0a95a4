/-
  PROVED HERE: the keys of a request are answered as the plain function says. Conditions: those that each theorem names.
-/
import Derived.Test.YtlhdjgibkiffaaaGreatDoorLogT
import Derived.Test.YtlhdjgibkiffaaaGreatDoorLogR
import Derived.Deep.DeepCutAuto
namespace Go.Proofs.YtlhdjgibkiffaaaGreatDoor
open Go.RowKit Go.Shelf
theorem turnKey_ans (first op1 : Bool) (n : Nx) (q : Pr) : (turnKey first op1 n q).1.ans.length ≤ n.ans.length + 1 := by
  unfold turnKey
  repeat' split
  all_goals simp
theorem total_mem {l : List Pr} {p : Pr} (h : p ∈ l) : p.1.length + p.2.length ≤ total l := by
  induction l with
  | nil => cases h
  | cons q l ih =>
    rw [total_cons]
    rcases List.mem_cons.1 h with rfl | h
    · omega
    · have := ih h; omega
theorem wpList_appended {P : Program} {ops : Array Oper} {rest : List Oper} {o : Oper} {a : Act} {w w' : World} {Q : Exit → Act → World → Prop} (hgd : o.guard = none) (m x : Operand) (ts : Array TypeId) (ty : TypeId) (ho : o.op = .call { callee := .builtin .append, args := #[m, x], argTypes := ts }) (hty : o.type = ty) {vm vx v : Value} (hm : a.eval m = vm) (hx : a.eval x = vx)
    (hrun : (Builtin.append_ ts ty #[vm, vx]).run P w = .ok v w') (h : wpList P ops Q rest (a.put o.dst v) w') : wpList P ops Q (o :: rest) a w := by
  subst hty
  exact wpList_val hgd _ (exec_append ho hm hx hrun) h
/-- One pair is appended. -/
theorem run_pushkp {W : World} {base : Nat} {v : Value} {l : List Pr} (p : Pr) (hv : W.ownsRow base 68 2 v l.length (prCells l)) (hl : l.length ≤ 1000000) (hb : base ≤ W.heap.size) (ty : TypeId) :
    ∃ q c w', (Builtin.append_ #[44, 44] ty #[v, .slice (some ⟨W.heap.size, 0, none⟩) 1 1]).run Tryz.prog (W.alloc (.cells #[.string (txt p.1), .string (txt p.2)] 68)) = .ok (.slice q (l.length + 1) c) w' ∧
      w'.ownsRow base 68 2 (.slice q (l.length + 1) c) (l ++ [p]).length (prCells (l ++ [p])) ∧ Below base W w' ∧ Upd v.ownBlock.toList W w' := by
  obtain ⟨i0, hi, hz0, hz1, hz2⟩ := info_parts infoPair3
  obtain ⟨v6, w6, hrun, h6, g6, _⟩ := run_append_own (P := Tryz.prog) (W.alloc (.cells [.string (txt p.1), .string (txt p.2)].toArray 68)) base 44 ty 68 i0 _ 2 32 Tryz.underlying44 hi hz0 hz1 hz2 rfl (by decide) v l.length (prCells l) (hv.alloc _) ⟨W.heap.size, 0, none⟩ 1 1 [.string (txt p.1), .string (txt p.2)] rfl (news_at W [.string (txt p.1), .string (txt p.2)] _) (by simp [Value.oneCell']) (by unfold maxLen; omega) (by omega) (by simp; omega)
  obtain ⟨gg6, cap6, rfl⟩ := ownsRow_succ h6
  refine ⟨_, _, w6, hrun, ?_, ((Below.refl base W).alloc hb _).trans ((Upd.of_grown g6).below (by simp; omega) (fun x hx => ownsRow_block hv x hx)), ((Upd.refl _ _).alloc _).trans (Upd.of_grown g6)⟩
  rw [prCells_append, List.length_append]
  simpa [prCells] using h6
/-- What talk leaves. -/
def TalkRes (W' : World) (e : Ending) (c b m : Nat) (first : Bool) (st : Nat) (l : Lg) : Except Int (Nx × Txt) → Prop
  | .error s => e = .returned (.tuple #[.slice none 0 0, .int .i64 s])
  | .ok (n, t) => ∃ v, e = .returned (.tuple #[v, .int .i64 0]) ∧ IsTxtV W' v t ∧ TuAt W' c b m first st (nextL l n)
theorem cell_map {w : World} {m o : Nat} {es : Array MapEntry} {clock : Nat} (h : w.heap[m]? = some (.map es clock)) : w.cell? ⟨m, o, none⟩ = none := by
  simp [World.cell?, h]
theorem tu_pair {w : World} {c b m : Nat} {first : Bool} {st : Nat} {s : Lg} (h : TuAt w c b m first st s) (g o : Nat) (x y : ByteArray) (h1 : w.cell? ⟨g, o, none⟩ = some (.string x)) (h2 : w.cell? ⟨g, o + 1, none⟩ = some (.string y)) : g ∉ [c, m] := by
  intro hm
  simp only [List.mem_cons, List.not_mem_nil, or_false] at hm
  rcases hm with rfl | rfl
  · rw [h.cell] at h1 h2
    have hlt : o < 15 := by have := (List.getElem?_eq_some_iff.1 h1).1; simpa using this
    have ho : o = 0 ∨ o = 1 ∨ o = 2 ∨ o = 3 ∨ o = 4 ∨ o = 5 ∨ o = 6 ∨ o = 7 ∨ o = 8 ∨ o = 9 ∨ o = 10 ∨ o = 11 ∨ o = 12 ∨ o = 13 ∨ o = 14 := by omega
    rcases ho with rfl | rfl | rfl | rfl | rfl | rfl | rfl | rfl | rfl | rfl | rfl | rfl | rfl | rfl | rfl <;> simp at h1 h2
  · obtain ⟨D, ⟨es, clock, hb, _⟩, _⟩ := h.set
    rw [cell_map hb] at h1
    cases h1
theorem IsPrs.updT {w w' : World} {v : Value} {l : List Pr} {T : List Nat} (h : IsPrs w v l) (u : Upd T w w') (hT : ∀ g o x y, w.cell? ⟨g, o, none⟩ = some (.string x) → w.cell? ⟨g, o + 1, none⟩ = some (.string y) → g ∉ T) : IsPrs w' v l := by
  rcases h with h | ⟨g, o, cap, h1, h2, h2', h3, h4⟩
  · exact .inl h
  · by_cases h0 : 0 < l.length
    · have hg := hT g _ _ _ (h4 0 h0).1 (h4 0 h0).2
      refine .inr ⟨g, o, cap, h1, h2, h2', Nat.lt_of_lt_of_le h3 u.size, fun i hi => ?_⟩
      have hb := u.block g h3 hg
      exact ⟨(World.cell?_of_block (a := ⟨g, _, none⟩) hb).trans (h4 i hi).1, (World.cell?_of_block (a := ⟨g, _, none⟩) hb).trans (h4 i hi).2⟩
    · exact .inr ⟨g, o, cap, h1, h2, h2', Nat.lt_of_lt_of_le h3 u.size, fun i hi => absurd hi (by omega)⟩
def nx0 (l : Lg) (p : Pd) : Nx := if l.taken = 0 then ⟨{ l.tm with isid := p.wide, tsih := p.short }, p.tag, l.ans⟩ else ⟨l.tm, l.tag, l.ans⟩
theorem talkP_bad {l : Lg} {p : Pd} (h : parseP p.data = none) : talkP l p = .error 512 := by unfold talkP; rw [h]
theorem talkP_noname {l : Lg} {p : Pd} {ps : List Pr} (h : parseP p.data = some ps) (h0 : l.taken = 0) (hn : (findP ps kName).getD [] = []) : talkP l p = .error 519 := by unfold talkP; rw [h]; simp [h0, hn]
theorem talkP_all {l : Lg} {p : Pd} {ps : List Pr} (h : parseP p.data = some ps) (hn : l.taken = 0 → (findP ps kName).getD [] ≠ []) : talkP l p = match turnAll (decide (l.taken = 0)) (decide (stageOf p = 1)) (nx0 l p) [] ps with
      | .error s => .error s
      | .ok (n, out) => if mayP (told (decide (stageOf p = 1)) l.operated out) then .ok (n, printP (told (decide (stageOf p = 1)) l.operated out)) else .error 512 := by
  unfold talkP
  rw [h]
  simp only
  rw [if_neg (by simpa using hn)]
  rfl
set_option maxRecDepth 100000 in
set_option maxHeartbeats 16000000 in
theorem talk_any {W : World} {b c m mb : Nat} {l : Lg} {A : Array Value} {p : Pd} {dv : Value} (hl : LgAt W b mb l) (ht : TuAt W c b m (decide (l.taken = 0)) (stageOf p) l) (hp : PdIs A p dv) (hd : IsTxtV W dv p.data) (hdl : p.data.length ≤ 1048576) (hal : l.ans.length ≤ 500) (hcb : c ≠ b) (hbm : b ≠ m) (hmb : mb ≠ c) (hmm : mb ≠ m) (hV : ∀ W', Upd [c, m] W W' → Vars W') :
    Calls Tryz.prog 19 #[.pointer (some ⟨c, 0, none⟩), .agg A] W fun e W' => TalkRes W' e c b m (decide (l.taken = 0)) (stageOf p) l (talkP l p) ∧ Upd [c, m] W W' := by
  have hb1 : Below W.heap.size W (W.alloc (.cells A 37)) := (Below.refl _ _).alloc (Nat.le_refl _) _
  have HB1 := Lib.hid hb1
  have a0 := alloc_last W (.cells A 37)
  have HA0 := Lib.hid a0
  have HP := Lib.hid hp
  have HL := Lib.hid hl
  have HTU := Lib.hid ht
  have HV := Lib.hid hV
  have HDL := Lib.hid hdl
  have HAL := Lib.hid hal
  have HD := Lib.hid hd
  have hcl := ht.lt
  have z26 : (W.alloc (.cells A 37)).cell? ⟨W.heap.size, 26, none⟩ = some dv := ((cells_of a0).1 26).trans hp.c26
  have q26 := hp.c26
  obtain ⟨dp, dc, rfl, td, ld, nd, _⟩ := hd.below hb1
  have HPA := Lib.hid (parse_any dp p.data dc td ld nd (by omega))
  clear hl ht hp hd hdl hal hV td ld nd hb1 a0
  go_enter Tryz.func19, Tryz.ntmps19
  go_wp2_with fail
  refine HPA.out.mono ?_
  rintro e w1 ⟨⟨v1, rfl, h1⟩, hb1⟩
  have HBW1 := Lib.hid (HB1.out.trans (hb1.mono HB1.out.size))
  have HBX1 := Lib.hid hb1
  have H1 := Lib.hid h1
  clear hb1 h1 HPA
  cases hpp : parseP p.data with
  | none =>
    have HE := Lib.hid (talkP_bad (l := l) hpp)
    rw [hpp] at H1
    obtain ⟨pp, cc, rfl⟩ : ∃ a b, v1 = .slice a 0 b := by
      rcases H1.out with ⟨rfl, _⟩ | ⟨g, o, c, rfl, _⟩
      · exact ⟨_, _, rfl⟩
      · exact ⟨_, _, rfl⟩
    have e43 : errP (none : Option (List Pr)) = 43 := rfl
    rw [e43]
    clear hpp z26 q26
    go_wp2_with fail
    go_ret2
    exact ⟨by rw [HE.out]; rfl, (Upd.of_below HBW1.out).mono (by simp)⟩
  | some ps =>
    have HPP := Lib.hid hpp
    rw [hpp] at H1
    simp only [Option.getD_some] at H1
    obtain ⟨pp, cc, rfl⟩ : ∃ a b, v1 = .slice a ps.length b := by
      rcases H1.out with ⟨rfl, rfl⟩ | ⟨g, o, c, rfl, _⟩
      · exact ⟨_, _, rfl⟩
      · exact ⟨_, _, rfl⟩
    have e0 : errP (some ps) = 0 := rfl
    rw [e0]
    have HFI := Lib.hid (find_any kName H1.out)
    clear hpp z26 q26
    go_wp2_with fail
    refine HFI.out.mono ?_
    rintro e w2 ⟨rfl, hb2⟩
    have HBW2 := Lib.hid (HBW1.out.trans (hb2.mono HBW1.out.size))
    have HBX2 := Lib.hid (HBX1.out.trans (hb2.mono HBX1.out.size))
    have H1b := Lib.hid (H1.out.below hb2)
    have HT2 := Lib.hid (HTU.out.upd (Upd.of_below HBW2.out) (by simp) (by simp))
    have t1 := HT2.out.cell 1
    simp only [List.getElem?_cons_zero, List.getElem?_cons_succ] at t1
    clear hb2 H1 HFI
    generalize hnm : (findP ps kName).getD [] = nm at *
    generalize (findP ps kName).isSome = nmb at *
    have HX1 := Lib.hid (show decide (l.taken = 0) = true → nx0 l p = ⟨{ l.tm with isid := p.wide, tsih := p.short }, p.tag, l.ans⟩ from fun h => by unfold nx0; rw [if_pos (of_decide_eq_true h)])
    have HX0 := Lib.hid (show decide (l.taken = 0) = false → nx0 l p = ⟨l.tm, l.tag, l.ans⟩ from fun h => by unfold nx0; rw [if_neg (of_decide_eq_false h)])
    have HNO := Lib.hid (fun h0 h1 => talkP_noname (l := l) HPP.out h0 (hnm.trans h1))
    have HALL := Lib.hid (fun (h : l.taken = 0 → nm ≠ []) => talkP_all (l := l) HPP.out (fun h0 => by rw [hnm]; exact h h0))
    by_cases hbad : decide (l.taken = 0) = true ∧ nm = []
    · have HE := Lib.hid (HNO.out (of_decide_eq_true hbad.1) hbad.2)
      rw [hbad.1] at t1
      have hnn : nm = [] := hbad.2
      subst hnn
      clear hbad
      go_wp2_with fail
      go_ret2
      exact ⟨by rw [HE.out]; rfl, (Upd.of_below HBW2.out).mono (by simp)⟩
    · have HE := Lib.hid (HALL.out (fun h0 h1 => hbad ⟨decide_eq_true h0, h1⟩))
      have HNB := Lib.hid hbad
      generalize hfst : decide (l.taken = 0) = first at *
      generalize hst : stageOf p = st at *
      clear hnm hbad
      go_upto_region 5 with (fail)
      go_cut [41] (fun v wx => v = .bool false ∧ wx = w2)
      case first =>
        cases first
        · go_wp2_with fail
          go_meet
          exact ⟨rfl, rfl⟩
        · have hne : (nm == []) = false := beq_eq_false_iff_ne.2 (fun h => HNB.out ⟨rfl, h⟩)
          go_wp2_with fail
          go_meet
          exact ⟨rfl, rfl⟩
      case rest =>
        obtain ⟨rfl, hw2⟩ := hcut
        have hw3 := hw2.symm
        subst hw3
        go_upto_if 45 with (fail)
        go_cut [] (fun wx => TuAt wx c b m first st (nextL l (nx0 l p)) ∧ Upd [c, m] w2 wx)
        case first =>
          cases first
          · have HX := Lib.hid (HX0.out rfl)
            go_wp2_with fail
            go_meet
            exact ⟨by rw [HX.out]; exact HT2.out, Upd.refl _ _⟩
          · have HX := Lib.hid (HX1.out rfl)
            have hbx := cells_of ((Upd.of_below HBX2.out).get HA0.out (by simp))
            have z4 : w2.cell? ⟨W.heap.size, 4, none⟩ = some (.int .i64 p.wide) := (hbx.1 4).trans HP.out.c4
            have z5 : w2.cell? ⟨W.heap.size, 5, none⟩ = some (.int .i64 p.short) := (hbx.1 5).trans HP.out.c5
            have z6 : w2.cell? ⟨W.heap.size, 6, none⟩ = some (.int .i64 p.tag) := (hbx.1 6).trans HP.out.c6
            have d4 := HT2.out.cell 4; have d5 := HT2.out.cell 5; have d11 := HT2.out.cell 11
            have f4 := HT2.out.frz 4; have f5 := HT2.out.frz 5; have f11 := HT2.out.frz 11
            simp only [List.getElem?_cons_zero, List.getElem?_cons_succ] at d4 d5 d11
            clear hbx
            go_wp2_with fail
            go_region
            go_wp2
            go_meet
            exact ⟨by rw [HX.out]; exact (((HT2.out.put (s' := { l with tm := { l.tm with isid := p.wide } }) 4 (.int .i64 p.wide) rfl rfl).put (s' := { l with tm := { l.tm with isid := p.wide, tsih := p.short } }) 5 (.int .i64 p.short) rfl rfl).put (s' := nextL l ⟨{ l.tm with isid := p.wide, tsih := p.short }, p.tag, l.ans⟩) 11 (.int .i64 p.tag) rfl rfl).upd ((Upd.refl [] _).drew) (by simp) (by simp),
              ((((Upd.refl _ _).setCell (.inl (by simp)) _).setCell (.inl (by simp)) _).setCell (.inl (by simp)) _).drew⟩
        case rest =>
          obtain ⟨ht3, hu3⟩ := hcut
          have HT3 := Lib.hid ht3
          have HUW3 := Lib.hid (((Upd.of_below HBW2.out).mono (by simp)).trans (hu3 : Upd [c, m] w2 wc))
          have H1c := Lib.hid (H1b.out.updT hu3 (fun g o x y h1 h2 => tu_pair HT2.out g o x y h1 h2))
          have HAN := Lib.hid (answers_any wc)
          clear ht3 hu3 H1b t1 HT2 HBX2 HBX1
          go_wp2_with fail
          refine HAN.out.mono ?_
          rintro e w4 ⟨⟨ma, rfl, hma, hvm⟩, hb4⟩
          have HT4 := Lib.hid (HT3.out.upd (Upd.of_below hb4) (by simp) (by simp))
          have HUW4 := Lib.hid (HUW3.out.trans ((Upd.of_below hb4).mono (by simp)))
          have H1d := Lib.hid (H1c.out.below hb4)
          have HVM := Lib.hid hvm
          have hmlt : m < W.heap.size := HTU.out.set.lt
          have hcm4 : c < w4.heap.size ∧ m < w4.heap.size ∧ m < ma ∧ c < ma := by
            have h1 := HUW4.out.size
            have h2 := HUW3.out.size
            omega
          have HCM := Lib.hid hcm4
          clear hcm4 hmlt hma hvm hb4 HAN H1c HT3
          go_wp2_with fail
          go_loopw [10, 69] (fun u i wr => ∃ (k : Nat) (n : Nx) (o : List Pr), k ≤ ps.length ∧ i = .int .i64 (k : Nat) ∧ turnAll first (decide (st = 1)) (nx0 l p) [] ps = turnAll first (decide (st = 1)) n o (ps.drop k) ∧ o.length ≤ k ∧ n.ans.length ≤ l.ans.length + k ∧ wr.ownsRow w4.heap.size 68 2 u o.length (prCells o) ∧ TuAt wr c b m first st (nextL l n) ∧ Upd [c, m] w4 wr) (fun _ i _ => (ps.length - intOf i).toNat)
          case atStart => exact ⟨0, nx0 l p, [], Nat.zero_le _, rfl, rfl, Nat.le_refl _, by unfold nx0; split <;> simp, World.ownsRow_nil _ _ _ _, HT4.out, Upd.refl _ _⟩
          case round =>
            obtain ⟨k, n, o, hk, rfl, hTA, hol, hal, hO, hT, hU⟩ := hrel
            have HPS := Lib.hid (H1d.out.updT hU (fun g o x y h1 h2 => tu_pair HT4.out g o x y h1 h2))
            have HO := Lib.hid hO
            have HT := Lib.hid hT
            have HU := Lib.hid hU
            have HTA := Lib.hid hTA
            have HHAL := Lib.hid hal
            have HOL := Lib.hid hol
            have HPL := Lib.hid (show ps.length ≤ 16 from ((mayP_iff ps).1 (parseP_some HPP.out).2.1).2.2.1)
            have hpl := HPL.out
            obtain ⟨up, un, uc, rfl⟩ : ∃ p n c, u10 = .slice p n c := by
              obtain ⟨_, ⟨e, _⟩ | ⟨_, _, _, e, _⟩⟩ := hO
              · exact ⟨_, _, _, e⟩
              · exact ⟨_, _, _, e⟩
            by_cases hkl : k < ps.length
            · obtain ⟨-, g, o2, rfl, hg, hc1, hc2, hcc⟩ := HPS.out.at hkl
              have hlen : (ps[k]).1.length ≤ 281474976710656 ∧ (ps[k]).2.length ≤ 281474976710656 := by
                have h1 := total_mem (List.getElem_mem hkl)
                have h2 := congrArg List.length (parseP_some HPP.out).2.2
                rw [printP_length] at h2
                have := HDL.out
                omega
              have hdr : ps.drop k = ps[k] :: ps.drop (k + 1) := List.drop_eq_getElem_cons hkl
              rw [hdr] at HTA
              have hcc2 := hcc wr (Below.refl _ _)
              have hb5 : Upd [c, m] wr (wr.alloc (.cells #[.string (txt (ps[k]).1), .string (txt (ps[k]).2)] 68)) := (Upd.refl _ _).alloc _
              have hk5 := key_any (key := (ps[k]).1) (val := (ps[k]).2) (HT.out.upd ((Upd.refl [] wr).alloc (.cells #[.string (txt (ps[k]).1), .string (txt (ps[k]).2)] 68)) (by simp) (by simp)) hlen.1 hlen.2 (by have := HAL.out; show n.ans.length ≤ 1000; omega) (fun W' hW' => HV.out W' ((HUW4.out.trans (HU.out.trans hb5)).trans ((Upd.of_below hW').mono (by simp))))
              have hlk := ((HVM.out.upd (HU.out.trans hb5) (by have := HCM.out; simp; omega))).look Tryz.underlying9 Tryz.underlying73 (Tryz.zeroValue75 _) (x := (ps[k]).1) (by unfold maxLen; omega)
              rcases hq : ps[k] with ⟨ky, val⟩
              rw [hq] at hk5 hlk hcc2 HTA hb5
              unfold KeyDoes at hk5
              generalize hX1 : (turnKey first (decide (st = 1)) n (ky, val)).1 = n1 at *
              generalize hX2 : (turnKey first (decide (st = 1)) n (ky, val)).2.1 = tv at *
              generalize hX3 : (turnKey first (decide (st = 1)) n (ky, val)).2.2 = ts at *
              have HTS := Lib.hid (show turnAll first (decide (st = 1)) (nx0 l p) [] ps = if ts ≠ 0 then .error ts else turnAll first (decide (st = 1)) n1 (if tv = [] then o else o ++ [(ky, tv)]) (ps.drop (k + 1)) by rw [← hX1, ← hX2, ← hX3]; exact HTA.out)
              have HN1 := Lib.hid (show n1.ans.length ≤ l.ans.length + (k + 1) by rw [← hX1]; have := turnKey_ans first (decide (st = 1)) n (ky, val); omega)
              have HKL := Lib.hid hkl
              rcases hk5 with hno | ⟨f, hf, hen, hcall⟩
              · rw [hno] at hlk
                simp only [Option.getD_none, Option.isSome_none] at hlk
                have hxx := ansF_none hno first (decide (st = 1)) n val
                rw [hxx] at hX1 hX2 hX3
                dsimp only at hX1 hX2 hX3
                have HTS3 := Lib.hid (show turnAll first (decide (st = 1)) (nx0 l p) [] ps = turnAll first (decide (st = 1)) n1 (o ++ [(ky, tv)]) (ps.drop (k + 1)) by
                  have h := HTS.out
                  rw [if_neg (by rw [← hX3]; simp), if_neg (by rw [← hX2]; decide)] at h
                  exact h)
                subst hX2
                subst hX1
                have hu6 : Upd [c, m] wr (wr.alloc (.cells #[.string (txt ky), .string (txt val)] 68)) := hb5
                generalize htv : tNot = tv at *
                have htv2 : List.isEmpty tv = false := by rw [← htv]; rfl
                have htv3 : [78, 111, 116, 85, 110, 100, 101, 114, 115, 116, 111, 111, 100] = tv := htv
                obtain ⟨q7, c7, w7, r7, o7, b7, v7⟩ := run_pushkp (W := wr.alloc (.cells #[.string (txt ky), .string (txt val)] 68)) (ky, tv) (ownsRow_upd HO.out hu6 (by have := HCM.out; simp; omega)) (by have := HOL.out; omega) (by have h1 := HU.out.size; have h2 := (hu6).size; omega) 44
                have HR7 := Lib.hid r7
                have HO7 := Lib.hid o7
                have h7 := (HT.out.upd ((Upd.refl [] wr).alloc (.cells #[.string (txt ky), .string (txt val)] 68)) (by simp) (by simp)).upd v7 (by have := HCM.out; have := ownsRow_block HO.out; intro hm; have := this _ hm; omega) (by have := HCM.out; have := ownsRow_block HO.out; intro hm; have := this _ hm; omega)
                have H7 := Lib.hid h7
                have HU7 := Lib.hid (show Upd [c, m] w4 w7 from (HU.out.trans hu6).step v7 (fun x hx => .inr (ownsRow_block HO.out x hx)))
                clear r7 o7 b7 v7 h7
                rw [size_alloc1] at HR7
                clear hlen hdr hX3 hq hcc HTA hno hxx hu6 htv
                go_wp2_with (first
                  | (refine wpList_load_cells rfl 68 (.tmp 71) rfl g (o2 + k * 2) 2 rfl [.string (txt ky), .string (txt val)] _ hcc2 Tryz.underlying68 rfl (by kernel_rfl) rfl ?_)
                  | (at_builtin; refine wpList_appended rfl (.tmp 93) (.tmp 98) #[44, 44] 44 rfl rfl rfl rfl HR7.out ?_; clear HR7))
                go_roundw
                case rel => exact ⟨k + 1, n, o ++ [(ky, tv)], HKL.out, by simp, HTS3.out, by simp; have := HOL.out; omega, HN1.out, by simpa using HO7.out, H7.out, HU7.out⟩
                case measure => simp [intOf]; have := HKL.out; omega
              · rw [hf] at hlk
                simp only [Option.getD_some, Option.isSome_some] at hlk
                have HCALL := Lib.hid hcall
                clear hcall hlen hdr hX1 hX2 hX3 hq hcc HTA hf
                have hen2 : ∀ args w, (callFunc f args).run Tryz.prog w = .ok (.enter f args) w := hen
                have HQB := Lib.hid (show (wr.alloc (.cells #[.string (txt ky), .string (txt val)] 68)).heap[wr.heap.size]? = some (.cells #[.string (txt ky), .string (txt val)] 68 (0, 0)) from alloc_last _ _)
                have HCM5 := Lib.hid (show c < wr.heap.size ∧ m < wr.heap.size by have h1 := HU.out.size; have := HCM.out; omega)
                go_wp2_with (first | (refine wpList_load_cells rfl 68 (.tmp 71) rfl g (o2 + k * 2) 2 rfl [.string (txt ky), .string (txt val)] _ hcc2 Tryz.underlying68 rfl (by kernel_rfl) rfl ?_))
                refine HCALL.out.mono ?_
                rintro e w6 ⟨rfl, ht6, hu6⟩
                have hu56 : Upd [c, m] wr w6 := hb5.trans hu6
                have y0 := (cells_of (hu6.get HQB.out (by have := HCM5.out; simp; omega))).1 0
                simp only [List.getElem?_toArray, List.getElem?_cons_zero] at y0
                by_cases hts : ts = 0
                · by_cases htv : tv = []
                  · have HTS3 := Lib.hid (show turnAll first (decide (st = 1)) (nx0 l p) [] ps = turnAll first (decide (st = 1)) n1 o (ps.drop (k + 1)) by
                      have h := HTS.out
                      rw [if_neg (by simp [hts]), if_pos htv] at h
                      exact h)
                    subst hts
                    subst htv
                    have HU7 := Lib.hid (HU.out.trans hu56)
                    have HT7 := Lib.hid ht6
                    have HO7 := Lib.hid (ownsRow_upd HO.out hu56 (by have := HCM.out; simp; omega))
                    clear hu6 hu56 ht6 hen2 hen hlk hb5 HCALL hcc2
                    go_wp2_with fail
                    go_roundw
                    case rel => exact ⟨k + 1, n1, o, HKL.out, by simp, HTS3.out, by have := HOL.out; omega, HN1.out, HO7.out, HT7.out, HU7.out⟩
                    case measure => simp [intOf]; have := HKL.out; omega
                  · have HTS3 := Lib.hid (show turnAll first (decide (st = 1)) (nx0 l p) [] ps = turnAll first (decide (st = 1)) n1 (o ++ [(ky, tv)]) (ps.drop (k + 1)) by
                      have h := HTS.out
                      rw [if_neg (by simp [hts]), if_neg htv] at h
                      exact h)
                    have htv2 : List.isEmpty tv = false := by cases tv with | nil => exact absurd rfl htv | cons => rfl
                    subst hts
                    obtain ⟨q7, c7, w7, r7, o7, b7, v7⟩ := run_pushkp (W := w6) (ky, tv) (ownsRow_upd HO.out hu56 (by have := HCM.out; simp; omega)) (by have := HOL.out; omega) (by have h1 := HU.out.size; have h2 := (hu56).size; omega) 44
                    have HR7 := Lib.hid r7
                    have HO7 := Lib.hid o7
                    have h7 := (ht6).upd v7 (by have := HCM.out; have := ownsRow_block HO.out; intro hm; have := this _ hm; omega) (by have := HCM.out; have := ownsRow_block HO.out; intro hm; have := this _ hm; omega)
                    have H7 := Lib.hid h7
                    have HU7 := Lib.hid (show Upd [c, m] w4 w7 from (HU.out.trans hu56).step v7 (fun x hx => .inr (ownsRow_block HO.out x hx)))
                    clear r7 o7 b7 v7 h7
                    clear hu6 hu56 ht6 hen2 hen hlk hb5 HCALL htv
                    go_wp2_with (first
                      | (refine wpList_load_cells rfl 68 (.tmp 71) rfl g (o2 + k * 2) 2 rfl [.string (txt ky), .string (txt val)] _ hcc2 Tryz.underlying68 rfl (by kernel_rfl) rfl ?_)
                      | (at_builtin; refine wpList_appended rfl (.tmp 93) (.tmp 98) #[44, 44] 44 rfl rfl rfl rfl HR7.out ?_; clear HR7))
                    go_roundw
                    case rel => exact ⟨k + 1, n1, o ++ [(ky, tv)], HKL.out, by simp, HTS3.out, by simp; have := HOL.out; omega, HN1.out, by simpa using HO7.out, H7.out, HU7.out⟩
                    case measure => simp [intOf]; have := HKL.out; omega
                · have HTS3 := Lib.hid (show turnAll first (decide (st = 1)) (nx0 l p) [] ps = .error ts by
                    have h := HTS.out
                    rw [if_pos hts] at h
                    exact h)
                  have HE2 := Lib.hid (show talkP l p = .error ts by rw [HE.out, HTS3.out])
                  have hts2 : (ts != 0) = true := bne_iff_ne.2 hts
                  have HU7 := Lib.hid (HUW4.out.trans (HU.out.trans hu56))
                  clear hu6 hu56 ht6 hen2 hen hlk hb5 HCALL hcc2 hts
                  go_wp2_with fail
                  go_ret2
                  exact ⟨by rw [HE2.out]; rfl, HU7.out⟩
            · have hkl2 : k = ps.length := by omega
              rw [hkl2, List.drop_length] at HTA
              have hres : talkP l p = if mayP (told (decide (st = 1)) l.operated o) then .ok (n, printP (told (decide (st = 1)) l.operated o)) else .error 512 := by rw [HE.out, HTA.out]; rfl
              have HRES := Lib.hid hres
              have HFO := Lib.hid (find_any kLen (prs_of_row HO.out))
              clear hres HTA
              go_wp2_with fail
              refine HFO.out.mono ?_
              rintro e w6 ⟨rfl, hb6⟩
              have HU6 := Lib.hid (HU.out.trans ((Upd.of_below hb6).mono (by simp)))
              have HT6 := Lib.hid (HT.out.upd (Upd.of_below hb6) (by simp) (by simp))
              have HO6 := Lib.hid (ownsRow_upd HO.out (Upd.of_below hb6) (by simp))
              have HL6 := Lib.hid (HL.out.upd (HUW4.out.trans HU6.out) (by simp; omega) (by simp; omega))
              have t2 := HT6.out.cell 2
              have t0 := HT6.out.cell 0
              have l10 := (cells_of HL6.out.obj).1 10
              simp only [List.getElem?_toArray, List.getElem?_cons_zero, List.getElem?_cons_succ] at t0 t2 l10
              clear hb6 HFO
              generalize (findP o kLen).getD [] = fv at *
              have hfs : (findP o kLen).isNone = !(findP o kLen).isSome := by cases findP o kLen <;> rfl
              generalize hfb : (findP o kLen).isSome = fb at *
              have htold : told (decide (st = 1)) l.operated o = if (decide (st = 1) && !l.operated && !fb) = true then o ++ [(kLen, t1024)] else o := by unfold told; rw [hfs]
              have HTOLD := Lib.hid htold
              clear hfs hfb htold
              by_cases h1 : st = 1
              case neg =>
                have hst1 : ((st : Int) == 1) = false := beq_eq_false_iff_ne.2 (by omega)
                have htl : told (decide (st = 1)) l.operated o = o := by rw [HTOLD.out, if_neg (by simp [h1])]
                rw [htl] at HRES
                have HO8 := HO6
                have HT8 := HT6
                have HU8 := HU6
                have HO8L := Lib.hid (show o.length ≤ 17 by omega)
                have hpr := print_any (prs_of_row HO8.out) (by have := HO8L.out; omega)
                cases hmay : mayP o with
                | false =>
                  have HE2 := Lib.hid (show talkP l p = .error 512 by rw [HRES.out, if_neg (by rw [hmay]; simp)])
                  rw [printO_no hmay] at hpr
                  have HPR := Lib.hid hpr
                  clear hpr hmay
                  go_wp2_with (fail)
                  refine HPR.out.mono ?_
                  rintro e w9 ⟨⟨v9, rfl, h9⟩, hb9⟩
                  obtain ⟨p9, c9, rfl, -⟩ := h9
                  have e43 : errP (none : Option Txt) = 43 := rfl
                  rw [e43]
                  have HU9 := Lib.hid (HUW4.out.trans (HU8.out.trans ((Upd.of_below hb9).mono (by simp))))
                  clear hb9
                  go_wp2_with fail
                  go_ret2
                  exact ⟨by rw [HE2.out]; rfl, HU9.out⟩
                | true =>
                  have HE2 := Lib.hid (show talkP l p = .ok (n, printP (o)) by rw [HRES.out, if_pos hmay])
                  rw [printO_yes hmay] at hpr
                  have HPR := Lib.hid hpr
                  clear hpr hmay
                  go_wp2_with (fail)
                  refine HPR.out.mono ?_
                  rintro e w9 ⟨⟨v9, rfl, h9⟩, hb9⟩
                  have H9 := Lib.hid h9
                  obtain ⟨p9, c9, rfl, -⟩ := h9
                  have e0' : errP (some (printP (o))) = 0 := rfl
                  rw [e0']
                  have HU9 := Lib.hid (HUW4.out.trans (HU8.out.trans ((Upd.of_below hb9).mono (by simp))))
                  have HT9 := Lib.hid (HT8.out.upd (Upd.of_below hb9) (by simp) (by simp))
                  clear hb9
                  go_wp2_with fail
                  go_ret2
                  exact ⟨by rw [HE2.out]; exact ⟨_, rfl, H9.out, by rw [hfst, hst]; exact HT9.out⟩, HU9.out⟩
              case pos =>
                have hst1 : ((st : Int) == 1) = true := beq_iff_eq.2 (by omega)
                cases hop : l.operated
                case true =>
                  rw [hop] at l10
                  have htl : told (decide (st = 1)) true o = o := by unfold told; simp
                  rw [hop, htl] at HRES
                  have HO8 := HO6
                  have HT8 := HT6
                  have HU8 := HU6
                  have HO8L := Lib.hid (show o.length ≤ 17 by omega)
                  have hpr := print_any (prs_of_row HO8.out) (by have := HO8L.out; omega)
                  cases hmay : mayP o with
                  | false =>
                    have HE2 := Lib.hid (show talkP l p = .error 512 by rw [HRES.out, if_neg (by rw [hmay]; simp)])
                    rw [printO_no hmay] at hpr
                    have HPR := Lib.hid hpr
                    clear hpr hmay
                    go_wp2_with (fail)
                    refine HPR.out.mono ?_
                    rintro e w9 ⟨⟨v9, rfl, h9⟩, hb9⟩
                    obtain ⟨p9, c9, rfl, -⟩ := h9
                    have e43 : errP (none : Option Txt) = 43 := rfl
                    rw [e43]
                    have HU9 := Lib.hid (HUW4.out.trans (HU8.out.trans ((Upd.of_below hb9).mono (by simp))))
                    clear hb9
                    go_wp2_with fail
                    go_ret2
                    exact ⟨by rw [HE2.out]; rfl, HU9.out⟩
                  | true =>
                    have HE2 := Lib.hid (show talkP l p = .ok (n, printP (o)) by rw [HRES.out, if_pos hmay])
                    rw [printO_yes hmay] at hpr
                    have HPR := Lib.hid hpr
                    clear hpr hmay
                    go_wp2_with (fail)
                    refine HPR.out.mono ?_
                    rintro e w9 ⟨⟨v9, rfl, h9⟩, hb9⟩
                    have H9 := Lib.hid h9
                    obtain ⟨p9, c9, rfl, -⟩ := h9
                    have e0' : errP (some (printP (o))) = 0 := rfl
                    rw [e0']
                    have HU9 := Lib.hid (HUW4.out.trans (HU8.out.trans ((Upd.of_below hb9).mono (by simp))))
                    have HT9 := Lib.hid (HT8.out.upd (Upd.of_below hb9) (by simp) (by simp))
                    clear hb9
                    go_wp2_with fail
                    go_ret2
                    exact ⟨by rw [HE2.out]; exact ⟨_, rfl, H9.out, by rw [hfst, hst]; exact HT9.out⟩, HU9.out⟩
                case false =>
                  rw [hop] at l10
                  cases fb
                  case true =>
                    have htl : told (decide (st = 1)) l.operated o = o := by rw [HTOLD.out, if_neg (by simp)]
                    rw [htl] at HRES
                    have HO8 := HO6
                    have HT8 := HT6
                    have HU8 := HU6
                    have HO8L := Lib.hid (show o.length ≤ 17 by omega)
                    have hpr := print_any (prs_of_row HO8.out) (by have := HO8L.out; omega)
                    cases hmay : mayP o with
                    | false =>
                      have HE2 := Lib.hid (show talkP l p = .error 512 by rw [HRES.out, if_neg (by rw [hmay]; simp)])
                      rw [printO_no hmay] at hpr
                      have HPR := Lib.hid hpr
                      clear hpr hmay
                      go_wp2_with (fail)
                      refine HPR.out.mono ?_
                      rintro e w9 ⟨⟨v9, rfl, h9⟩, hb9⟩
                      obtain ⟨p9, c9, rfl, -⟩ := h9
                      have e43 : errP (none : Option Txt) = 43 := rfl
                      rw [e43]
                      have HU9 := Lib.hid (HUW4.out.trans (HU8.out.trans ((Upd.of_below hb9).mono (by simp))))
                      clear hb9
                      go_wp2_with fail
                      go_ret2
                      exact ⟨by rw [HE2.out]; rfl, HU9.out⟩
                    | true =>
                      have HE2 := Lib.hid (show talkP l p = .ok (n, printP (o)) by rw [HRES.out, if_pos hmay])
                      rw [printO_yes hmay] at hpr
                      have HPR := Lib.hid hpr
                      clear hpr hmay
                      go_wp2_with (fail)
                      refine HPR.out.mono ?_
                      rintro e w9 ⟨⟨v9, rfl, h9⟩, hb9⟩
                      have H9 := Lib.hid h9
                      obtain ⟨p9, c9, rfl, -⟩ := h9
                      have e0' : errP (some (printP (o))) = 0 := rfl
                      rw [e0']
                      have HU9 := Lib.hid (HUW4.out.trans (HU8.out.trans ((Upd.of_below hb9).mono (by simp))))
                      have HT9 := Lib.hid (HT8.out.upd (Upd.of_below hb9) (by simp) (by simp))
                      clear hb9
                      go_wp2_with fail
                      go_ret2
                      exact ⟨by rw [HE2.out]; exact ⟨_, rfl, H9.out, by rw [hfst, hst]; exact HT9.out⟩, HU9.out⟩
                  case false =>
                    have htl : told (decide (st = 1)) l.operated o = o ++ [(kLen, t1024)] := by rw [HTOLD.out, if_pos (by simp [h1, hop])]
                    rw [htl] at HRES
                    clear htl
                    obtain ⟨q7, c7, w7, r7, o7, b7, v7⟩ := run_pushkp (W := w6) (kLen, t1024) HO6.out (by omega) (by have h1 := HU6.out.size; omega) 44
                    have HR7 := Lib.hid r7
                    have HO8 := Lib.hid o7
                    have HT8 := Lib.hid (HT6.out.upd v7 (by have := HCM.out; have := ownsRow_block HO6.out; intro hm; have := this _ hm; omega) (by have := HCM.out; have := ownsRow_block HO6.out; intro hm; have := this _ hm; omega))
                    have HU8 := Lib.hid (show Upd [c, m] w4 w7 from HU6.out.step v7 (fun x hx => .inr (ownsRow_block HO6.out x hx)))
                    have HO8L := Lib.hid (show (o ++ [(kLen, t1024)]).length ≤ 17 by simp; omega)
                    have HLO := Lib.hid (show (o ++ [(kLen, t1024)]).length = o.length + 1 by simp)
                    generalize o ++ [(kLen, t1024)] = ov at *
                    clear r7 o7 b7 v7
                    have hpr := print_any (v := .slice q7 (o.length + 1) c7) (l := ov) (prs_of_row HO8.out) (by have := HO8L.out; omega)
                    cases hmay : mayP ov with
                    | false =>
                      have HE2 := Lib.hid (show talkP l p = .error 512 by rw [HRES.out, if_neg (by rw [hmay]; simp)])
                      rw [printO_no hmay] at hpr
                      have HPR := Lib.hid hpr
                      clear hpr hmay
                      go_wp2_with (at_builtin; refine wpList_appended rfl (.tmp 125) (.tmp 127) #[44, 44] 44 rfl rfl rfl rfl HR7.out ?_; clear HR7)
                      refine HPR.out.mono ?_
                      rintro e w9 ⟨⟨v9, rfl, h9⟩, hb9⟩
                      obtain ⟨p9, c9, rfl, -⟩ := h9
                      have e43 : errP (none : Option Txt) = 43 := rfl
                      rw [e43]
                      have HU9 := Lib.hid (HUW4.out.trans (HU8.out.trans ((Upd.of_below hb9).mono (by simp))))
                      clear hb9
                      go_wp2_with fail
                      go_ret2
                      exact ⟨by rw [HE2.out]; rfl, HU9.out⟩
                    | true =>
                      have HE2 := Lib.hid (show talkP l p = .ok (n, printP (ov)) by rw [HRES.out, if_pos hmay])
                      rw [printO_yes hmay] at hpr
                      have HPR := Lib.hid hpr
                      clear hpr hmay
                      go_wp2_with (at_builtin; refine wpList_appended rfl (.tmp 125) (.tmp 127) #[44, 44] 44 rfl rfl rfl rfl HR7.out ?_; clear HR7)
                      refine HPR.out.mono ?_
                      rintro e w9 ⟨⟨v9, rfl, h9⟩, hb9⟩
                      have H9 := Lib.hid h9
                      obtain ⟨p9, c9, rfl, -⟩ := h9
                      have e0' : errP (some (printP (ov))) = 0 := rfl
                      rw [e0']
                      have HU9 := Lib.hid (HUW4.out.trans (HU8.out.trans ((Upd.of_below hb9).mono (by simp))))
                      have HT9 := Lib.hid (HT8.out.upd (Upd.of_below hb9) (by simp) (by simp))
                      clear hb9
                      go_wp2_with fail
                      go_ret2
                      exact ⟨by rw [HE2.out]; exact ⟨_, rfl, H9.out, by rw [hfst, hst]; exact HT9.out⟩, HU9.out⟩
end Go.Proofs.YtlhdjgibkiffaaaGreatDoor
