/-
  PROVED HERE: the document's Parse is the plain function. Conditions: those that each theorem names.
-/
import Derived.Test.YthjlajplckfldaaGreatDoorKeyRR
import Derived.Test.YthjlajplckfldaaGreatDoorKeyRP
namespace Go.Proofs.YthjlajplckfldaaGreatDoor
open Go.RowKit Go.Shelf
/-- The document's Parse ahead of the place k, a piece having begun at f. -/
def PaT (d : Txt) (acc : List Pr) (f k : Nat) : Prop := f ≤ k ∧ parseFrom [] [] d = parseFrom acc (mid d f k) (d.drop k) ∧ total acc = f
theorem PaT.zero (d : Txt) : PaT d [] 0 0 := ⟨Nat.le_refl _, by rw [mid_self]; rfl, rfl⟩
theorem PaT.letter {d : Txt} {acc : List Pr} {f k : Nat} (h : PaT d acc f k) (hk : k < d.length) (hc : d[k] ≠ 0) : PaT d acc f (k + 1) := by
  obtain ⟨h1, h2, h3⟩ := h
  refine ⟨by omega, ?_, h3⟩
  rw [h2, List.drop_eq_getElem_cons hk, parseFrom, if_neg hc, mid_succ h1 hk]
theorem PaT.bad {d : Txt} {acc : List Pr} {f k : Nat} (h : PaT d acc f k) (hk : k < d.length) (hc : d[k] = 0) (hn : cutEq (mid d f k) = none) : parseP d = none := by
  obtain ⟨h1, h2, h3⟩ := h
  unfold parseP
  rw [h2, List.drop_eq_getElem_cons hk, parseFrom, if_pos hc, hn]
theorem mid_length {d : Txt} {f k : Nat} (hk : k ≤ d.length) : (mid d f k).length = k - f := by
  unfold mid
  rw [List.length_take, List.length_drop]
  omega
theorem PaT.next {d : Txt} {acc : List Pr} {f k : Nat} {p : Pr} (h : PaT d acc f k) (hk : k < d.length) (hc : d[k] = 0) (hn : cutEq (mid d f k) = some p) : PaT d (acc ++ [p]) (k + 1) (k + 1) := by
  obtain ⟨h1, h2, h3⟩ := h
  refine ⟨Nat.le_refl _, ?_, ?_⟩
  · rw [h2, List.drop_eq_getElem_cons hk, parseFrom, if_pos hc, hn, mid_self]
  · have e := congrArg List.length (cutEq_some hn)
    rw [mid_length (by omega)] at e
    simp only [List.length_append, List.length_cons] at e
    rw [total_append, total_one, h3]
    omega
theorem PaT.end {d : Txt} {acc : List Pr} {f : Nat} (h : PaT d acc f d.length) : parseP d = if f = d.length ∧ mayP acc = true then some acc else none := by
  obtain ⟨h1, h2, h3⟩ := h
  have hl : (mid d f d.length).length = d.length - f := mid_length (Nat.le_refl _)
  unfold parseP
  rw [h2, List.drop_length, parseFrom]
  by_cases hf : f = d.length
  · rw [if_pos (by subst hf; exact List.length_eq_zero_iff.1 (by rw [hl]; omega))]
    cases hm : mayP acc
    · simp [hm]
    · simp [hf, hm]
  · rw [if_neg (fun e => by rw [e] at hl; simp at hl; omega), if_neg (fun e => hf e.1)]
theorem parseP_long {d : Txt} (h : 1024 < d.length) : parseP d = none := by
  cases hp : parseP d with
  | none => rfl
  | some l =>
    obtain ⟨_, h2, h3⟩ := parseP_some hp
    have := ((mayP_iff l).1 h2).2.2.2
    rw [← printP_length, h3] at this
    omega
theorem total_mem {l : List Pr} {p : Pr} (h : p ∈ l) : p.1.length + p.2.length ≤ total l := by
  induction l with
  | nil => cases h
  | cons q l ih =>
    rw [total_cons]
    rcases List.mem_cons.1 h with rfl | h
    · omega
    · have := ih h; omega
theorem prs_of_rowR {W : World} {base : Nat} {v : Value} {l : List Pr} (h : W.ownsRow base 59 2 v l.length (prCells l)) : IsPrs W v l := by
  obtain ⟨_, ⟨rfl, h0⟩ | ⟨g, cap, cur, rfl, _, hg, hn, hm, hs, hc⟩⟩ := h
  · exact .inl ⟨rfl, List.length_eq_zero_iff.1 h0⟩
  · refine .inr ⟨g, 0, cap, rfl, hn, hm, lt_of_get hg, fun i hi => ?_⟩
    obtain ⟨e1, e2⟩ := prCells_get l i hi
    rw [cell_of_row W g _ cur _ _ hg, cell_of_row W g _ cur _ _ hg]
    rw [← hc, List.getElem?_take_of_lt (by omega), Array.getElem?_toList] at e1 e2
    exact ⟨by simpa using e1, by simpa using e2⟩
theorem infoPairR : (Tryz.prog.info? 59).map (fun i => (i.zero, i.size, i.bytes)) = some (some (.agg #[.string (txt []), .string (txt [])]), 2, 32) := by kernel_rfl
/-- One pair is appended. -/
theorem run_pushr {W : World} {base : Nat} {v : Value} {l : List Pr} (p : Pr) (hv : W.ownsRow base 59 2 v l.length (prCells l)) (hl : l.length ≤ 1000000) (hb : base ≤ W.heap.size) (ty : TypeId) :
    ∃ q c w', (Builtin.append_ #[22, 22] ty #[v, .slice (some ⟨W.heap.size, 0, none⟩) 1 1]).run Tryz.prog (W.alloc (.cells #[.string (txt p.1), .string (txt p.2)] 59)) = .ok (.slice q (l.length + 1) c) w' ∧
      w'.ownsRow base 59 2 (.slice q (l.length + 1) c) (l ++ [p]).length (prCells (l ++ [p])) ∧ Below base W w' := by
  obtain ⟨i0, hi, hz0, hz1, hz2⟩ := info_parts infoPairR
  obtain ⟨v6, w6, hrun, h6, g6, _⟩ := run_append_own (P := Tryz.prog) (W.alloc (.cells [.string (txt p.1), .string (txt p.2)].toArray 59)) base 22 ty 59 i0 _ 2 32 Tryz.underlying22 hi hz0 hz1 hz2 rfl (by decide) v l.length (prCells l) (hv.alloc _) ⟨W.heap.size, 0, none⟩ 1 1 [.string (txt p.1), .string (txt p.2)] rfl (news_at W [.string (txt p.1), .string (txt p.2)] _) (by simp [Value.oneCell']) (by unfold maxLen; omega) (by omega) (by simp; omega)
  obtain ⟨gg6, cap6, rfl⟩ := ownsRow_succ h6
  refine ⟨_, _, w6, hrun, ?_, ((Below.refl base W).alloc hb _).trans ((Upd.of_grown g6).below (by simp; omega) (fun x hx => ownsRow_block hv x hx))⟩
  rw [prCells_append, List.length_append]
  simpa [prCells] using h6
theorem size_alloc1 (w : World) (o : Obj) : (w.alloc o).heap.size = w.heap.size + 1 := by simp
set_option maxRecDepth 100000 in
set_option maxHeartbeats 4000000 in
theorem rparse_any {w : World} {v : Value} {d : Txt} (h : IsTxtV w v d) : Calls Tryz.prog 13 #[v] w fun e w' => (∃ v, e = .returned (.tuple #[v, .int .i64 (errP (parseP d))]) ∧ IsPrs w' v ((parseP d).getD [])) ∧ Below w.heap.size w w' := by
  obtain ⟨dp, dc, rfl, td, ld, nd, md⟩ := h
  have HT := Lib.hid td
  have HMD := Lib.hid md
  have hdl : d.length ≤ 9223372036854775807 := by unfold maxLen at md; omega
  clear td nd md
  by_cases hlong : 1024 < d.length
  · have HE := Lib.hid (parseP_long hlong)
    go_enter Tryz.func13, Tryz.ntmps13
    go_wp2_with fail
    go_ret2
    exact ⟨⟨.slice none 0 0, by rw [HE.out]; rfl, by rw [HE.out]; exact .inl ⟨rfl, rfl⟩⟩, Below.refl _ _⟩
  · have hd : d.length ≤ 1024 := by omega
    clear hdl hlong
    have HD := Lib.hid hd
    go_enter Tryz.func13, Tryz.ntmps13
    go_wp2_with fail
    go_loopw [4, 5, 6, 7, 8] (fun u fr i _ _ wr => ∃ (acc : List Pr) (f k : Nat), k ≤ d.length ∧ fr = .int .i64 (f : Nat) ∧ i = .int .i64 (k : Nat) ∧ PaT d acc f k ∧ wr.ownsRow w.heap.size 59 2 u acc.length (prCells acc) ∧ Below w.heap.size w wr) (fun _ _ i _ _ _ => (d.length - intOf i).toNat)
    case atStart => exact ⟨[], 0, 0, Nat.zero_le _, rfl, rfl, PaT.zero d, World.ownsRow_nil _ _ _ _, Below.refl _ _⟩
    case round =>
      obtain ⟨acc, f, k, hk, rfl, rfl, hP, hO, hB⟩ := hrel
      have HP := Lib.hid hP
      have HO := Lib.hid hO
      have HB := Lib.hid hB
      have hfk := hP.1
      have hal : acc.length ≤ 1024 := by have := total_ge acc; rw [hP.2.2] at this; omega
      clear hP hO hB
      by_cases hkl : k < d.length
      · obtain ⟨g, o, rfl, hg, q1⟩ := HT.out.below HB.out k hkl
        by_cases h0 : d[k] = 0
        · have hx : ((((d[k]).toNat : Nat) : Int) != 0) = false := bne_eq_false_iff_eq.2 (by rw [h0]; rfl)
          have hcv : (convert 23 9 (.slice (some ⟨g, o + f, none⟩) (k - f) (dc - f))).run Tryz.prog wr = .ok (.string (txt (mid d f k))) wr := by
            have := run_convert_bytes_back wr 23 9 5 (⟨g, o + f, none⟩ : Addr) (dc - f) (mid d f k) Tryz.underlying23 Tryz.underlying5 Tryz.underlying9 fun j hj => by
              rw [mid_length hk] at hj
              obtain ⟨g', o', e, _, h3⟩ := HT.out.below HB.out (f + j) (by omega)
              cases e
              rw [add_off, Nat.add_assoc, h3]
              have hm : (mid d f k)[j]'(by rw [mid_length hk]; exact hj) = d[f + j] := by simp [mid]
              rw [hm]
            rwa [mid_length hk] at this
          have HRP := Lib.hid (rpair_any (w := wr) (mid d f k) (by rw [mid_length hk]; omega))
          have HBAD := Lib.hid (HP.out.bad hkl h0)
          have HNX := Lib.hid (fun p => HP.out.next (p := p) hkl h0)
          clear h0
          generalize (d[k]).toNat = xb at *
          obtain ⟨u4p, u4n, u4c, rfl⟩ : ∃ p n c, u4 = .slice p n c := by
            obtain ⟨_, ⟨e, _⟩ | ⟨_, _, _, e, _⟩⟩ := HO.out
            · exact ⟨_, _, _, e⟩
            · exact ⟨_, _, _, e⟩
          cases hcut : cutEq (mid d f k) with
          | none =>
            have HE := Lib.hid (HBAD.out hcut)
            rw [hcut] at HRP
            simp only [Option.getD_none, Option.isSome_none] at HRP
            clear hcut
            go_wp2_with (first | (go_at_call 28; (with_reducible refine HRP.out.mono ?_); rintro e w5 ⟨rfl, hb5⟩; have HB5 := Lib.hid (HB.out.trans (hb5.mono HB.out.size)); clear hb5))
            go_ret2
            exact ⟨⟨.slice none 0 0, by rw [HE.out]; rfl, by rw [HE.out]; exact .inl ⟨rfl, rfl⟩⟩, HB5.out.alloc HB5.out.size _⟩
          | some p =>
            obtain ⟨px, py⟩ := p
            have HN := Lib.hid (HNX.out _ hcut)
            rw [hcut] at HRP
            simp only [Option.getD_some, Option.isSome_some] at HRP
            clear hcut
            go_wp2_with (first | (go_at_call 28; (with_reducible refine HRP.out.mono ?_); rintro e w5 ⟨rfl, hb5⟩; have HB5 := Lib.hid (HB.out.trans (hb5.mono HB.out.size)); obtain ⟨q6, c6, w6, r6, o6, b6⟩ := run_pushr (W := w5.alloc (.cells #[.string (txt px), .string (txt py)] 59)) (px, py) ((ownsRow_upd HO.out (Upd.of_below hb5) (by simp)).alloc _) (by omega) (by have := HB5.out.size; simp; omega) 22; rw [size_alloc1] at r6; have HR6 := Lib.hid r6; have HO6 := Lib.hid o6; have HB6 := Lib.hid ((HB5.out.alloc HB5.out.size _).trans b6); clear hb5 r6 o6 b6) | (at_builtin; refine wpList_appended rfl (.tmp 36) (.tmp 38) #[22, 22] 22 rfl rfl rfl rfl HR6.out ?_; clear HR6))
            go_roundw
            case rel => exact ⟨acc ++ [(px, py)], k + 1, k + 1, hkl, by simp, by simp, HN.out, HO6.out, HB6.out⟩
            case measure => simp [intOf]; omega
        · have HN := Lib.hid (HP.out.letter hkl h0)
          have hx : ((((d[k]).toNat : Nat) : Int) != 0) = true := bne_iff_ne.2 fun e => h0 (by apply UInt8.toNat_inj.1; show d[k].toNat = 0; omega)
          generalize (d[k]).toNat = xb at *
          clear h0
          go_wp2_with fail
          go_roundw
          case rel => exact ⟨acc, f, k + 1, hkl, rfl, by simp, HN.out, HO.out, HB.out⟩
          case measure => simp [intOf]; omega
      · obtain rfl : k = d.length := by omega
        have HPR := Lib.hid (rprint_any (prs_of_rowR HO.out).arg (fun p hp => by have := total_mem hp; rw [HP.out.2.2] at this; omega))
        have HEND := Lib.hid HP.out.end
        have hta := HP.out.2.2
        obtain ⟨u4p, u4n, u4c, rfl⟩ : ∃ p n c, u4 = .slice p n c := by
          obtain ⟨_, ⟨e, _⟩ | ⟨_, _, _, e, _⟩⟩ := HO.out
          · exact ⟨_, _, _, e⟩
          · exact ⟨_, _, _, e⟩
        cases hm : mayP acc with
        | false =>
          have HE := Lib.hid (HEND.out.trans (if_neg (by rw [hm]; simp)))
          rw [printO_no hm] at HPR
          clear hm hta
          go_wp2_with fail
          with_reducible refine HPR.out.mono ?_
          rintro e w5 ⟨⟨v5, rfl, h5⟩, hb5⟩
          obtain ⟨p5, c5, rfl, _⟩ := h5
          have HB5 := Lib.hid (HB.out.trans (hb5.mono HB.out.size))
          simp only [errP_none]
          clear hb5
          go_wp2_with fail
          go_ret2
          exact ⟨⟨.slice none 0 0, by rw [HE.out]; rfl, by rw [HE.out]; exact .inl ⟨rfl, rfl⟩⟩, HB5.out⟩
        | true =>
          rw [printO_yes hm] at HPR
          simp only [errP_some, Option.getD_some] at HPR
          have hpl : (printP acc).length = f := by rw [printP_length, hta]
          by_cases hf : f = d.length
          · have HE := Lib.hid (HEND.out.trans (if_pos ⟨hf, hm⟩))
            clear hm hta
            go_wp2_with fail
            with_reducible refine HPR.out.mono ?_
            rintro e w5 ⟨⟨v5, rfl, h5⟩, hb5⟩
            obtain ⟨p5, c5, rfl, -⟩ := h5
            rw [hpl, hf]
            have HB5 := Lib.hid (HB.out.trans (hb5.mono HB.out.size))
            have HO5 := Lib.hid (ownsRow_upd HO.out (Upd.of_below hb5) (by simp))
            clear hb5 hpl hf
            go_wp2_with fail
            go_ret2
            exact ⟨⟨_, by rw [HE.out]; rfl, by rw [HE.out]; exact prs_of_rowR HO5.out⟩, HB5.out⟩
          · have HE := Lib.hid (HEND.out.trans (if_neg (fun e => hf e.1)))
            have hne : ((f : Int) != ((d.length : Nat) : Int)) = true := bne_iff_ne.2 (by omega)
            clear hm hta
            go_wp2_with fail
            with_reducible refine HPR.out.mono ?_
            rintro e w5 ⟨⟨v5, rfl, h5⟩, hb5⟩
            obtain ⟨p5, c5, rfl, -⟩ := h5
            rw [hpl]
            have HB5 := Lib.hid (HB.out.trans (hb5.mono HB.out.size))
            clear hb5 hpl
            go_wp2_with fail
            go_ret2
            exact ⟨⟨.slice none 0 0, by rw [HE.out]; rfl, by rw [HE.out]; exact .inl ⟨rfl, rfl⟩⟩, HB5.out⟩
end Go.Proofs.YthjlajplckfldaaGreatDoor
