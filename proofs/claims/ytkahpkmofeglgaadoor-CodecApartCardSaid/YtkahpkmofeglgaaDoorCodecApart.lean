/-
  PROVED HERE: CodecApart of package polderlaw02 returns true for every input (the tied card). Conditions: none but the row's own.
-/
import Derived.Test.YtkahpkmofeglgaaDoorLawApart
import Derived.Test.YtkahpkmofeglgaaDoorOpenHead
import Derived.Test.YtkahpkmofeglgaaDoorOpenCat
import Derived.Test.YtkahpkmofeglgaaDoorRowUtf8
import Derived.Test.YtkahpkmofeglgaaDoorLawKit
namespace Go.Proofs.YtkahpkmofeglgaaDoor.fnCodecApart
open Go.ChangeShapes Go.WideShapes Go.ChangeAt Go.RowKit
set_option maxRecDepth 100000 in
theorem contract (H : Type) (enc : TypeId × Value → H) (W : World) (base : Nat) (args : Array Value) (ds gs : List (DataW H)) (before : List MemPlace)
    (hval : ∀ (j : Nat) t v, Tryd.f9.params[j]? = some t → args[j]? = some v → Value.okWide Tryd.prog W .any base t v)
    (hW : DataW.Whole enc Tryd.prog Tryd.f9.params.toList Rows.codecApartSpec.vars false W args.toList ds gs before) (_hL : laidMetH Tryd.prog Rows.codecApartRow.laid W) :
    Calls Tryd.prog 9 args W fun e W' => ∃ v, e = .returned v ∧ Rows.codecApartSpec.post enc Tryd.prog Tryd.f9 false true false false W args v W' := by
  have hW0 := hW
  obtain ⟨p, q, hA0, hV, rfl, hfz, hnd⟩ := hW
  have hA : DataW.TrodAll enc Tryd.prog W 0 (fun _ => true) true Tryd.f9.params.toList args.toList ds p := hA0
  rw [Tryd.params9] at hA hval
  have hA1 := hA
  obtain ⟨v0, r0, d0, s0, p0, q0, e0, f0, g0, h0, t0⟩ := trodAll_cons hA1
  obtain ⟨v1, r1, d1, s1, p1, q1, e1, f1, g1, h1, t1⟩ := trodAll_cons t0
  subst e1; subst f1; subst g1
  obtain ⟨v2, r2, d2, s2, p2, q2, e2, f2, g2, h2, t2⟩ := trodAll_cons t1
  subst e2; subst f2; subst g2
  obtain ⟨v3, r3, d3, s3, p3, q3, e3, f3, g3, h3, t3⟩ := trodAll_cons t2
  subst e3; subst f3; subst g3
  obtain ⟨v4, r4, d4, s4, p4, q4, e4, f4, g4, h4, t4⟩ := trodAll_cons t3
  subst e4; subst f4; subst g4
  obtain ⟨v5, r5, d5, s5, p5, q5, e5, f5, g5, h5, t5⟩ := trodAll_cons t4
  subst e5; subst f5; subst g5
  obtain ⟨rfl, rfl, rfl⟩ := trodAll_nil t5
  obtain rfl : args = #[v0, v1, v2, v3, v4, v5] := by cases args; simp_all
  subst f0; subst g0
  obtain ⟨rfl, rfl⟩ := trodVars_none hV
  obtain ⟨l0, hl0, rfl⟩ := open_agg_ints Tryd.underlying23 (by kernel_rfl) (by kernel_rfl) 3 Tryd.underlying3 rfl (hval 0 23 v0 rfl rfl) h0
  obtain ⟨x00, x01, x02, x03, x04, x05, x06, rfl⟩ := seven l0 hl0
  obtain ⟨l1, hl1, rfl⟩ := open_agg_ints Tryd.underlying23 (by kernel_rfl) (by kernel_rfl) 3 Tryd.underlying3 rfl (hval 1 23 v1 rfl rfl) h1
  obtain ⟨x10, x11, x12, x13, x14, x15, x16, rfl⟩ := seven l1 hl1
  obtain ⟨x2, a2, c2, rfl, hb2, hc2, hm2, hs2⟩ := open_head_arg (hval 2 59 v2 rfl rfl) h2
  obtain ⟨x3, a3, c3, rfl, hb3, hc3, hm3, hs3⟩ := open_head_arg (hval 3 59 v3 rfl rfl) h3
  obtain ⟨x4, a4, c4, b4, d4, rfl, hv4, hs4, hl4, hm4⟩ := open_cat_arg (hval 4 75 v4 rfl rfl) h4
  obtain ⟨x5, a5, c5, b5, d5, rfl, hv5, hs5, hl5, hm5⟩ := open_cat_arg (hval 5 75 v5 rfl rfl) h5
  clear hA0
  have walk : Calls Tryd.prog 9 #[.agg #[.int .i64 x00, .int .i64 x01, .int .i64 x02, .int .i64 x03, .int .i64 x04, .int .i64 x05, .int .i64 x06], .agg #[.int .i64 x10, .int .i64 x11, .int .i64 x12, .int .i64 x13, .int .i64 x14, .int .i64 x15, .int .i64 x16], headV x2 (.slice a2 x2.pages.length c2), headV x3 (.slice a3 x3.pages.length c3), catV x4 (.slice a4 x4.vols.length c4) (.slice b4 x4.stack.length d4), catV x5 (.slice a5 x5.vols.length c5) (.slice b5 x5.stack.length d5)] W fun e w' => e = .returned (.bool true) ∧ Upd [] W w' := by
    exact codecApart_any _ _ _ _ _ _ _ _ _ _ _ _ _ _ x2 x3 x4 x5 hb2 hb3 hv4 hs4 hv5 hs5 (by omega) (by omega) hl4 hm4 hl5 hm5 hs2 hs3
  refine walk.mono fun e W' ⟨he, hu⟩ => ?_
  subst he
  exact ⟨_, rfl, law_post hW0 hu.all laidOut (by kernel_rfl) rfl (by kernel_rfl) Tryd.underlying4 rfl⟩
theorem laid_met (os : Os) : laidMet Tryd.prog Rows.codecApartRow.laid ((laidWorld os).forCall (fun _ _ => 0) ⟨#[], #[.agg #[.int .i64 0, .int .i64 0, .int .i64 0, .int .i64 0, .int .i64 0, .int .i64 0, .int .i64 0], .agg #[.int .i64 0, .int .i64 0, .int .i64 0, .int .i64 0, .int .i64 0, .int .i64 0, .int .i64 0], .agg #[.int .i64 0, .int .i64 0, .slice none 0 0, .int .u32 0], .agg #[.int .i64 0, .int .i64 0, .slice none 0 0, .int .u32 0], .agg #[.int .i64 0, .slice none 0 0, .slice none 0 0], .agg #[.int .i64 0, .slice none 0 0, .slice none 0 0]], []⟩).memory :=
  laidMet_of_run' 8 (by kernel_rfl) (by kernel_rfl)
theorem reads (os : Os) {H : Type} (enc : TypeId × Value → H) : ∃ places, DataW.whole enc Tryd.prog ((laidWorld os).forCall (fun _ _ => 0) ⟨#[], #[.agg #[.int .i64 0, .int .i64 0, .int .i64 0, .int .i64 0, .int .i64 0, .int .i64 0, .int .i64 0], .agg #[.int .i64 0, .int .i64 0, .int .i64 0, .int .i64 0, .int .i64 0, .int .i64 0, .int .i64 0], .agg #[.int .i64 0, .int .i64 0, .slice none 0 0, .int .u32 0], .agg #[.int .i64 0, .int .i64 0, .slice none 0 0, .int .u32 0], .agg #[.int .i64 0, .slice none 0 0, .slice none 0 0], .agg #[.int .i64 0, .slice none 0 0, .slice none 0 0]], []⟩).memory Tryd.f9.params.toList Rows.codecApartSpec.vars false #[Value.agg #[.int .i64 0, .int .i64 0, .int .i64 0, .int .i64 0, .int .i64 0, .int .i64 0, .int .i64 0], Value.agg #[.int .i64 0, .int .i64 0, .int .i64 0, .int .i64 0, .int .i64 0, .int .i64 0, .int .i64 0], Value.agg #[.int .i64 0, .int .i64 0, .slice none 0 0, .int .u32 0], Value.agg #[.int .i64 0, .int .i64 0, .slice none 0 0, .int .u32 0], Value.agg #[.int .i64 0, .slice none 0 0, .slice none 0 0], Value.agg #[.int .i64 0, .slice none 0 0, .slice none 0 0]].toList 8 = some ([.agg [.lit (.int .i64 0), .lit (.int .i64 0), .lit (.int .i64 0), .lit (.int .i64 0), .lit (.int .i64 0), .lit (.int .i64 0), .lit (.int .i64 0)], .agg [.lit (.int .i64 0), .lit (.int .i64 0), .lit (.int .i64 0), .lit (.int .i64 0), .lit (.int .i64 0), .lit (.int .i64 0), .lit (.int .i64 0)], .agg [.lit (.int .i64 0), .lit (.int .i64 0), .nil, .lit (.int .u32 0)], .agg [.lit (.int .i64 0), .lit (.int .i64 0), .nil, .lit (.int .u32 0)], .agg [.lit (.int .i64 0), .nil, .nil], .agg [.lit (.int .i64 0), .nil, .nil]], [], places) :=
  ⟨[], by kernel_rfl⟩
set_option maxRecDepth 100000 in
theorem lifted (os : Os) (started : os.Started) (H : Type) (enc : TypeId × Value → H) (F : Stop.Interp) :
    ReturnsInHanded {} Tryd.checked os 9 .any ((OpenSpec.ofChange Rows.codecApartSpec).preRow enc Tryd.prog Tryd.f9 Rows.codecApartRow.domain false Rows.codecApartRow.laid) (((OpenSpec.ofChange Rows.codecApartSpec).at F).post enc Tryd.prog Tryd.f9 false true false false) := by
  obtain ⟨places, hx⟩ := reads os enc
  refine returnsInHanded_of_row (C := Tryd.checked) (s := OpenSpec.ofChange Rows.codecApartSpec) own started (by kernel_rfl) Tryd.func9
    (witness_row_at (enc := enc) (C := Tryd.checked) false (laidWorld os) #[.agg #[.int .i64 0, .int .i64 0, .int .i64 0, .int .i64 0, .int .i64 0, .int .i64 0, .int .i64 0], .agg #[.int .i64 0, .int .i64 0, .int .i64 0, .int .i64 0, .int .i64 0, .int .i64 0, .int .i64 0], .agg #[.int .i64 0, .int .i64 0, .slice none 0 0, .int .u32 0], .agg #[.int .i64 0, .int .i64 0, .slice none 0 0, .int .u32 0], .agg #[.int .i64 0, .slice none 0 0, .slice none 0 0], .agg #[.int .i64 0, .slice none 0 0, .slice none 0 0]] rfl (by kernel_rfl) (by kernel_rfl) (by kernel_rfl)
      (OpenSpec.preRow_of_cond 8 hx (by kernel_rfl) (fun k hk => by cases hk) (by kernel_rfl) (laid_met os))) ?_
  intro W base args ds gs before hval hW _ _ _ hL _ _
  exact contract H enc W base args ds gs before hval hW hL
theorem said : Rows.CodecApartSaid :=
  OpenClaim.holds_of_cond 9 Tryd.f9 rfl rfl rfl rfl rfl rfl rfl ⟨rfl, rfl, rfl, rfl, rfl⟩ rfl rfl rfl rfl rfl (by kernel_rfl) Tryd.func9 (by kernel_rfl)
    (of_decide_eq_true (by kernel_rfl)) (by unfold Func.isWrapper; first | (rw [if_pos (by decide +kernel)]; kernel_rfl) | (rw [if_neg (by decide +kernel)]; exact ⟨rfl, rfl⟩))
    (fun os started H enc _ F => by rw [OpenClaim.pre_eq_preRow]; exact lifted os started H enc F)
theorem plain (f : FuncId) (fn : Func) (hf : Tryd.pinned.checked.prog.funcNamed "polder/polderlaw02.CodecApart" = some f) (hfn : Tryd.pinned.checked.prog.funcs[f]? = some fn) :
    false = Tryd.pinned.checked.prog.looks [] ∧ ∀ (j : Nat) t, fn.params[j]? = some t → Tryd.pinned.checked.prog.wantsStandIn t = false := by
  obtain rfl : f = 9 := Option.some.inj ((show Tryd.prog.funcNamed "polder/polderlaw02.CodecApart" = some 9 by kernel_rfl).symm.trans hf) |>.symm
  obtain rfl : fn = Tryd.f9 := (Option.some.inj (Tryd.func9.symm.trans hfn)).symm
  exact ⟨by kernel_rfl, fun j t ht => no_standin (by kernel_rfl) j t ht⟩
/-- CodecApart returns true for every input: the tied card. -/
theorem card : Rows.CodecApartCardSaid :=
  Claim7.holds_tied_plain_at .later [] _ _ _ _ said (fun _ h => by cases h) (by kernel_rfl) (fun _ h => by cases h) codecApart_row_tie rfl ⟨rfl, rfl⟩ (by kernel_rfl) rfl plain (by kernel_rfl)
end Go.Proofs.YtkahpkmofeglgaaDoor.fnCodecApart
