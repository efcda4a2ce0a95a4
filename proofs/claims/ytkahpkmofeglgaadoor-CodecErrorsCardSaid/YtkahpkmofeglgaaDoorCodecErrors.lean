/-
  PROVED HERE: CodecErrors of package polderlaw02 returns true for every input (the tied card). Conditions: none but the row's own.
-/
import Derived.Test.YtkahpkmofeglgaaDoorLawErrors
import Derived.Test.YtkahpkmofeglgaaDoorOpenHead
import Derived.Test.YtkahpkmofeglgaaDoorOpenImage
import Derived.Test.YtkahpkmofeglgaaDoorRowUtf8
import Derived.Test.YtkahpkmofeglgaaDoorLawKit
namespace Go.Proofs.YtkahpkmofeglgaaDoor.fnCodecErrors
open Go.ChangeShapes Go.WideShapes Go.ChangeAt Go.RowKit
set_option maxRecDepth 100000 in
theorem contract (H : Type) (enc : TypeId × Value → H) (W : World) (base : Nat) (args : Array Value) (ds gs : List (DataW H)) (before : List MemPlace)
    (hval : ∀ (j : Nat) t v, Tryd.f11.params[j]? = some t → args[j]? = some v → Value.okWide Tryd.prog W .any base t v)
    (hW : DataW.Whole enc Tryd.prog Tryd.f11.params.toList Rows.codecErrorsSpec.vars false W args.toList ds gs before) (_hL : laidMetH Tryd.prog Rows.codecErrorsRow.laid W) :
    Calls Tryd.prog 11 args W fun e W' => ∃ v, e = .returned v ∧ Rows.codecErrorsSpec.post enc Tryd.prog Tryd.f11 false true false false W args v W' := by
  have hW0 := hW
  obtain ⟨p, q, hA0, hV, rfl, hfz, hnd⟩ := hW
  have hA : DataW.TrodAll enc Tryd.prog W 0 (fun _ => true) true Tryd.f11.params.toList args.toList ds p := hA0
  rw [Tryd.params11] at hA hval
  have hA1 := hA
  obtain ⟨v0, r0, d0, s0, p0, q0, e0, f0, g0, h0, t0⟩ := trodAll_cons hA1
  obtain ⟨v1, r1, d1, s1, p1, q1, e1, f1, g1, h1, t1⟩ := trodAll_cons t0
  subst e1; subst f1; subst g1
  obtain ⟨v2, r2, d2, s2, p2, q2, e2, f2, g2, h2, t2⟩ := trodAll_cons t1
  subst e2; subst f2; subst g2
  obtain ⟨v3, r3, d3, s3, p3, q3, e3, f3, g3, h3, t3⟩ := trodAll_cons t2
  subst e3; subst f3; subst g3
  obtain ⟨v4, r4, d4, s4, p4, q4, e4, f4, g4, h4, t4⟩ := trodAll_cons t3
  subst e4; subst f4; subst g4
  obtain ⟨rfl, rfl, rfl⟩ := trodAll_nil t4
  obtain rfl : args = #[v0, v1, v2, v3, v4] := by cases args; simp_all
  subst f0; subst g0
  obtain ⟨rfl, rfl⟩ := trodVars_none hV
  obtain ⟨l0, hl0, rfl⟩ := open_agg_ints Tryd.underlying23 (by kernel_rfl) (by kernel_rfl) 3 Tryd.underlying3 rfl (hval 0 23 v0 rfl rfl) h0
  obtain ⟨x00, x01, x02, x03, x04, x05, x06, rfl⟩ := seven l0 hl0
  obtain ⟨x1, a1, c1, rfl, hb1, hc1, hm1, hs1⟩ := open_head_arg (hval 1 59 v1 rfl rfl) h1
  obtain ⟨x2, a2, c2, rfl, hb2, hc2, hm2⟩ := open_image_arg (hval 2 39 v2 rfl rfl) h2
  obtain ⟨n3, rfl, rfl, rfl, wn3⟩ := open_int Tryd.underlying3 (hval 3 3 v3 rfl rfl) h3
  have wr3 := i64_range wn3
  obtain ⟨n4, rfl, rfl, rfl, wn4⟩ := open_int Tryd.underlying57 (hval 4 57 v4 rfl rfl) h4
  have wr4 : 0 ≤ n4 ∧ n4 ≤ 4294967295 := by
    simp only [Lit.wf, Bool.and_eq_true, decide_eq_true_eq] at wn4
    exact wn4
  obtain ⟨n4, rfl⟩ := Int.eq_ofNat_of_zero_le wr4.1
  clear hA0
  have walk : Calls Tryd.prog 11 #[.agg #[.int .i64 x00, .int .i64 x01, .int .i64 x02, .int .i64 x03, .int .i64 x04, .int .i64 x05, .int .i64 x06], headV x1 (.slice a1 x1.pages.length c1), imgV x2 (.slice a2 x2.body.length c2), .int .i64 n3, .int .u32 (n4 : Int)] W fun e w' => e = .returned (.bool true) ∧ Upd [] W w' := by
    exact codecErrors_any _ _ _ _ _ _ _ x1 x2 n3 n4 hb1 hb2 (by omega) hs1 (by omega) (by omega) (by omega)
  refine walk.mono fun e W' ⟨he, hu⟩ => ?_
  subst he
  exact ⟨_, rfl, law_post hW0 hu.all laidOut (by kernel_rfl) rfl (by kernel_rfl) Tryd.underlying4 rfl⟩
theorem laid_met (os : Os) : laidMet Tryd.prog Rows.codecErrorsRow.laid ((laidWorld os).forCall (fun _ _ => 0) ⟨#[], #[.agg #[.int .i64 0, .int .i64 0, .int .i64 0, .int .i64 0, .int .i64 0, .int .i64 0, .int .i64 0], .agg #[.int .i64 0, .int .i64 0, .slice none 0 0, .int .u32 0], .agg #[.int .i64 0, .int .i64 0, .slice none 0 0], .int .i64 0, .int .u32 0], []⟩).memory :=
  laidMet_of_run' 8 (by kernel_rfl) (by kernel_rfl)
theorem reads (os : Os) {H : Type} (enc : TypeId × Value → H) : ∃ places, DataW.whole enc Tryd.prog ((laidWorld os).forCall (fun _ _ => 0) ⟨#[], #[.agg #[.int .i64 0, .int .i64 0, .int .i64 0, .int .i64 0, .int .i64 0, .int .i64 0, .int .i64 0], .agg #[.int .i64 0, .int .i64 0, .slice none 0 0, .int .u32 0], .agg #[.int .i64 0, .int .i64 0, .slice none 0 0], .int .i64 0, .int .u32 0], []⟩).memory Tryd.f11.params.toList Rows.codecErrorsSpec.vars false #[Value.agg #[.int .i64 0, .int .i64 0, .int .i64 0, .int .i64 0, .int .i64 0, .int .i64 0, .int .i64 0], Value.agg #[.int .i64 0, .int .i64 0, .slice none 0 0, .int .u32 0], Value.agg #[.int .i64 0, .int .i64 0, .slice none 0 0], Value.int .i64 0, Value.int .u32 0].toList 8 = some ([.agg [.lit (.int .i64 0), .lit (.int .i64 0), .lit (.int .i64 0), .lit (.int .i64 0), .lit (.int .i64 0), .lit (.int .i64 0), .lit (.int .i64 0)], .agg [.lit (.int .i64 0), .lit (.int .i64 0), .nil, .lit (.int .u32 0)], .agg [.lit (.int .i64 0), .agg [.lit (.int .i64 0), .nil]], .lit (.int .i64 0), .lit (.int .u32 0)], [], places) :=
  ⟨[], by kernel_rfl⟩
set_option maxRecDepth 100000 in
theorem lifted (os : Os) (started : os.Started) (H : Type) (enc : TypeId × Value → H) (F : Stop.Interp) :
    ReturnsInHanded {} Tryd.checked os 11 .any ((OpenSpec.ofChange Rows.codecErrorsSpec).preRow enc Tryd.prog Tryd.f11 Rows.codecErrorsRow.domain false Rows.codecErrorsRow.laid) (((OpenSpec.ofChange Rows.codecErrorsSpec).at F).post enc Tryd.prog Tryd.f11 false true false false) := by
  obtain ⟨places, hx⟩ := reads os enc
  refine returnsInHanded_of_row (C := Tryd.checked) (s := OpenSpec.ofChange Rows.codecErrorsSpec) own started (by kernel_rfl) Tryd.func11
    (witness_row_at (enc := enc) (C := Tryd.checked) false (laidWorld os) #[.agg #[.int .i64 0, .int .i64 0, .int .i64 0, .int .i64 0, .int .i64 0, .int .i64 0, .int .i64 0], .agg #[.int .i64 0, .int .i64 0, .slice none 0 0, .int .u32 0], .agg #[.int .i64 0, .int .i64 0, .slice none 0 0], .int .i64 0, .int .u32 0] rfl (by kernel_rfl) (by kernel_rfl) (by kernel_rfl)
      (OpenSpec.preRow_of_cond 8 hx (by kernel_rfl) (fun k hk => by cases hk) (by kernel_rfl) (laid_met os))) ?_
  intro W base args ds gs before hval hW _ _ _ hL _ _
  exact contract H enc W base args ds gs before hval hW hL
theorem said : Rows.CodecErrorsSaid :=
  OpenClaim.holds_of_cond 11 Tryd.f11 rfl rfl rfl rfl rfl rfl rfl ⟨rfl, rfl, rfl, rfl, rfl⟩ rfl rfl rfl rfl rfl (by kernel_rfl) Tryd.func11 (by kernel_rfl)
    (of_decide_eq_true (by kernel_rfl)) (by unfold Func.isWrapper; first | (rw [if_pos (by decide +kernel)]; kernel_rfl) | (rw [if_neg (by decide +kernel)]; exact ⟨rfl, rfl⟩))
    (fun os started H enc _ F => by rw [OpenClaim.pre_eq_preRow]; exact lifted os started H enc F)
theorem plain (f : FuncId) (fn : Func) (hf : Tryd.pinned.checked.prog.funcNamed "polder/polderlaw02.CodecErrors" = some f) (hfn : Tryd.pinned.checked.prog.funcs[f]? = some fn) :
    false = Tryd.pinned.checked.prog.looks [] ∧ ∀ (j : Nat) t, fn.params[j]? = some t → Tryd.pinned.checked.prog.wantsStandIn t = false := by
  obtain rfl : f = 11 := Option.some.inj ((show Tryd.prog.funcNamed "polder/polderlaw02.CodecErrors" = some 11 by kernel_rfl).symm.trans hf) |>.symm
  obtain rfl : fn = Tryd.f11 := (Option.some.inj (Tryd.func11.symm.trans hfn)).symm
  exact ⟨by kernel_rfl, fun j t ht => no_standin (by kernel_rfl) j t ht⟩
/-- CodecErrors returns true for every input: the tied card. -/
theorem card : Rows.CodecErrorsCardSaid :=
  Claim7.holds_tied_plain_at .later [] _ _ _ _ said (fun _ h => by cases h) (by kernel_rfl) (fun _ h => by cases h) codecErrors_row_tie rfl ⟨rfl, rfl⟩ (by kernel_rfl) rfl plain (by kernel_rfl)
end Go.Proofs.YtkahpkmofeglgaaDoor.fnCodecErrors
