/-
  PROVED HERE: SuperFails of package polderlaw04 returns true for every input (the tied card). Conditions: none but the row's own.
-/
import Derived.Test.YtpnpjffhkaejgaaDoorSuperH
import Derived.Test.YtpnpjffhkaejgaaDoorOpenSup
import Derived.Test.YtpnpjffhkaejgaaDoorRowUtf8
import Derived.Test.YtpnpjffhkaejgaaDoorOpenAgg
namespace Go.Proofs.YtpnpjffhkaejgaaDoor.fnSuperFails
open Go.ChangeShapes Go.WideShapes Go.ChangeAt Go.RowKit
set_option maxRecDepth 100000 in
theorem contract (H : Type) (enc : TypeId × Value → H) (W : World) (base : Nat) (args : Array Value) (ds gs : List (DataW H)) (before : List MemPlace)
    (hval : ∀ (j : Nat) t v, Tryd.f5.params[j]? = some t → args[j]? = some v → Value.okWide Tryd.prog W .any base t v)
    (hW : DataW.Whole enc Tryd.prog Tryd.f5.params.toList Rows.superFailsSpec.vars false W args.toList ds gs before) (_hL : laidMetH Tryd.prog Rows.superFailsRow.laid W) :
    Calls Tryd.prog 5 args W fun e W' => ∃ v, e = .returned v ∧ Rows.superFailsSpec.post enc Tryd.prog Tryd.f5 false true false false W args v W' := by
  have hW0 := hW
  obtain ⟨p, q, hA0, hV, rfl, hfz, hnd⟩ := hW
  have hA : DataW.TrodAll enc Tryd.prog W 0 (fun _ => true) true Tryd.f5.params.toList args.toList ds p := hA0
  rw [Tryd.params5] at hA hval
  obtain ⟨v0, v1, v2, d0, d1, d2, p0, p1, p2, rfl, rfl, rfl, h0, h1, h2⟩ := trodAll_three hA
  obtain ⟨rfl, rfl⟩ := trodVars_none hV
  obtain ⟨a0, m0, cap0, l0, rfl, hs0, hl0, hb0⟩ := open_sups_arg (hval 0 28 v0 rfl rfl) h0
  obtain ⟨l1, hl1, rfl⟩ := open_agg_ints Tryd.underlying23 (by kernel_rfl) (by kernel_rfl) 3 Tryd.underlying3 rfl (hval 1 23 v1 rfl rfl) h1
  obtain ⟨x10, x11, x12, x13, x14, x15, x16, rfl⟩ := seven l1 hl1
  obtain ⟨a2, m2, cap2, l2, rfl, hp2⟩ := open_picksw_arg (hval 2 29 v2 rfl rfl) h2
  clear hA0
  have walk : Calls Tryd.prog 5 #[.slice a0 m0 cap0, .agg #[.int .i64 x10, .int .i64 x11, .int .i64 x12, .int .i64 x13, .int .i64 x14, .int .i64 x15, .int .i64 x16], .slice a2 m2 cap2] W fun e w' => e = .returned (.bool true) ∧ Upd [] W w' := by
    exact fails4_any hs0 hl0 hb0 _ _ _ _ _ _ _ hp2
  refine walk.mono fun e W' ⟨he, hu⟩ => ?_
  subst he
  exact ⟨_, rfl, law_post hW0 hu.all laidOut (by kernel_rfl) rfl (by kernel_rfl) Tryd.underlying4 rfl⟩
theorem laid_met (os : Os) : laidMet Tryd.prog Rows.superFailsRow.laid ((laidWorld os).forCall (fun _ _ => 0) ⟨#[], #[.slice none 0 0, .agg #[.int .i64 0, .int .i64 0, .int .i64 0, .int .i64 0, .int .i64 0, .int .i64 0, .int .i64 0], .slice none 0 0], []⟩).memory :=
  laidMet_of_run' 8 (by kernel_rfl) (by kernel_rfl)
theorem reads (os : Os) {H : Type} (enc : TypeId × Value → H) : ∃ places, DataW.whole enc Tryd.prog ((laidWorld os).forCall (fun _ _ => 0) ⟨#[], #[.slice none 0 0, .agg #[.int .i64 0, .int .i64 0, .int .i64 0, .int .i64 0, .int .i64 0, .int .i64 0, .int .i64 0], .slice none 0 0], []⟩).memory Tryd.f5.params.toList Rows.superFailsSpec.vars false #[Value.slice none 0 0, Value.agg #[.int .i64 0, .int .i64 0, .int .i64 0, .int .i64 0, .int .i64 0, .int .i64 0, .int .i64 0], Value.slice none 0 0].toList 8 = some ([.nil, .agg [.lit (.int .i64 0), .lit (.int .i64 0), .lit (.int .i64 0), .lit (.int .i64 0), .lit (.int .i64 0), .lit (.int .i64 0), .lit (.int .i64 0)], .nil], [], places) :=
  ⟨[], by kernel_rfl⟩
set_option maxRecDepth 100000 in
theorem lifted (os : Os) (started : os.Started) (H : Type) (enc : TypeId × Value → H) (F : Stop.Interp) :
    ReturnsInHanded {} Tryd.checked os 5 .any ((OpenSpec.ofChange Rows.superFailsSpec).preRow enc Tryd.prog Tryd.f5 Rows.superFailsRow.domain false Rows.superFailsRow.laid) (((OpenSpec.ofChange Rows.superFailsSpec).at F).post enc Tryd.prog Tryd.f5 false true false false) := by
  obtain ⟨places, hx⟩ := reads os enc
  refine returnsInHanded_of_row (C := Tryd.checked) (s := OpenSpec.ofChange Rows.superFailsSpec) own started (by kernel_rfl) Tryd.func5
    (witness_row_at (enc := enc) (C := Tryd.checked) false (laidWorld os) #[.slice none 0 0, .agg #[.int .i64 0, .int .i64 0, .int .i64 0, .int .i64 0, .int .i64 0, .int .i64 0, .int .i64 0], .slice none 0 0] rfl (by kernel_rfl) (by kernel_rfl) (by kernel_rfl)
      (OpenSpec.preRow_of_cond 8 hx (by kernel_rfl) (fun k hk => by cases hk) (by kernel_rfl) (laid_met os))) ?_
  intro W base args ds gs before hval hW _ _ _ hL _ _
  exact contract H enc W base args ds gs before hval hW hL
theorem said : Rows.SuperFailsSaid :=
  OpenClaim.holds_of_cond 5 Tryd.f5 rfl rfl rfl rfl rfl rfl rfl ⟨rfl, rfl, rfl, rfl, rfl⟩ rfl rfl rfl rfl rfl (by kernel_rfl) Tryd.func5 (by kernel_rfl)
    (of_decide_eq_true (by kernel_rfl)) (by unfold Func.isWrapper; first | (rw [if_pos (by decide +kernel)]; kernel_rfl) | (rw [if_neg (by decide +kernel)]; exact ⟨rfl, rfl⟩))
    (fun os started H enc _ F => by rw [OpenClaim.pre_eq_preRow]; exact lifted os started H enc F)
theorem plain (f : FuncId) (fn : Func) (hf : Tryd.pinned.checked.prog.funcNamed "polder/polderlaw04.SuperFails" = some f) (hfn : Tryd.pinned.checked.prog.funcs[f]? = some fn) :
    false = Tryd.pinned.checked.prog.looks [] ∧ ∀ (j : Nat) t, fn.params[j]? = some t → Tryd.pinned.checked.prog.wantsStandIn t = false := by
  obtain rfl : f = 5 := Option.some.inj ((show Tryd.prog.funcNamed "polder/polderlaw04.SuperFails" = some 5 by kernel_rfl).symm.trans hf) |>.symm
  obtain rfl : fn = Tryd.f5 := (Option.some.inj (Tryd.func5.symm.trans hfn)).symm
  exact ⟨by kernel_rfl, fun j t ht => no_standin (by kernel_rfl) j t ht⟩
/-- SuperFails returns true for every input: the tied card. -/
theorem card : Rows.SuperFailsCardSaid :=
  Claim7.holds_tied_plain_at .later [] _ _ _ _ said (fun _ h => by cases h) (by kernel_rfl) (fun _ h => by cases h) superFails_row_tie rfl ⟨rfl, rfl⟩ (by kernel_rfl) rfl plain (by kernel_rfl)
end Go.Proofs.YtpnpjffhkaejgaaDoor.fnSuperFails
