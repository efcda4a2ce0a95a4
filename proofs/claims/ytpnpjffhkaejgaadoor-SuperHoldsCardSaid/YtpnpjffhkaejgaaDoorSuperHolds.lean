/-
  PROVED HERE: SuperHolds of package polderlaw04 returns true for every input (the tied card). Conditions: none but the row's own.
-/
import Derived.Test.YtpnpjffhkaejgaaDoorSuperK
import Derived.Test.YtpnpjffhkaejgaaDoorOpenSupB
import Derived.Test.YtpnpjffhkaejgaaDoorRowUtf8
import Derived.Test.YtpnpjffhkaejgaaDoorOpenAgg
namespace Go.Proofs.YtpnpjffhkaejgaaDoor.fnSuperHolds
open Go.ChangeShapes Go.WideShapes Go.ChangeAt Go.RowKit
set_option maxRecDepth 100000 in
theorem contract (H : Type) (enc : TypeId × Value → H) (W : World) (base : Nat) (args : Array Value) (ds gs : List (DataW H)) (before : List MemPlace)
    (hval : ∀ (j : Nat) t v, Tryd.f4.params[j]? = some t → args[j]? = some v → Value.okWide Tryd.prog W .any base t v)
    (hW : DataW.Whole enc Tryd.prog Tryd.f4.params.toList Rows.superHoldsSpec.vars false W args.toList ds gs before) (_hL : laidMetH Tryd.prog Rows.superHoldsRow.laid W) (hsz : (DataW.weightsEach Tryd.prog (Tryd.f4.params.toList ++ (OpenSpec.ofChange Rows.superHoldsSpec).bare.plain.varTypes Tryd.prog) (ds ++ gs)).all (· ≤ reachBytes) = true) :
    Calls Tryd.prog 4 args W fun e W' => ∃ v, e = .returned v ∧ Rows.superHoldsSpec.post enc Tryd.prog Tryd.f4 false true false false W args v W' := by
  have hW0 := hW
  obtain ⟨p, q, hA0, hV, rfl, hfz, hnd⟩ := hW
  have hA : DataW.TrodAll enc Tryd.prog W 0 (fun _ => true) true Tryd.f4.params.toList args.toList ds p := hA0
  rw [Tryd.params4] at hA hval hsz
  have hA1 := hA
  obtain ⟨v0, r0, d0, s0, p0, q0, e0, f0, g0, h0, t0⟩ := trodAll_cons hA1
  obtain ⟨v1, r1, d1, s1, p1, q1, e1, f1, g1, h1, t1⟩ := trodAll_cons t0
  subst e1; subst f1; subst g1
  obtain ⟨v2, r2, d2, s2, p2, q2, e2, f2, g2, h2, t2⟩ := trodAll_cons t1
  subst e2; subst f2; subst g2
  obtain ⟨v3, r3, d3, s3, p3, q3, e3, f3, g3, h3, t3⟩ := trodAll_cons t2
  subst e3; subst f3; subst g3
  obtain ⟨v4, r4, d4, s4, p4, q4, e4, f4, g4, h4, t4⟩ := trodAll_cons t3
  subst e4; subst f4; subst g4
  obtain ⟨rfl, rfl, rfl⟩ := trodAll_nil t4
  obtain rfl : args = #[v0, v1, v2, v3, v4] := by cases args; simp_all
  subst f0; subst g0
  obtain ⟨rfl, rfl⟩ := trodVars_none hV
  obtain ⟨a0, m0, cap0, l0, rfl, hs0, hl0, hb0⟩ := open_sups_arg (hval 0 28 v0 rfl rfl) h0
  have hz0 := sized_sups hsz (j := 0) rfl rfl (sups_len h0)
  obtain ⟨n1, rfl, rfl, rfl, wn1⟩ := open_int Tryd.underlying3 (hval 1 3 v1 rfl rfl) h1
  have wr1 := i64_range wn1
  obtain ⟨a2, m2, cap2, l2, rfl, hp2⟩ := open_picksw_arg (hval 2 29 v2 rfl rfl) h2
  obtain ⟨n3, rfl, rfl, rfl, wn3⟩ := open_int Tryd.underlying3 (hval 3 3 v3 rfl rfl) h3
  have wr3 := i64_range wn3
  obtain ⟨n4, rfl, rfl, rfl, wn4⟩ := open_int Tryd.underlying3 (hval 4 3 v4 rfl rfl) h4
  have wr4 := i64_range wn4
  clear hA0
  have walk : Calls Tryd.prog 4 #[.slice a0 m0 cap0, .int .i64 n1, .slice a2 m2 cap2, .int .i64 n3, .int .i64 n4] W fun e w' => e = .returned (.bool true) ∧ Upd [] W w' := by
    exact holds_loop hs0 hl0 hz0 _ _ _ hp2
  refine walk.mono fun e W' ⟨he, hu⟩ => ?_
  subst he
  exact ⟨_, rfl, law_post hW0 hu.all laidOut (by kernel_rfl) rfl (by kernel_rfl) Tryd.underlying4 rfl⟩
theorem laid_met (os : Os) : laidMet Tryd.prog Rows.superHoldsRow.laid ((laidWorld os).forCall (fun _ _ => 0) ⟨#[], #[.slice none 0 0, .int .i64 0, .slice none 0 0, .int .i64 0, .int .i64 0], []⟩).memory :=
  laidMet_of_run' 8 (by kernel_rfl) (by kernel_rfl)
theorem reads (os : Os) {H : Type} (enc : TypeId × Value → H) : ∃ places, DataW.whole enc Tryd.prog ((laidWorld os).forCall (fun _ _ => 0) ⟨#[], #[.slice none 0 0, .int .i64 0, .slice none 0 0, .int .i64 0, .int .i64 0], []⟩).memory Tryd.f4.params.toList Rows.superHoldsSpec.vars false #[Value.slice none 0 0, Value.int .i64 0, Value.slice none 0 0, Value.int .i64 0, Value.int .i64 0].toList 8 = some ([.nil, .lit (.int .i64 0), .nil, .lit (.int .i64 0), .lit (.int .i64 0)], [], places) :=
  ⟨[], by kernel_rfl⟩
set_option maxRecDepth 100000 in
theorem lifted (os : Os) (started : os.Started) (H : Type) (enc : TypeId × Value → H) (F : Stop.Interp) :
    ReturnsInHanded {} Tryd.checked os 4 .any ((OpenSpec.ofChange Rows.superHoldsSpec).preRow enc Tryd.prog Tryd.f4 Rows.superHoldsRow.domain false Rows.superHoldsRow.laid) (((OpenSpec.ofChange Rows.superHoldsSpec).at F).post enc Tryd.prog Tryd.f4 false true false false) := by
  obtain ⟨places, hx⟩ := reads os enc
  refine returnsInHanded_of_row (C := Tryd.checked) (s := OpenSpec.ofChange Rows.superHoldsSpec) own started (by kernel_rfl) Tryd.func4
    (witness_row_at (enc := enc) (C := Tryd.checked) false (laidWorld os) #[.slice none 0 0, .int .i64 0, .slice none 0 0, .int .i64 0, .int .i64 0] rfl (by kernel_rfl) (by kernel_rfl) (by kernel_rfl)
      (OpenSpec.preRow_of_cond 8 hx (by kernel_rfl) (fun k hk => by cases hk) (by kernel_rfl) (laid_met os))) ?_
  intro W base args ds gs before hval hW _ _ hsz hL _ _
  exact contract H enc W base args ds gs before hval hW hL hsz
theorem said : Rows.SuperHoldsSaid :=
  OpenClaim.holds_of_cond 4 Tryd.f4 rfl rfl rfl rfl rfl rfl rfl ⟨rfl, rfl, rfl, rfl, rfl⟩ rfl rfl rfl rfl rfl (by kernel_rfl) Tryd.func4 (by kernel_rfl)
    (of_decide_eq_true (by kernel_rfl)) (by unfold Func.isWrapper; first | (rw [if_pos (by decide +kernel)]; kernel_rfl) | (rw [if_neg (by decide +kernel)]; exact ⟨rfl, rfl⟩))
    (fun os started H enc _ F => by rw [OpenClaim.pre_eq_preRow]; exact lifted os started H enc F)
theorem plain (f : FuncId) (fn : Func) (hf : Tryd.pinned.checked.prog.funcNamed "polder/polderlaw04.SuperHolds" = some f) (hfn : Tryd.pinned.checked.prog.funcs[f]? = some fn) :
    false = Tryd.pinned.checked.prog.looks [] ∧ ∀ (j : Nat) t, fn.params[j]? = some t → Tryd.pinned.checked.prog.wantsStandIn t = false := by
  obtain rfl : f = 4 := Option.some.inj ((show Tryd.prog.funcNamed "polder/polderlaw04.SuperHolds" = some 4 by kernel_rfl).symm.trans hf) |>.symm
  obtain rfl : fn = Tryd.f4 := (Option.some.inj (Tryd.func4.symm.trans hfn)).symm
  exact ⟨by kernel_rfl, fun j t ht => no_standin (by kernel_rfl) j t ht⟩
/-- SuperHolds returns true for every input: the tied card. -/
theorem card : Rows.SuperHoldsCardSaid :=
  Claim7.holds_tied_plain_at .later [] _ _ _ _ said (fun _ h => by cases h) (by kernel_rfl) (fun _ h => by cases h) superHolds_row_tie rfl ⟨rfl, rfl⟩ (by kernel_rfl) rfl plain (by kernel_rfl)
end Go.Proofs.YtpnpjffhkaejgaaDoor.fnSuperHolds
