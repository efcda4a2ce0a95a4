/-
  PROVED HERE: LoginWhole of package polderlaw20 returns true for every input (the tied card). Conditions: none but the row's own.
-/
import Derived.Test.YtlhdjgibkiffaaaGreatDoorLogQ
import Derived.Test.YtlhdjgibkiffaaaGreatDoorOpenTxb
import Derived.Test.YtlhdjgibkiffaaaGreatDoorRowKeys
import Derived.Test.YtlhdjgibkiffaaaGreatDoorOpenAgg
namespace Go.Proofs.YtlhdjgibkiffaaaGreatDoor.fnLoginWhole
open Go.ChangeShapes Go.WideShapes Go.ChangeAt Go.RowKit Go.ChangeMaps
set_option maxRecDepth 100000 in
theorem contract (H : Type) (enc : TypeId × Value → H) (W : World) (base : Nat) (args : Array Value) (ds gs : List (DataW H)) (before : List MemPlace)
    (hval : ∀ (j : Nat) t v, Tryz.f4.params[j]? = some t → args[j]? = some v → Value.okWide Tryz.prog W .any base t v)
    (hW : DataW.Whole enc Tryz.prog Tryz.f4.params.toList Rows.loginWholeSpec.vars false W args.toList ds gs before) (hL : laidMetH Tryz.prog Rows.loginWholeRow.laid W) (hsz : (DataW.weightsEach Tryz.prog (Tryz.f4.params.toList ++ (OpenSpec.ofChange Rows.loginWholeSpec).bare.plain.varTypes Tryz.prog) (ds ++ gs)).all (· ≤ reachBytes) = true) :
    Calls Tryz.prog 4 args W fun e W' => ∃ v, e = .returned v ∧ Rows.loginWholeSpec.post enc Tryz.prog Tryz.f4 false true false false W args v W' := by
  have hW0 := hW
  obtain ⟨p, q, hA0, hV, rfl, hfz, hnd⟩ := hW
  have hA : DataW.TrodAll enc Tryz.prog W 0 (fun _ => true) true Tryz.f4.params.toList args.toList ds p := hA0
  rw [Tryz.params4] at hA hval hsz
  have hA1 := hA
  obtain ⟨v0, r0, d0, s0, p0, q0, e0, f0, g0, h0, t0⟩ := trodAll_cons hA1
  obtain ⟨v1, r1, d1, s1, p1, q1, e1, f1, g1, h1, t1⟩ := trodAll_cons t0
  subst e1; subst f1; subst g1
  obtain ⟨v2, r2, d2, s2, p2, q2, e2, f2, g2, h2, t2⟩ := trodAll_cons t1
  subst e2; subst f2; subst g2
  obtain ⟨v3, r3, d3, s3, p3, q3, e3, f3, g3, h3, t3⟩ := trodAll_cons t2
  subst e3; subst f3; subst g3
  obtain ⟨v4, r4, d4, s4, p4, q4, e4, f4, g4, h4, t4⟩ := trodAll_cons t3
  subst e4; subst f4; subst g4
  obtain ⟨v5, r5, d5, s5, p5, q5, e5, f5, g5, h5, t5⟩ := trodAll_cons t4
  subst e5; subst f5; subst g5
  obtain ⟨v6, r6, d6, s6, p6, q6, e6, f6, g6, h6, t6⟩ := trodAll_cons t5
  subst e6; subst f6; subst g6
  obtain ⟨rfl, rfl, rfl⟩ := trodAll_nil t6
  obtain rfl : args = #[v0, v1, v2, v3, v4, v5, v6] := by cases args; simp_all
  subst f0; subst g0
  obtain ⟨rfl, rfl⟩ := trodVars_none hV
  obtain ⟨s0, rfl, rfl, rfl, hs0⟩ := open_string Tryz.underlying9 (hval 0 9 v0 rfl rfl) h0
  have ht0 := sized_string hsz (j := 0) rfl rfl
  obtain ⟨s1, rfl, rfl, rfl, hs1⟩ := open_string Tryz.underlying9 (hval 1 9 v1 rfl rfl) h1
  have ht1 := sized_string hsz (j := 1) rfl rfl
  obtain ⟨s2, rfl, rfl, rfl, hs2⟩ := open_string Tryz.underlying9 (hval 2 9 v2 rfl rfl) h2
  have ht2 := sized_string hsz (j := 2) rfl rfl
  obtain ⟨s3, rfl, rfl, rfl, hs3⟩ := open_string Tryz.underlying9 (hval 3 9 v3 rfl rfl) h3
  have ht3 := sized_string hsz (j := 3) rfl rfl
  obtain ⟨n4, rfl, rfl, rfl, wn4⟩ := open_int Tryz.underlying3 (hval 4 3 v4 rfl rfl) h4
  have wr4 := i64_range wn4
  obtain ⟨n5, rfl, rfl, rfl, wn5⟩ := open_int Tryz.underlying3 (hval 5 3 v5 rfl rfl) h5
  have wr5 := i64_range wn5
  obtain ⟨n6, rfl, rfl, rfl, wn6⟩ := open_int Tryz.underlying3 (hval 6 3 v6 rfl rfl) h6
  have wr6 := i64_range wn6
  clear hA0
  have walk : Calls Tryz.prog 4 #[.string s0, .string s1, .string s2, .string s3, .int .i64 n4, .int .i64 n5, .int .i64 n6] W fun e w' => e = .returned (.bool true) ∧ Upd [] W w' := by
    have hV : ∀ W2, Below W.heap.size W W2 → Vars W2 := fun W2 hb => (vars_of_laid hL).below hb
    exact (whole_any s0.data.toList s1.data.toList s2.data.toList s3.data.toList n4 n5 n6 (by have := reachBytes_lt; omega) (by have := reachBytes_lt; omega) (by have := reachBytes_lt; omega) (by have := reachBytes_lt; omega) hV).mono fun e w2 h => ⟨h.1, Upd.of_below h.2⟩
  refine walk.mono fun e W' ⟨he, hu⟩ => ?_
  subst he
  exact ⟨_, rfl, law_post hW0 hu.all laidOut (by kernel_rfl) rfl (by kernel_rfl) Tryz.underlying4 rfl⟩
theorem laid_met (os : Os) : laidMet Tryz.prog Rows.loginWholeRow.laid ((laidWorld os).forCall (fun _ _ => 0) ⟨#[], #[.string ⟨#[]⟩, .string ⟨#[]⟩, .string ⟨#[]⟩, .string ⟨#[]⟩, .int .i64 0, .int .i64 0, .int .i64 0], []⟩).memory :=
  laidMet_of_run' 8 (by kernel_rfl) (by kernel_rfl)
theorem reads (os : Os) {H : Type} (enc : TypeId × Value → H) : ∃ places, DataW.whole enc Tryz.prog ((laidWorld os).forCall (fun _ _ => 0) ⟨#[], #[.string ⟨#[]⟩, .string ⟨#[]⟩, .string ⟨#[]⟩, .string ⟨#[]⟩, .int .i64 0, .int .i64 0, .int .i64 0], []⟩).memory Tryz.f4.params.toList Rows.loginWholeSpec.vars false #[Value.string ⟨#[]⟩, Value.string ⟨#[]⟩, Value.string ⟨#[]⟩, Value.string ⟨#[]⟩, Value.int .i64 0, Value.int .i64 0, Value.int .i64 0].toList 8 = some ([.lit (.string []), .lit (.string []), .lit (.string []), .lit (.string []), .lit (.int .i64 0), .lit (.int .i64 0), .lit (.int .i64 0)], [], places) :=
  ⟨[], by kernel_rfl⟩
set_option maxRecDepth 100000 in
theorem lifted (os : Os) (started : os.Started) (H : Type) (enc : TypeId × Value → H) (F : Stop.Interp) :
    ReturnsInHanded {} Tryz.checked os 4 .any ((OpenSpec.ofChange Rows.loginWholeSpec).preRow enc Tryz.prog Tryz.f4 Rows.loginWholeRow.domain false Rows.loginWholeRow.laid) (((OpenSpec.ofChange Rows.loginWholeSpec).at F).post enc Tryz.prog Tryz.f4 false true false false) := by
  obtain ⟨places, hx⟩ := reads os enc
  refine returnsInHanded_of_row (C := Tryz.checked) (s := OpenSpec.ofChange Rows.loginWholeSpec) own started (by kernel_rfl) Tryz.func4
    (witness_row_at (enc := enc) (C := Tryz.checked) false (laidWorld os) #[.string ⟨#[]⟩, .string ⟨#[]⟩, .string ⟨#[]⟩, .string ⟨#[]⟩, .int .i64 0, .int .i64 0, .int .i64 0] rfl (by kernel_rfl) (by kernel_rfl) (by kernel_rfl)
      (OpenSpec.preRow_of_cond 8 hx (by kernel_rfl) (fun k hk => by cases hk) (by kernel_rfl) (laid_met os))) ?_
  intro W base args ds gs before hval hW _ _ hsz hL _ _
  exact contract H enc W base args ds gs before hval hW hL hsz
theorem said : Rows.LoginWholeSaid :=
  OpenClaim.holds_of_cond 4 Tryz.f4 rfl rfl rfl rfl rfl rfl rfl ⟨rfl, rfl, rfl, rfl, rfl⟩ rfl rfl rfl rfl rfl (by kernel_rfl) Tryz.func4 (by kernel_rfl)
    (of_decide_eq_true (by kernel_rfl)) (by unfold Func.isWrapper; first | (rw [if_pos (by decide +kernel)]; kernel_rfl) | (rw [if_neg (by decide +kernel)]; exact ⟨rfl, rfl⟩))
    (fun os started H enc _ F => by rw [OpenClaim.pre_eq_preRow]; exact lifted os started H enc F)
theorem plain (f : FuncId) (fn : Func) (hf : Tryz.pinned.checked.prog.funcNamed "polder/polderlaw20.LoginWhole" = some f) (hfn : Tryz.pinned.checked.prog.funcs[f]? = some fn) :
    true = Tryz.pinned.checked.prog.looks [] ∧ ∀ (j : Nat) t, fn.params[j]? = some t → Tryz.pinned.checked.prog.wantsStandIn t = false := by
  obtain rfl : f = 4 := Option.some.inj ((show Tryz.prog.funcNamed "polder/polderlaw20.LoginWhole" = some 4 by kernel_rfl).symm.trans hf) |>.symm
  obtain rfl : fn = Tryz.f4 := (Option.some.inj (Tryz.func4.symm.trans hfn)).symm
  exact ⟨by kernel_rfl, fun j t ht => no_standin (by kernel_rfl) j t ht⟩
/-- LoginWhole returns true for every input: the tied card. -/
theorem card : Rows.LoginWholeCardSaid :=
  Claim7.holds_tied_plain_at .later [] _ _ _ _ said (fun _ h => by cases h) (by kernel_rfl) (fun _ h => by cases h) loginWhole_row_tie rfl ⟨rfl, rfl⟩ (by kernel_rfl) rfl plain (by kernel_rfl)
end Go.Proofs.YtlhdjgibkiffaaaGreatDoor.fnLoginWhole
