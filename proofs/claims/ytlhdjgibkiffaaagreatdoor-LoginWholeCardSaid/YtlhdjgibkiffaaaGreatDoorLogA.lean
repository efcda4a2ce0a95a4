/-
  PROVED HERE: the map of what answers a key. Conditions: those that each theorem names.
-/
import Derived.Test.YtlhdjgibkiffaaaGreatDoorLogK
namespace Go.Proofs.YtlhdjgibkiffaaaGreatDoor
open Go.RowKit Go.Shelf
section
variable {P : Program} {k e t : TypeId} {b n : Nat} {f : Txt → Option Value}
theorem wpList_vput {ops : Array Oper} {rest : List Oper} {o : Oper} {a : Act} {w : World} {Q : Exit → Act → World → Prop} (hgd : o.guard = none) (m x y : Operand) (ho : o.op = Op.insert t m x y) (hm : a.eval m = .map (some b)) (z : Txt) (hx : a.eval x = .string (txt z)) {v : Value} (hv : a.eval y = v)
    (hk : P.underlying k = some .string) (ht : P.underlying t = some (.map k e)) (hw : z.length ≤ maxLen) (h : VMap P k w b n f) (hn : n < maxLen)
    (hK : ∀ w', VMap P k w' b (n + 1) (fun y => if y = z then some v else f y) → Upd [b] w w' → wpList P ops Q rest (a.put o.dst undef) w') : wpList P ops Q (o :: rest) a w := by
  obtain ⟨w', hrun, h1, h2⟩ := h.put hk ht hn hw v
  refine wpList_plain hgd fun K hK' => ?_
  unfold Oper.wp
  simp [execOp, ho, hm, hx, hv, hrun, Result.andThen]
  exact hK' _ _ (hK w' h1 h2)
end
abbrev fnV (f : Nat) : Value := .func (.func f) #[] #[]
def ansF (x : Txt) : Option Value :=
  if x = kLen then some (fnV 38) else if x = kData then some (fnV 37) else if x = kHead then some (fnV 37)
  else if x = kAuth then some (fnV 36) else if x = kKind then some (fnV 35) else if x = kName then some (fnV 34) else none
set_option maxRecDepth 100000 in
set_option maxHeartbeats 4000000 in
theorem answers_any (w : World) : Calls Tryz.prog 27 #[] w fun e w' => (∃ m, e = .returned (.map (some m)) ∧ w.heap.size ≤ m ∧ VMap Tryz.prog 9 w' m 6 ansF) ∧ Below w.heap.size w w' := by
  have hmm := @run_makeMap Tryz.prog
  have HM := Lib.hid (VMap.made w Tryz.prog 9)
  have HB := Lib.hid (show Below w.heap.size w (w.alloc (.map #[] 0)) from (Below.refl _ _).alloc (Nat.le_refl _) _)
  go_enter Tryz.func27, Tryz.ntmps27
  go_wp2_with (refine wpList_vput rfl (.tmp 1) _ _ rfl rfl _ rfl rfl Tryz.underlying9 Tryz.underlying73 (by unfold maxLen; decide) HM.out (by unfold maxLen; omega) ?_; intro w' hm' hu'; have hb' := HB.out.trans (hu'.below HB.out.size (by simp)); clear HM HB; have HM := Lib.hid hm'; have HB := Lib.hid hb'; clear hm' hu' hb')
  go_ret
  exact ⟨⟨_, rfl, Nat.le_refl _, HM.out⟩, HB.out⟩
end Go.Proofs.YtlhdjgibkiffaaaGreatDoor
