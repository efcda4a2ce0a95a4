/-
  PROVED HERE: maps.Clone at a map of bools whose keys are strings; maps whose keys are texts and whose elements are any one value. Conditions: those that each theorem names.
-/
import Derived.Test.YtlhdjgibkiffaaaGreatDoorKeyW
import Derived.Shelf.SlMaps.Clone
namespace Go.Proofs.YtlhdjgibkiffaaaGreatDoor
open Go.RowKit Go.Shelf Go.MapKept
set_option maxRecDepth 100000 in
set_option maxHeartbeats 2000000 in
theorem clone_any {b : Nat} {es : Array MapEntry} {clock : Nat} {w : World} (hb : w.heap[b]? = some (.map es clock)) :
    Calls Tryz.prog 17 #[.map (some b)] w fun e w' => e = .returned (.map (some w.heap.size)) ∧ w' = w.alloc (.map es clock) := by
  have hq := fun w => run_eql_map_nil_sl (P := Tryz.prog) w 50 _ _ (some b) Tryz.underlying50
  go_enter Tryz.func17, Tryz.ntmps17
  go_wp2
  rw [run_callFunc_extern Tryz.func26 (by kernel_rfl) (by kernel_rfl) (by kernel_rfl) (e := Extern.MapsClone.clone) (by kernel_rfl), run_maps_clone_sl w 50 hb]
  simp only [Result.andThen]
  rw [Oper.upon_value]
  go_wp2
  rw [run_typeAssert_map_sl _ 50 20 _ _ _ Tryz.underlying50]
  simp only [Result.andThen]
  rw [Oper.upon_value]
  go_wp2
  go_ret
  exact ⟨rfl, rfl⟩
theorem clone_set {b n : Nat} {S : List Txt} {w : World} (h : SSet Tryz.prog 9 w b n S) :
    Calls Tryz.prog 17 #[.map (some b)] w fun e w' => e = .returned (.map (some w.heap.size)) ∧ SSet Tryz.prog 9 w' w.heap.size n S ∧ Upd [] w w' := by
  obtain ⟨D, ⟨es, clock, hb, F, hs, hD⟩, h2⟩ := h
  refine (clone_any hb).mono fun e w' ⟨he, hw⟩ => ?_
  subst hw
  exact ⟨he, ⟨D, ⟨es, clock, (heap_alloc w _).1, F, hs, hD⟩, h2⟩, (Upd.refl _ _).alloc _⟩
/-- Any one value reads as itself. -/
def heldV (v : Value) : Option (DataW Value × List MemPlace) := some (.held v, [])
/-- Block b is a map of at most n entries that holds f's values. -/
def VMap (P : Program) (k : TypeId) (w : World) (b n : Nat) (f : Txt → Option Value) : Prop :=
  ∃ D, w.ownsMap P k heldV b n D ∧ ∀ (x : Txt) (z : DataW Value), x.length ≤ maxLen → D.atKey (.string x) z = match f x with | some v => .held v | none => z
section
variable {P : Program} {k e t : TypeId} {w : World} {b n : Nat} {f : Txt → Option Value}
theorem VMap.upd {T : List Nat} {w' : World} (h : VMap P k w b n f) (u : Upd T w w') (hs : b ∉ T) : VMap P k w' b n f := by
  obtain ⟨D, ⟨es, clock, hb, r⟩, h2⟩ := h
  exact ⟨D, ⟨es, clock, u.get hb hs, r⟩, h2⟩
theorem VMap.lt (h : VMap P k w b n f) : b < w.heap.size := by
  obtain ⟨D, h1, _⟩ := h
  exact h1.lt
theorem VMap.made (w : World) (P : Program) (k : TypeId) : VMap P k (w.alloc (.map #[] 0)) w.heap.size 0 (fun _ => none) :=
  ⟨.map [], World.ownsMap_made w P k heldV, fun x z _ => by simp [DataW.atKey]⟩
/-- The look-up, with its second answer. -/
theorem VMap.look (h : VMap P k w b n f) (hk : P.underlying k = some .string) (ht : P.underlying t = some (.map k e)) {z0 : Value} (hz : (zeroValue e).run P w = .ok z0 w) {x : Txt} (hw : x.length ≤ maxLen) :
    (Instr.lookup t (.map (some b)) (.string (txt x)) true).run P w = .ok (.tuple #[(f x).getD z0, .bool (f x).isSome]) w := by
  obtain ⟨D, h1, h2⟩ := h
  obtain ⟨es, clock, hb, F, _, rfl⟩ := h1
  have h3 := h2 x .nil hw
  rcases Go.Maps.fit_look true (Go.Maps.string_keyed hk) ht hz hb F (Go.WideMaps.keyOf_string_mk (s := txt x) hk hw) with ⟨hrun, _, hat⟩ | ⟨e0, y, _, _, hrun, hR, hat, _⟩
  · have h4 := hat .nil
    rw [show (txt x).data.toList = x from rfl, h3] at h4
    rw [hrun]
    cases hf : f x with
    | none => rfl
    | some v => rw [hf] at h4; cases h4
  · have hy : y = (.held e0.val, []) := by unfold heldV at hR; exact (Option.some.inj hR).symm
    subst hy
    have h4 := hat .nil
    rw [show (txt x).data.toList = x from rfl, h3] at h4
    cases hf : f x with
    | none => rw [hf] at h4; cases h4
    | some v =>
      rw [hf] at h4
      have h5 : e0.val = v := by simpa using h4.symm
      rw [hrun, h5]
      rfl
/-- The store. -/
theorem VMap.put (h : VMap P k w b n f) (hk : P.underlying k = some .string) (ht : P.underlying t = some (.map k e)) (hn : n < maxLen) {x : Txt} (hw : x.length ≤ maxLen) (v : Value) :
    ∃ w', (Instr.mapUpdate t (.map (some b)) (.string (txt x)) v).run P w = .ok () w' ∧ VMap P k w' b (n + 1) (fun y => if y = x then some v else f y) ∧ Upd [b] w w' := by
  obtain ⟨D, h1, h2⟩ := h
  have hd := h1.isMap
  obtain ⟨w', hrun, hown, ht'⟩ := h1.store (Go.Maps.string_keyed hk) ht hn (Go.WideMaps.keyOf_string_mk (s := txt x) hk hw) (show heldV v = some (.held v, []) from rfl)
  refine ⟨w', hrun, ⟨_, hown, fun y z hy => ?_⟩, (upd_turnedS ht').1⟩
  by_cases hxy : y = x
  · subst hxy
    simp only [if_true]
    exact Go.Maps.atKey_put_same hd (show WideAt.IsKeyLit (.string y) from trivial) _ _
  · rw [Go.Maps.atKey_put_other (fun e => hxy (by simpa using e)), h2 y z hy]
    simp only [if_neg hxy]
end
end Go.Proofs.YtlhdjgibkiffaaaGreatDoor
