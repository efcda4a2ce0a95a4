/-
  PROVED HERE: the methods that answer one key are the plain function. Conditions: those that each theorem names.
-/
import Derived.Test.YtlhdjgibkiffaaaGreatDoorLogL
import Derived.Test.YtlhdjgibkiffaaaGreatDoorKeyC
import Derived.Test.YtlhdjgibkiffaaaGreatDoorKeyN
import Derived.Test.YtlhdjgibkiffaaaGreatDoorOrder
import Derived.Test.YtlhdjgibkiffaaaGreatDoorQuiet
namespace Go.Proofs.YtlhdjgibkiffaaaGreatDoor
open Go.RowKit Go.Shelf
/-- A turn's cells. -/
abbrev tuV (b : Nat) (first : Bool) (st : Nat) (s : Lg) (m : Nat) : List Value := .pointer (some ⟨b, 0, none⟩) :: .bool first :: .int .i64 (st : Nat) :: lgV s m
/-- Block c is a turn of login b, m its map. -/
structure TuAt (W : World) (c b m : Nat) (first : Bool) (st : Nat) (s : Lg) : Prop where
  obj : W.heap[c]? = some (.cells (tuV b first st s m).toArray 56 (0, 0))
  ne : m ≠ c
  set : SSet Tryz.prog 9 W m s.ans.length s.ans
theorem TuAt.upd {W W' : World} {c b m : Nat} {first : Bool} {st : Nat} {s : Lg} {T : List Nat} (h : TuAt W c b m first st s) (u : Upd T W W') (hc : c ∉ T) (hm : m ∉ T) : TuAt W' c b m first st s := ⟨u.get h.obj hc, h.ne, h.set.upd u hm⟩
theorem TuAt.lt {W : World} {c b m : Nat} {first : Bool} {st : Nat} {s : Lg} (h : TuAt W c b m first st s) : c < W.heap.size := lt_of_get h.obj
/-- The cells, and that none is frozen. -/
theorem TuAt.cell {W : World} {c b m : Nat} {first : Bool} {st : Nat} {s : Lg} (h : TuAt W c b m first st s) (j : Nat) : W.cell? ⟨c, j, none⟩ = (tuV b first st s m)[j]? := by
  rw [(cells_of h.obj).1 j]; simp
theorem TuAt.frz {W : World} {c b m : Nat} {first : Bool} {st : Nat} {s : Lg} (h : TuAt W c b m first st s) (j : Nat) : W.frozen? ⟨c, j, none⟩ = false := (cells_of h.obj).2 j
theorem TuAt.put {W : World} {c b m : Nat} {first : Bool} {st : Nat} {s s' : Lg} (h : TuAt W c b m first st s) (j : Nat) (v : Value) (he : (tuV b first st s m).set j v = tuV b first st s' m) (ha : s'.ans = s.ans) : TuAt (W.setCell ⟨c, j, none⟩ v) c b m first st s' := by
  refine ⟨?_, h.ne, ?_⟩
  · have := heap_setCell_same W c j _ _ v h.obj
    rw [this, ← he]
    simp
  · rw [ha]
    exact h.set.upd ((Upd.refl [c] _).setCell (.inl (by simp)) _) (by simpa using h.ne)
theorem TuAt.alloc {W : World} {c b m : Nat} {first : Bool} {st : Nat} {s : Lg} (h : TuAt W c b m first st s) (o : Obj) : TuAt (W.alloc o) c b m first st s := h.upd ((Upd.refl [] W).alloc o) (by simp) (by simp)
def nameS (first : Bool) : Int := if first then 0 else 512
def nameL (first : Bool) (val : Txt) (s : Lg) : Lg := if first then { s with tm := { s.tm with name := val } } else s
def kindS (first : Bool) (val : Txt) : Int := if first then (if val = tNormal then 0 else 521) else 512
def authT (op1 : Bool) (val : Txt) : Txt := if op1 then tNot else (chooseFrom [tNone] [] val).getD []
def authS (op1 : Bool) (val : Txt) : Int := if op1 then 0 else if (chooseFrom [tNone] [] val).isSome then 0 else 513
def lenT (op1 : Bool) : Txt := if op1 then [] else tNot
def lenS (op1 : Bool) (val : Txt) : Int := if op1 then (if (numR val 64 16777215).2 then 0 else 512) else 0
def lenL (op1 : Bool) (val : Txt) (s : Lg) : Lg := if op1 && (numR val 64 16777215).2 then { s with tm := { s.tm with send := min (numR val 64 16777215).1 1024 } } else s
def digT (op1 : Bool) (key val : Txt) (s : Lg) : Txt := if op1 then (if key ∈ s.ans then [] else match chooseFrom [tCrc, tNone] [] val with | none => tReject | some v => v) else tNot
def digS (op1 : Bool) (key : Txt) (s : Lg) : Int := if op1 then (if key ∈ s.ans then 512 else 0) else 0
def digL (op1 : Bool) (key val : Txt) (s : Lg) : Lg := if op1 then (if key ∈ s.ans then s else match chooseFrom [tCrc, tNone] [] val with
  | none => { s with ans := key :: s.ans }
  | some v => if key = kData then { s with ans := key :: s.ans, tm := { s.tm with data := decide (v = tCrc) } } else { s with ans := key :: s.ans, tm := { s.tm with head := decide (v = tCrc) } }) else s
section
variable {W : World} {c b m : Nat} {first : Bool} {st : Nat} {s : Lg} (key val : Txt)
set_option maxRecDepth 100000 in
set_option maxHeartbeats 2000000 in
theorem name_any (h : TuAt W c b m first st s) : Calls Tryz.prog 34 #[.pointer (some ⟨c, 0, none⟩), .agg #[.string (txt key), .string (txt val)]] W fun e W' => e = .returned (.tuple #[.string (txt []), .int .i64 (nameS first)]) ∧ TuAt W' c b m first st (nameL first val s) ∧ Upd [c, m] W W' := by
  have H0 := Lib.hid h
  have H := Lib.hid (h.alloc (.cells #[.string (txt key), .string (txt val)] 68))
  have hlt := h.lt
  have c1 := H.out.cell 1
  have c3 := H.out.cell 3
  have f3 := H.out.frz 3
  simp only [List.getElem?_cons_zero, List.getElem?_cons_succ] at c1 c3
  clear h
  cases first
  · go_enter Tryz.func34, Tryz.ntmps34
    go_wp2_with fail
    go_ret2
    exact ⟨rfl, H.out, (Upd.refl _ _).alloc _⟩
  · go_enter Tryz.func34, Tryz.ntmps34
    go_wp2_with fail
    go_ret2
    exact ⟨rfl, (H0.out.put (s' := nameL true val s) 3 (.string (txt val)) rfl rfl).alloc _, ((Upd.refl _ _).setCell (.inl (by simp)) _).alloc _⟩
set_option maxRecDepth 100000 in
set_option maxHeartbeats 2000000 in
theorem kind_any (h : TuAt W c b m first st s) : Calls Tryz.prog 35 #[.pointer (some ⟨c, 0, none⟩), .agg #[.string (txt key), .string (txt val)]] W fun e W' => e = .returned (.tuple #[.string (txt []), .int .i64 (kindS first val)]) ∧ TuAt W' c b m first st s ∧ Upd [c, m] W W' := by
  have H := Lib.hid (h.alloc (.cells #[.string (txt key), .string (txt val)] 68))
  have hlt := h.lt
  have c1 := H.out.cell 1
  simp only [List.getElem?_cons_zero, List.getElem?_cons_succ] at c1
  clear h
  cases first
  · go_enter Tryz.func35, Tryz.ntmps35
    go_wp2_with fail
    go_ret2
    exact ⟨rfl, H.out, (Upd.refl _ _).alloc _⟩
  · by_cases hv : val = tNormal
    · have HE := Lib.hid (show kindS true val = 0 by unfold kindS; simp [hv])
      have hx : (val == [78, 111, 114, 109, 97, 108]) = true := beq_iff_eq.2 hv
      clear hv
      go_enter Tryz.func35, Tryz.ntmps35
      go_wp2_with fail
      go_ret2
      exact ⟨by rw [HE.out]; rfl, H.out, (Upd.refl _ _).alloc _⟩
    · have HE := Lib.hid (show kindS true val = 521 by unfold kindS; simp [hv])
      have hx : (val == [78, 111, 114, 109, 97, 108]) = false := beq_eq_false_iff_ne.2 hv
      clear hv
      go_enter Tryz.func35, Tryz.ntmps35
      go_wp2_with fail
      go_ret2
      exact ⟨by rw [HE.out]; rfl, H.out, (Upd.refl _ _).alloc _⟩
theorem txts_one (w : World) (t : Txt) : IsTxts (w.alloc (.cells #[.string (txt t)] 9)) (.slice (some ⟨w.heap.size, 0, none⟩) 1 1) [t] :=
  ⟨_, _, rfl, by simp, by unfold maxLen; omega, fun i hi => by
    have hi0 : i = 0 := by simp at hi; omega
    subst hi0
    exact ⟨_, _, rfl, by simp, by rw [World.cell?_alloc_new]; rfl⟩⟩
theorem txts_two (w : World) (t u : Txt) : IsTxts (w.alloc (.cells #[.string (txt t), .string (txt u)] 9)) (.slice (some ⟨w.heap.size, 0, none⟩) 2 2) [t, u] :=
  ⟨_, _, rfl, by simp, by unfold maxLen; omega, fun i hi => by
    have hi0 : i = 0 ∨ i = 1 := by simp at hi; omega
    rcases hi0 with rfl | rfl
    · exact ⟨_, _, rfl, by simp, by rw [World.cell?_alloc_new]; rfl⟩
    · exact ⟨_, _, rfl, by simp, by rw [World.cell?_alloc_new]; rfl⟩⟩
set_option maxRecDepth 100000 in
set_option maxHeartbeats 2000000 in
theorem auth_any (h : TuAt W c b m first st s) (hv : val.length ≤ 9223372036854775807) : Calls Tryz.prog 36 #[.pointer (some ⟨c, 0, none⟩), .agg #[.string (txt key), .string (txt val)]] W fun e W' => e = .returned (.tuple #[.string (txt (authT (decide (st = 1)) val)), .int .i64 (authS (decide (st = 1)) val)]) ∧ TuAt W' c b m first st s ∧ Upd [c, m] W W' := by
  have H := Lib.hid (h.alloc (.cells #[.string (txt key), .string (txt val)] 68))
  have hlt := h.lt
  have c2 := H.out.cell 2
  simp only [List.getElem?_cons_zero, List.getElem?_cons_succ] at c2
  clear h
  by_cases h1 : st = 1
  · subst h1
    go_enter Tryz.func36, Tryz.ntmps36
    go_wp2_with fail
    go_ret2
    exact ⟨rfl, H.out, (Upd.refl _ _).alloc _⟩
  · rw [decide_eq_false h1]
    have hst : ((st : Int) == 1) = false := beq_eq_false_iff_ne.2 (by omega)
    have H2 := Lib.hid (H.out.alloc (.cells #[.string (txt tNone)] 9))
    have hch := choose_any val (txts_one (W.alloc (.cells #[.string (txt key), .string (txt val)] 68)) tNone) hv
    rw [size_alloc1] at hch
    cases hc : chooseFrom [tNone] [] val with
    | none =>
      have HE := Lib.hid (show authS false val = 513 by unfold authS; simp [hc])
      have HT := Lib.hid (show authT false val = [] by unfold authT; simp [hc])
      rw [hc] at hch
      have HCH := Lib.hid hch
      simp only [Option.getD_none, Option.isSome_none] at HCH
      clear hch hc h1 hv
      go_enter Tryz.func36, Tryz.ntmps36
      go_wp2_with fail
      refine HCH.out.mono ?_
      rintro e w3 ⟨rfl, hb3⟩
      have H3 := Lib.hid (H2.out.upd (Upd.of_below hb3) (by simp) (by simp))
      have U3 := Lib.hid (Upd.of_below hb3)
      clear hb3
      go_wp2_with fail
      go_ret2
      exact ⟨by rw [HE.out, HT.out]; rfl, H3.out, (((Upd.refl _ _).alloc _).alloc _).trans (U3.out.mono (by simp))⟩
    | some t =>
      have HE := Lib.hid (show authS false val = 0 by unfold authS; simp [hc])
      have HT := Lib.hid (show authT false val = t by unfold authT; simp [hc])
      rw [hc] at hch
      have HCH := Lib.hid hch
      simp only [Option.getD_some, Option.isSome_some] at HCH
      clear hch hc h1 hv
      go_enter Tryz.func36, Tryz.ntmps36
      go_wp2_with fail
      refine HCH.out.mono ?_
      rintro e w3 ⟨rfl, hb3⟩
      have H3 := Lib.hid (H2.out.upd (Upd.of_below hb3) (by simp) (by simp))
      have U3 := Lib.hid (Upd.of_below hb3)
      clear hb3
      go_wp2_with fail
      go_ret2
      exact ⟨by rw [HE.out, HT.out]; rfl, H3.out, (((Upd.refl _ _).alloc _).alloc _).trans (U3.out.mono (by simp))⟩
set_option maxRecDepth 100000 in
set_option maxHeartbeats 2000000 in
theorem length_any (h : TuAt W c b m first st s) (hv : val.length ≤ 281474976710656) (hV : ∀ W', Below W.heap.size W W' → Vars W') : Calls Tryz.prog 38 #[.pointer (some ⟨c, 0, none⟩), .agg #[.string (txt key), .string (txt val)]] W fun e W' => e = .returned (.tuple #[.string (txt (lenT (decide (st = 1)))), .int .i64 (lenS (decide (st = 1)) val)]) ∧ TuAt W' c b m first st (lenL (decide (st = 1)) val s) ∧ Upd [c, m] W W' := by
  have H := Lib.hid (h.alloc (.cells #[.string (txt key), .string (txt val)] 68))
  have hlt := h.lt
  have c2 := H.out.cell 2
  simp only [List.getElem?_cons_zero, List.getElem?_cons_succ] at c2
  clear h
  by_cases h1 : st = 1
  · subst h1
    have hb1 : Below W.heap.size W (W.alloc (.cells #[.string (txt key), .string (txt val)] 68)) := (Below.refl _ _).alloc (Nat.le_refl _) _
    have HN := Lib.hid (number_any (w := W.alloc (.cells #[.string (txt key), .string (txt val)] 68)) val 64 16777215 hv (fun W' hW' => hV W' (hb1.trans (hW'.mono hb1.size))))
    rw [decide_eq_true rfl]
    cases hc : (numR val 64 16777215).2 with
    | false =>
      have HE := Lib.hid (show lenS true val = 512 by unfold lenS; simp [hc])
      have HL := Lib.hid (show lenL true val s = s by unfold lenL; simp [hc])
      rw [hc] at HN
      clear hc hv hV hb1
      generalize (numR val 64 16777215).1 = n at *
      go_enter Tryz.func38, Tryz.ntmps38
      go_wp2_with fail
      refine HN.out.mono ?_
      rintro e w3 ⟨rfl, hb3⟩
      have H3 := Lib.hid (H.out.upd (Upd.of_below hb3) (by simp) (by simp))
      have U3 := Lib.hid (Upd.of_below hb3)
      clear hb3
      go_wp2_with fail
      go_ret2
      exact ⟨by rw [HE.out]; rfl, by rw [HL.out]; exact H3.out, ((Upd.refl _ _).alloc _).trans (U3.out.mono (by simp))⟩
    | true =>
      have HE := Lib.hid (show lenS true val = 0 by unfold lenS; simp [hc])
      have HL := Lib.hid (show lenL true val s = { s with tm := { s.tm with send := min (numR val 64 16777215).1 1024 } } by unfold lenL; simp [hc])
      rw [hc] at HN
      clear hc hv hV hb1
      generalize (numR val 64 16777215).1 = n at *
      go_enter Tryz.func38, Tryz.ntmps38
      go_wp2_with fail
      refine HN.out.mono ?_
      rintro e w3 ⟨rfl, hb3⟩
      have h3 := H.out.upd (Upd.of_below hb3) (by simp) (by simp)
      have H3 := Lib.hid h3
      have U3 := Lib.hid (Upd.of_below hb3)
      have c8 := h3.cell 8
      have f8 := h3.frz 8
      simp only [List.getElem?_cons_zero, List.getElem?_cons_succ] at c8
      clear hb3 h3
      go_wp2_with fail
      go_ret2
      exact ⟨by rw [HE.out]; rfl, by rw [HL.out]; exact H3.out.put 8 (.int .i64 (min n 1024)) rfl rfl, ((((Upd.refl _ _).alloc _).trans (U3.out.mono (by simp))).setCell (.inl (by simp)) _)⟩
  · rw [decide_eq_false h1]
    have hst : ((st : Int) != 1) = true := bne_iff_ne.2 (by omega)
    clear h1 hv hV
    go_enter Tryz.func38, Tryz.ntmps38
    go_wp2_with fail
    go_ret2
    exact ⟨rfl, H.out, (Upd.refl _ _).alloc _⟩
theorem dig_eq {a b : Txt} : (a == b) = decide (a = b) := by
  by_cases h : a = b
  · simp [h]
  · simp [h]
set_option maxRecDepth 100000 in
set_option maxHeartbeats 4000000 in
theorem digest_any (h : TuAt W c b m first st s) (hk : key.length ≤ 281474976710656) (hv : val.length ≤ 9223372036854775807) (ha : s.ans.length ≤ 1000) : Calls Tryz.prog 37 #[.pointer (some ⟨c, 0, none⟩), .agg #[.string (txt key), .string (txt val)]] W fun e W' => e = .returned (.tuple #[.string (txt (digT (decide (st = 1)) key val s)), .int .i64 (digS (decide (st = 1)) key s)]) ∧ TuAt W' c b m first st (digL (decide (st = 1)) key val s) ∧ Upd [c, m] W W' := by
  have H := Lib.hid (h.alloc (.cells #[.string (txt key), .string (txt val)] 68))
  have hlt := h.lt
  have HLM := Lib.hid h.set.lt
  have c2 := H.out.cell 2
  simp only [List.getElem?_cons_zero, List.getElem?_cons_succ] at c2
  clear h
  by_cases h1 : st = 1
  · subst h1
    rw [decide_eq_true rfl]
    generalize hW1 : W.alloc (.cells #[.string (txt key), .string (txt val)] 68) = W1 at *
    have d0 : W1.heap[W.heap.size]? = some (.cells #[.string (txt key), .string (txt val)] 68 (0, 0)) := by rw [← hW1]; exact alloc_last _ _
    have U1 := Lib.hid (show Upd [c, m] W W1 by rw [← hW1]; exact (Upd.refl _ _).alloc _)
    have HQ := Lib.hid (fun W' (hW' : Upd [] W1 W') => (⟨(H.out.upd hW' (by simp) (by simp)).cell 14, (cells_of (hW'.get d0 (by simp))).1 0, (H.out.upd hW' (by simp) (by simp)).set⟩ : W'.cell? ⟨c, 14, none⟩ = some (.map (some m)) ∧ W'.cell? ⟨W.heap.size, 0, none⟩ = some (.string (txt key)) ∧ SSet Tryz.prog 9 W' m s.ans.length s.ans))
    have D0 := Lib.hid d0
    clear d0
    go_enter Tryz.func37, Tryz.ntmps37
    go_wp2_with fail
    refine wp_region_quiet_at (fun W' => Upd [] W1 W') rfl (by kernel_rfl) (Upd.refl _ _).drew ?_
    apply qs_val rfl
    · intro W' hW'; obtain ⟨e1, e2, -⟩ := HQ.out W' hW'; go_simp; all_goals with_reducible rfl
    simp only [Act.put, List.setIfInBounds_toArray, List.set_cons_zero, List.set_cons_succ]
    apply qs_val rfl
    · intro W' hW'; obtain ⟨e1, e2, -⟩ := HQ.out W' hW'; go_simp; all_goals with_reducible rfl
    simp only [Act.put, List.setIfInBounds_toArray, List.set_cons_zero, List.set_cons_succ]
    apply qs_val rfl
    · intro W' hW'; obtain ⟨e1, e2, -⟩ := HQ.out W' hW'; go_simp; all_goals with_reducible rfl
    simp only [Act.put, List.setIfInBounds_toArray, List.set_cons_zero, List.set_cons_succ]
    apply qs_val rfl
    · intro W' hW'; obtain ⟨e1, e2, -⟩ := HQ.out W' hW'; go_simp; all_goals with_reducible rfl
    simp only [Act.put, List.setIfInBounds_toArray, List.set_cons_zero, List.set_cons_succ]
    apply qs_val rfl
    · intro W' hW'; obtain ⟨e1, e2, -⟩ := HQ.out W' hW'; go_simp; all_goals with_reducible rfl
    simp only [Act.put, List.setIfInBounds_toArray, List.set_cons_zero, List.set_cons_succ]
    apply qs_val rfl
    · intro W' hW'; obtain ⟨e1, e2, -⟩ := HQ.out W' hW'; go_simp; all_goals with_reducible rfl
    simp only [Act.put, List.setIfInBounds_toArray, List.set_cons_zero, List.set_cons_succ]
    apply qs_val rfl
    · intro W' hW'; obtain ⟨e1, e2, -⟩ := HQ.out W' hW'; go_simp; all_goals with_reducible rfl
    simp only [Act.put, List.setIfInBounds_toArray, List.set_cons_zero, List.set_cons_succ]
    apply qs_val (v := .bool (s.ans.contains key)) rfl (fun W' hW' => exec_lookup rfl rfl rfl ((HQ.out W' hW').2.2.look Tryz.underlying9 Tryz.underlying50 (Tryz.zeroValue4 _) (by unfold maxLen; omega)))
    simp only [Act.put, List.setIfInBounds_toArray, List.set_cons_zero, List.set_cons_succ]
    intro w5 hu5
    by_cases hm : key ∈ s.ans
    · have HT := Lib.hid (show digT true key val s = [] by unfold digT; simp [hm])
      have HS := Lib.hid (show digS true key s = 512 by unfold digS; simp [hm])
      have HL := Lib.hid (show digL true key val s = s by unfold digL; simp [hm])
      have hcn : s.ans.contains key = true := by simp [hm]
      rw [hcn]
      clear hm hcn
      go_wp2_with fail
      go_ret2
      exact ⟨by rw [HT.out, HS.out]; rfl, by rw [HL.out]; exact H.out.upd hu5 (by simp) (by simp), U1.out.trans (hu5.mono (by simp))⟩
    · have HNM := Lib.hid hm
      have HS := Lib.hid (show digS true key s = 0 by unfold digS; simp [hm])
      have hcn : s.ans.contains key = false := by simp [hm]
      rw [hcn]
      clear hm hcn
      have HU5 := Lib.hid hu5
      have HQ5 := Lib.hid (fun W' (hW' : Upd [] w5 W') => HQ.out W' (hu5.trans hW'))
      have HR5 := Lib.hid (fun W' (hW' : Upd [m] w5 W') => (⟨by
          have h5 := (H.out.upd hu5 (by simp) (by simp)).obj
          have := (cells_of (hW'.get h5 (by have := H.out.ne; simpa using this.symm))).1 14
          simpa using this, (cells_of (hW'.get (hu5.get D0.out (by simp)) (by have := HLM.out; simp; omega))).1 0⟩ : W'.cell? ⟨c, 14, none⟩ = some (.map (some m)) ∧ W'.cell? ⟨W.heap.size, 0, none⟩ = some (.string (txt key))))
      obtain ⟨w6, r6, s6, u6, -⟩ := ((HQ5.out w5.drew ((Upd.refl _ _).drew)).2.2.put Tryz.underlying9 Tryz.underlying50 (e := 4) (x := key) (by unfold maxLen; omega) (by unfold maxLen; omega))
      have HR6 := Lib.hid r6
      have h5 := H.out.upd hu5 (by simp) (by simp)
      have h6 : TuAt w6 c b m first 1 { s with ans := key :: s.ans } := ⟨u6.get h5.obj (by simpa using h5.ne.symm), h5.ne, s6⟩
      have H6 := Lib.hid h6
      have HU56 := Lib.hid (show Upd [m] w5 w6 from ((Upd.refl [m] w5).drew).trans u6)
      have HU6 := Lib.hid (show Upd [c, m] W w6 from (U1.out.trans (hu5.mono (by simp))).trans ((((Upd.refl [m] w5).drew).trans u6).mono (by simp)))
      have HD6 := Lib.hid ((((Upd.refl [m] w5).drew).trans u6).get (hu5.get D0.out (by simp)) (by have := HLM.out; simp; omega))
      clear r6 s6 u6 h5 h6 hu5
      have hch := choose_any val (txts_two w6 tCrc tNone) hv
      have hd6 := cells_of HD6.out
      have y0 := hd6.1 0
      have y1 := hd6.1 1
      simp only [List.getElem?_toArray, List.getElem?_cons_zero, List.getElem?_cons_succ] at y0 y1
      clear hd6
      go_wp2_with fail
      refine wp_region_order (fun W' => Upd [m] w5 W') [0, 1, 2, 3, 4, 5, 6] [[7]] 1 rfl (by kernel_rfl) (Upd.refl _ _).drew ?_
      simp only [List.map_cons, List.map_nil, opAt]
      iterate 7
        apply reads_step rfl
        · intro W' hW'; obtain ⟨e1, e2⟩ := HR5.out W' hW'; go_simp; all_goals with_reducible rfl
        simp only [Act.put, List.setIfInBounds_toArray, List.set_cons_zero, List.set_cons_succ]
      refine ⟨?_, trivial⟩
      simp only [List.map_cons, List.map_nil, opAt]
      refine tail_skip (w' := w6) rfl (exec_mapUpdate rfl rfl rfl rfl HR6.out) HU56.out ?_
      dsimp only [OnlyN, Exit.then, wpTail, Exit.inBlock]
      cases hc : chooseFrom [tCrc, tNone] [] val with
      | none =>
        have HT := Lib.hid (show digT true key val s = tReject by unfold digT; have := HNM.out; simp [this, hc])
        have HL := Lib.hid (show digL true key val s = { s with ans := key :: s.ans } by unfold digL; have := HNM.out; simp [this, hc])
        rw [hc] at hch
        have HCH := Lib.hid hch
        simp only [Option.getD_none, Option.isSome_none] at HCH
        clear hch hc
        go_wp2_with fail
        refine HCH.out.mono ?_
        rintro e w7 ⟨rfl, hb7⟩
        have H7 := Lib.hid ((H6.out.alloc _).upd (Upd.of_below hb7) (by simp) (by simp))
        have U7 := Lib.hid (Upd.of_below hb7)
        clear hb7
        go_wp2_with fail
        go_ret2
        exact ⟨by rw [HT.out, HS.out]; rfl, by rw [HL.out]; exact H7.out, (HU6.out.alloc _).trans (U7.out.mono (by simp))⟩
      | some t =>
        have HT := Lib.hid (show digT true key val s = t by unfold digT; have := HNM.out; simp [this, hc])
        rw [hc] at hch
        have HCH := Lib.hid hch
        simp only [Option.getD_some, Option.isSome_some] at HCH
        have HLX := Lib.hid (show digL true key val s = if key = kData then { s with ans := key :: s.ans, tm := { s.tm with data := decide (t = tCrc) } } else { s with ans := key :: s.ans, tm := { s.tm with head := decide (t = tCrc) } } by unfold digL; have := HNM.out; simp [this, hc])
        clear hch hc
        have hxt : (t == [67, 82, 67, 51, 50, 67]) = decide (t = tCrc) := dig_eq
        by_cases hkd : key = kData
        · have HL := Lib.hid (HLX.out.trans (if_pos hkd))
          have hx : (key == [68, 97, 116, 97, 68, 105, 103, 101, 115, 116]) = true := beq_iff_eq.2 hkd
          clear hkd
          generalize decide (t = tCrc) = X at *
          go_wp2_with fail
          refine HCH.out.mono ?_
          rintro e w7 ⟨rfl, hb7⟩
          have h7 := (H6.out.alloc (.cells #[.string (txt tCrc), .string (txt tNone)] 9)).upd (Upd.of_below hb7) (by simp) (by simp)
          have H7 := Lib.hid h7
          have U7 := Lib.hid (Upd.of_below hb7)
          have c7 := h7.cell 7
          have f7 := h7.frz 7
          simp only [List.getElem?_cons_zero, List.getElem?_cons_succ] at c7
          have z0 := (cells_of (U7.out.get (((Upd.refl [] w6).alloc (.cells #[.string (txt tCrc), .string (txt tNone)] 9)).get HD6.out (by simp)) (by simp))).1 0
          simp only [List.getElem?_toArray, List.getElem?_cons_zero, List.getElem?_cons_succ] at z0
          clear hb7 h7
          go_wp2_with fail
          go_ret2
          exact ⟨by rw [HT.out, HS.out]; rfl, by rw [HL.out]; exact H7.out.put 7 (.bool X) rfl rfl, ((HU6.out.alloc _).trans (U7.out.mono (by simp))).setCell (.inl (by simp)) _⟩
        · have HL := Lib.hid (HLX.out.trans (if_neg hkd))
          have hx : (key == [68, 97, 116, 97, 68, 105, 103, 101, 115, 116]) = false := beq_eq_false_iff_ne.2 hkd
          clear hkd
          generalize decide (t = tCrc) = X at *
          go_wp2_with fail
          refine HCH.out.mono ?_
          rintro e w7 ⟨rfl, hb7⟩
          have h7 := (H6.out.alloc (.cells #[.string (txt tCrc), .string (txt tNone)] 9)).upd (Upd.of_below hb7) (by simp) (by simp)
          have H7 := Lib.hid h7
          have U7 := Lib.hid (Upd.of_below hb7)
          have c6 := h7.cell 6
          have f6 := h7.frz 6
          simp only [List.getElem?_cons_zero, List.getElem?_cons_succ] at c6
          have z0 := (cells_of (U7.out.get (((Upd.refl [] w6).alloc (.cells #[.string (txt tCrc), .string (txt tNone)] 9)).get HD6.out (by simp)) (by simp))).1 0
          simp only [List.getElem?_toArray, List.getElem?_cons_zero, List.getElem?_cons_succ] at z0
          clear hb7 h7
          go_wp2_with fail
          go_ret2
          exact ⟨by rw [HT.out, HS.out]; rfl, by rw [HL.out]; exact H7.out.put 6 (.bool X) rfl rfl, ((HU6.out.alloc _).trans (U7.out.mono (by simp))).setCell (.inl (by simp)) _⟩
  · rw [decide_eq_false h1]
    have hst : ((st : Int) != 1) = true := bne_iff_ne.2 (by omega)
    clear h1 hv ha hk
    go_enter Tryz.func37, Tryz.ntmps37
    go_wp2_with fail
    go_ret2
    exact ⟨rfl, H.out, (Upd.refl _ _).alloc _⟩
end
end Go.Proofs.YtlhdjgibkiffaaaGreatDoor
