/-
  PROVED HERE: PutSuper of package codec. Conditions: the table may be used.
-/
import Derived.Test.YtpnpjffhkaejgaaDoorPutKit
namespace Go.Proofs.YtpnpjffhkaejgaaDoor
open Go.RowKit

def i64s (l : List Int) : List Value := l.map (Value.int .i64)
def okSuper (l : List Int) : Bool := l.all (inB · 1099511627776)
def superBytes (l : List Int) : List Nat := [80, 83, 85, 80] ++ l.flatMap fun n => be n.toNat 8
def putSuper (l : List Int) : Option (List Nat) := if okSuper l then some (frame (superBytes l)) else none
theorem putSuper_no {l : List Int} {k : Nat} (hk : k < l.length) (h : inB l[k] 1099511627776 = false) : putSuper l = none := by
  unfold putSuper okSuper
  rw [if_neg]
  intro hall
  have := List.all_eq_true.1 hall l[k] (List.getElem_mem hk)
  rw [h] at this; cases this
theorem okSuper_of {l : List Int} (h : ∀ k (hk : k < l.length), inB l[k] 1099511627776 = true) : okSuper l = true := by
  unfold okSuper
  rw [List.all_eq_true]
  intro x hx
  obtain ⟨k, hk, rfl⟩ := List.mem_iff_getElem.1 hx
  exact h k hk
theorem superBytes_len (l : List Int) : (superBytes l).length = 4 + 8 * l.length := by
  unfold superBytes
  rw [List.length_append, List.length_flatMap]
  simp only [be_len]
  induction l with
  | nil => rfl
  | cons a l ih => simp at ih ⊢; omega
theorem superBytes_take (l : List Int) (k : Nat) (hk : k < l.length) : superBytes (l.take (k + 1)) = superBytes (l.take k) ++ be l[k].toNat 8 := by
  unfold superBytes
  rw [List.take_succ_eq_append_getElem hk, List.flatMap_append, List.append_assoc]
  simp
theorem idx7 (T : TypeId) (hT : T = 46) (l : List Int) (h7 : l.length = 7) (k : Nat) (hk : k < l.length) (w : World) : (Instr.index T (.agg (i64s l).toArray) (.int .i64 (k : Int))).run Tryd.prog w = .ok (.int .i64 l[k]) w := by
  subst hT
  exact run_index_agg w Tryd.underlying46 Tryd.underlying3 rfl (by kernel_rfl) (by omega) (by simp [i64s, List.getElem?_eq_getElem hk]) .i64
set_option maxRecDepth 100000 in
set_option maxHeartbeats 1600000 in
theorem putSuper_any {t : Nat} {w : World} (ht : TabOk w t) (x0 x1 x2 x3 x4 x5 x6 : Int) :
    Calls Tryd.prog 19 #[pt t, .agg #[.int .i64 x0, .int .i64 x1, .int .i64 x2, .int .i64 x3, .int .i64 x4, .int .i64 x5, .int .i64 x6]] w fun e w' => PutOut w.heap.size (putSuper [x0, x1, x2, x3, x4, x5, x6]) e w' ∧ TabOk w' t ∧ Upd [t] w w' := by
  have hlt := Lib.hid ht.lt
  have HT := Lib.hid ht
  have HA := Lib.hid (show ∀ o, Upd [] w (w.alloc o) from fun o => (Upd.refl [] w).alloc o)
  have hsb : superBytes [] = [80, 83, 85, 80] := rfl
  have HSB := Lib.hid hsb
  clear ht hsb
  go_enter Tryd.func19, Tryd.ntmps19
  go_wp2_with fail
  have hW0 := isW_made (w.alloc (.cells #[.int .i64 x0, .int .i64 x1, .int .i64 x2, .int .i64 x3, .int .i64 x4, .int .i64 x5, .int .i64 x6] 23))
  have hC0 := ((Upd.refl [] _).alloc (.cells Tryd.zeroCells85 85)).get (heap_alloc_new w (.cells #[.int .i64 x0, .int .i64 x1, .int .i64 x2, .int .i64 x3, .int .i64 x4, .int .i64 x5, .int .i64 x6] 23)) (by simp)
  rw [show (w.alloc (.cells #[.int .i64 x0, .int .i64 x1, .int .i64 x2, .int .i64 x3, .int .i64 x4, .int .i64 x5, .int .i64 x6] 23)).heap.size = w.heap.size + 1 by simp] at hW0
  refine (text_any (s := ⟨#[80, 83, 85, 80]⟩) hW0 (by decide) (by decide)).mono ?_
  rintro e w1 ⟨rfl, h1, u1⟩
  have hC1 := u1.get hC0 (by simp)
  obtain ⟨k1, _⟩ := cells_of hC1
  have k0 := k1 0; have k2 := k1 1; have k3 := k1 2; have k4 := k1 3; have k5 := k1 4; have k6 := k1 5; have k7 := k1 6
  simp only [List.getElem?_toArray, List.getElem?_cons_zero, List.getElem?_cons_succ] at k0 k2 k3 k4 k5 k6 k7
  have H1 := Lib.hid h1
  have U1 := Lib.hid (((Upd.refl [] w).alloc _ |>.alloc _).step u1 (T := [w.heap.size + 1]) (fun x hx => .inr (by simp at hx; omega)))
  clear hW0 hC0 hC1 h1 u1 k1
  go_wp2
  go_loopw [25] (fun i wr => ∃ k : Nat, k ≤ 7 ∧ i = .int .i64 k ∧ (∀ j (hj : j < k) (h7 : j < [x0, x1, x2, x3, x4, x5, x6].length), inB [x0, x1, x2, x3, x4, x5, x6][j] 1099511627776 = true) ∧ IsW wr (w.heap.size + 1) (superBytes ([x0, x1, x2, x3, x4, x5, x6].take k)) ∧ Upd [] w wr) (fun i _ => 7 - (intOf i).toNat)
  case atStart => exact ⟨0, by decide, rfl, fun j hj => absurd hj (by omega), H1.out, U1.out⟩
  case round =>
    obtain ⟨k, hk, rfl, hin, hW, hU⟩ := hrel
    have HIN := Lib.hid hin
    have HW := Lib.hid hW
    have HU := Lib.hid hU
    clear hin hW hU
    by_cases hlt7 : k < 7
    · have hk7 : k < [x0, x1, x2, x3, x4, x5, x6].length := hlt7
      have hidx : ∀ w, (Instr.index 46 (.agg #[.int .i64 x0, .int .i64 x1, .int .i64 x2, .int .i64 x3, .int .i64 x4, .int .i64 x5, .int .i64 x6]) (.int .i64 (k : Int))).run Tryd.prog w = .ok (.int .i64 [x0, x1, x2, x3, x4, x5, x6][k]) w := idx7 _ rfl [x0, x1, x2, x3, x4, x5, x6] rfl k hk7
      have HS := Lib.hid (superBytes_take [x0, x1, x2, x3, x4, x5, x6] k hk7)
      have HL := Lib.hid (superBytes_len ([x0, x1, x2, x3, x4, x5, x6].take k))
      have HN := Lib.hid (fun h => putSuper_no (l := [x0, x1, x2, x3, x4, x5, x6]) hk7 h)
      have hxe : [x0, x1, x2, x3, x4, x5, x6][k] = [x0, x1, x2, x3, x4, x5, x6][k] := rfl
      generalize hx : [x0, x1, x2, x3, x4, x5, x6][k] = x at hidx HS HN
      have HX := Lib.hid hx
      clear hx hxe
      cases hI : inB x 1099511627776
      · go_wp2_with (go_at_call 33; refine (in_b _ _ _).mono ?_; rintro e w' ⟨rfl, rfl⟩)
        go_ret2
        rw [HN.out hI]
        exact ⟨PutOut.no _ _, HT.out.upd HU.out (by simp), HU.out.mono (by simp)⟩
      · obtain ⟨m, rfl⟩ := Int.eq_ofNat_of_zero_le (inB_true.1 hI).1
        have hm := (inB_true.1 hI).2
        go_wp2_with (first | (go_at_call 33; refine (in_b _ _ _).mono ?_; rintro e w' ⟨rfl, rfl⟩) | (go_at_call 34; refine (put_any (k := 8) HW.out (by decide) (by omega) (by rw [HL.out, List.length_take]; simp; omega)).mono ?_; rintro e w2 ⟨rfl, h2, u2⟩; have H2 := Lib.hid h2; have U2 := Lib.hid u2; clear h2 u2))
        go_roundw
        case rel =>
          refine ⟨k + 1, by omega, by go_num, fun j hj h7 => ?_, by rw [HS.out]; exact H2.out, HU.out.step U2.out (fun x hx => .inr (by simp at hx; omega))⟩
          by_cases e : j = k
          · subst e; rw [HX.out]; exact hI
          · exact HIN.out j (by omega) h7
        case measure => simp [intOf]; omega
    · obtain rfl : k = 7 := by omega
      have HO := Lib.hid (okSuper_of (l := [x0, x1, x2, x3, x4, x5, x6]) fun k hk => HIN.out k (by simpa using hk) hk)
      have hne : w.heap.size + 1 ≠ t := by have := hlt.out; omega
      have hl : (superBytes ([x0, x1, x2, x3, x4, x5, x6].take 7)).length ≤ 252 := by rw [superBytes_len, List.length_take]; simp
      have HNE := Lib.hid hne
      have HLE := Lib.hid hl
      clear hne hl
      go_wp2_with (go_at_call 35; refine (framed_any HW.out HLE.out (HT.out.upd HU.out (by simp)) HNE.out).mono ?_; rintro e w2 ⟨rfl, h2, h3, u2⟩; have H2 := Lib.hid h2; have H3 := Lib.hid h3; have U2 := Lib.hid u2; clear h2 h3 u2)
      go_ret2
      have e : putSuper [x0, x1, x2, x3, x4, x5, x6] = some (frame (superBytes ([x0, x1, x2, x3, x4, x5, x6].take 7))) := by unfold putSuper; rw [if_pos HO.out]; rfl
      rw [e]
      exact ⟨PutOut.yes (H2.out.ret (by omega) (frame_len HLE.out) (by decide)), .inr H3.out, (HU.out.mono (by simp)).step U2.out (fun x hx => by
        simp at hx
        rcases hx with h | h
        · exact .inr (by omega)
        · exact .inl (by simp [h]))⟩
end Go.Proofs.YtpnpjffhkaejgaaDoor
