/-
  PROVED HERE: Print of package keys is the plain function. Conditions: those that each theorem names.
-/
import Derived.Test.YtlhdjgibkiffaaaGreatDoorKeyM
import Derived.Test.YtlhdjgibkiffaaaGreatDoorKeyA
namespace Go.Proofs.YtlhdjgibkiffaaaGreatDoor
open Go.RowKit Go.Shelf
/-- A slice of bytes that lies in memory. -/
def IsTxtV (w : World) (v : Value) (t : Txt) : Prop := ∃ p c, v = .slice p t.length c ∧ IsTxt w p t ∧ t.length ≤ c ∧ (p = none → c = 0) ∧ c ≤ maxLen
theorem IsTxtV.below {w w' : World} {v : Value} {t : Txt} (h : IsTxtV w v t) (hb : Below w.heap.size w w') : IsTxtV w' v t := by
  obtain ⟨p, c, h1, h2, h3, h4, h6⟩ := h
  exact ⟨p, c, h1, h2.below hb, h3, h4, h6⟩
theorem IsTxtV.nil (w : World) : IsTxtV w (.slice none 0 0) [] := ⟨none, 0, rfl, fun i hi => by simp at hi, by simp, fun _ => rfl, by unfold maxLen; omega⟩
theorem txtV_of_row {W : World} {base : Nat} {v : Value} {t : Txt} (h : W.ownsRow base 5 1 v t.length (Lib.byteCells t)) : IsTxtV W v t := by
  obtain ⟨_, ⟨rfl, h0⟩ | ⟨g, cap, cur, rfl, _, hg, hn, hm, hs, hc⟩⟩ := h
  · obtain rfl := List.length_eq_zero_iff.1 h0
    exact IsTxtV.nil W
  · refine ⟨some ⟨g, 0, none⟩, cap, rfl, fun i hi => ⟨g, 0, rfl, lt_of_get hg, ?_⟩, hn, fun e => (by cases e), hm⟩
    rw [Nat.zero_add, cell_of_row W g _ cur _ _ hg]
    have e : (Lib.byteCells t)[i]? = some (.int .u8 (t[i].toNat : Int)) := by simp [Lib.byteCells, hi]
    rw [← hc, List.getElem?_take_of_lt (by omega), Array.getElem?_toList] at e
    exact e
/-- What Print hands back. -/
def printO (l : List Pr) : Option Txt := if mayP l then some (printP l) else none
theorem printO_yes {l : List Pr} (h : mayP l = true) : printO l = some (printP l) := by unfold printO; rw [if_pos h]
theorem printO_no {l : List Pr} (h : mayP l = false) : printO l = none := by unfold printO; rw [if_neg (by rw [h]; simp)]
theorem printP_take {l : List Pr} {k : Nat} {key val : Txt} (hk : k < l.length) (h1 : (l[k]).1 = key) (h2 : (l[k]).2 = val) : printP (l.take (k + 1)) = printP (l.take k) ++ (key ++ [61] ++ val ++ [0]) := by
  rw [List.take_succ_eq_append_getElem hk, printP_append, printP_cons, h1, h2]
  simp [printP]
theorem total_take_le (l : List Pr) (k : Nat) : total (l.take k) ≤ total l := by
  conv => rhs; rw [← List.take_append_drop k l]
  rw [total_append]; omega
theorem txt_append (a b : Txt) : txt (a ++ b) = txt a ++ txt b := by
  apply ByteArray.ext
  simp
/-- A text is written into a buffer. -/
theorem write_any {b : Nat} {t x : Txt} {s : ByteArray} {w : World} (hs : s = txt x) (h : Lib.IsBuffer 87 5 b b (Lib.byteCells t) w) (hl : t.length + x.length ≤ 140737488355328) :
    Calls Tryz.prog 39 #[.pointer (some ⟨b, 0, none⟩), .string s] w fun e w' => e = .returned (.tuple #[.int .i64 s.size, .nilIface]) ∧ Lib.IsBuffer 87 5 b b (Lib.byteCells (t ++ x)) w' ∧ Below b w w' := by
  subst hs
  refine (Any.Buffer_WriteString_k Tryz.laysM178 b b (Lib.byteCells t) (txt x) w h (Nat.le_of_lt h.lt) (Lib.byteCells_one _) (by rw [Lib.byteCells_length]; exact hl)).mono ?_
  rintro e w' ⟨rfl, h1, h2, _⟩
  refine ⟨rfl, ?_, h2⟩
  rw [Lib.byteCells_append]
  exact h1
/-- Between two rounds of Print: b the buffer's block. -/
structure PrAt (w : World) (b : Nat) (t : Txt) (W : World) : Prop where
  buf : Lib.IsBuffer 87 5 b b (Lib.byteCells t) W
  below : Below w.heap.size w W
  new : w.heap.size ≤ b
set_option maxRecDepth 100000 in
set_option maxHeartbeats 4000000 in
theorem print_any {w : World} {v : Value} {l : List Pr} (h : IsPrs w v l) (hl : l.length ≤ 140737488355328) : Calls Tryz.prog 28 #[v] w fun e w' => (∃ u, e = .returned (.tuple #[u, .int .i64 (errP (printO l))]) ∧ IsTxtV w' u ((printO l).getD [])) ∧ Below w.heap.size w w' := by
  obtain ⟨p, cap, rfl⟩ : ∃ p cap, v = .slice p l.length cap := by
    rcases h with ⟨rfl, rfl⟩ | ⟨g, o, cap, rfl, _⟩
    · exact ⟨_, _, rfl⟩
    · exact ⟨_, _, rfl⟩
  have HM := Lib.hid (may_any h hl)
  have H := Lib.hid h
  clear h hl
  cases hm : mayP l with
  | false =>
    rw [hm] at HM
    rw [printO_no hm]
    clear hm
    go_enter Tryz.func28, Tryz.ntmps28
    go_wp2_with (go_at_call 23; refine HM.out.mono ?_; rintro e w1 ⟨rfl, hb1⟩; have HB1 := Lib.hid hb1; clear hb1)
    go_ret2
    exact ⟨⟨_, rfl, IsTxtV.nil _⟩, HB1.out⟩
  | true =>
    rw [hm] at HM
    rw [printO_yes hm]
    have hmi := (mayP_iff l).1 hm
    have HMI := Lib.hid hmi
    clear hm hmi
    go_enter Tryz.func28, Tryz.ntmps28
    go_wp2_with (go_at_call 23; refine HM.out.mono ?_; rintro e w1 ⟨rfl, hb1⟩; have HB1 := Lib.hid hb1; clear hb1)
    go_loopw [12] (fun i wr => ∃ k : Nat, k ≤ l.length ∧ i = .int .i64 k ∧ PrAt w w1.heap.size (printP (l.take k)) wr) (fun i _ => l.length - (intOf i).toNat)
    case atStart => exact ⟨0, Nat.zero_le _, rfl, Lib.fresh_isBuffer _ _ w1, HB1.out.alloc HB1.out.size _, HB1.out.size⟩
    case round =>
      obtain ⟨k, hk, rfl, hP⟩ := hrel
      have HP := Lib.hid hP
      have hl16 := HMI.out.2.2.1
      clear hP
      by_cases hkl : k < l.length
      · obtain ⟨_, g, o, rfl, hg, hc1, hc2, hcc⟩ := H.out.at hkl
        have HCC := Lib.hid (hcc wr HP.out.below)
        have hok := HMI.out.1 l[k] (List.getElem_mem hkl)
        have htk := printP_take hkl rfl rfl
        have htl := total_take_le l k
        have htot := HMI.out.2.2.2
        have hpl := printP_length (l.take k)
        generalize hkey : (l[k]).1 = key at *
        generalize hval : (l[k]).2 = val at *
        obtain ⟨_, _, _, hkl2⟩ := okKey_no hok.1
        obtain ⟨_, hvl2⟩ := okVal_no hok.2
        have HTK := Lib.hid htk
        have HLEN := Lib.hid (show (printP (l.take k)).length ≤ 1024 by omega)
        clear hcc hok htk htl htot hpl hkey hval
        have hstr : txt key ++ ⟨#[61]⟩ ++ txt val ++ ⟨#[0]⟩ = txt (key ++ [61] ++ val ++ [0]) := by
          rw [txt_append, txt_append, txt_append]
        have HW := Lib.hid (write_any hstr (HP.out.buf.alloc (.cells [.string (txt key), .string (txt val)].toArray 68)) (by have := HLEN.out; simp; omega))
        clear hstr
        go_wp2_with (first
          | (refine wpList_load_cells rfl 68 (.tmp 14) rfl g (o + k * 2) 2 rfl [.string (txt key), .string (txt val)] _ HCC.out Tryz.underlying68 rfl infoPair rfl ?_)
          | (go_at_call 39; refine HW.out.mono ?_; rintro e w4 ⟨rfl, h4, hb4⟩; have H4 := Lib.hid h4; have HB4 := Lib.hid hb4; clear h4 hb4))
        have hb4 : Below w.heap.size w w4 := (HP.out.below.alloc HP.out.below.size _).trans (HB4.out.mono HP.out.new)
        go_roundw
        case rel => exact ⟨k + 1, hkl, by simp, by rw [HTK.out]; exact H4.out, hb4, HP.out.new⟩
        case measure => simp [intOf]; omega
      · obtain rfl : k = l.length := by omega
        have HBY := Lib.hid (Any.Buffer_Bytes Tryz.laysM183 w1.heap.size w1.heap.size (Lib.byteCells (printP (l.take l.length))) wr HP.out.buf)
        rw [List.take_length] at HBY
        go_wp2_with (go_at_call 40; refine HBY.out.mono ?_; rintro e w5 ⟨u, rfl, h5, n5, rfl⟩; have H5 := Lib.hid h5; clear h5)
        go_ret2
        refine ⟨⟨u, rfl, ?_⟩, below_drewN HP.out.below n5⟩
        have h5 := H5.out
        rw [Lib.byteCells_length] at h5
        exact txtV_of_row h5
end Go.Proofs.YtlhdjgibkiffaaaGreatDoor
