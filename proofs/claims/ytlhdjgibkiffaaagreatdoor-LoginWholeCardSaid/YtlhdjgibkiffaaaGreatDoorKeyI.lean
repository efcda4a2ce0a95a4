/-
  PROVED HERE: the iterators of strings.SplitSeq and bytes.SplitAfterSeq at a separator of one byte. Conditions: those that each theorem names.
-/
import Derived.Test.YtlhdjgibkiffaaaGreatDoorKeyL
import Derived.Test.YtlhdjgibkiffaaaGreatDoorRangeB
import Derived.Shelf.Abstract
import Derived.OwnWalkIn
import Derived.TacticsInMore
import Derived.LoopNIn
import Derived.LoopIn
namespace Go.Proofs.YtlhdjgibkiffaaaGreatDoor
open Go.RowKit Go.Shelf

attribute [local go_sem] Oper.semAt_some

/-- The boxes that the iterator has captured. -/
structure SBoxes (m : Nat) (c : UInt8) (rest : Txt) (W : World) : Prop where
  s : W.heap[m]? = some (.cells #[.string (txt rest)] 9 (0, 0))
  sep : W.heap[m + 1]? = some (.cells #[.string (txt [c])] 9 (0, 0))
  save : W.heap[m + 2]? = some (.cells #[.int .i64 0] 3 (0, 0))
def KBox (m : Nat) (k : Nat) : Prop := k = m ∨ k = m + 1 ∨ k = m + 2
theorem SBoxes.keep {m : Nat} {c : UInt8} {rest : Txt} {W W' : World} (h : SBoxes m c rest W) (k : Keep (KBox m) W W') : SBoxes m c rest W' :=
  ⟨(k m (.inl rfl) (lt_of_get h.s)).trans h.s, (k (m + 1) (.inr (.inl rfl)) (lt_of_get h.sep)).trans h.sep, (k (m + 2) (.inr (.inr rfl)) (lt_of_get h.save)).trans h.save⟩
theorem SBoxes.cells {m : Nat} {c : UInt8} {rest : Txt} {W : World} (h : SBoxes m c rest W) : W.cell? ⟨m, 0, none⟩ = some (.string (txt rest)) ∧ W.cell? ⟨m + 1, 0, none⟩ = some (.string (txt [c])) ∧ W.cell? ⟨m + 2, 0, none⟩ = some (.int .i64 0) ∧ W.frozen? ⟨m, 0, none⟩ = false :=
  ⟨(cells_of h.s).1 0, (cells_of h.sep).1 0, (cells_of h.save).1 0, (cells_of h.s).2 0⟩
theorem SBoxes.put {m : Nat} {c : UInt8} {rest : Txt} {W : World} (h : SBoxes m c rest W) (r : Txt) : SBoxes m c r (W.setCell ⟨m, 0, none⟩ (.string (txt r))) := by
  have u : Upd [m] W (W.setCell ⟨m, 0, none⟩ (.string (txt r))) := (Upd.refl [m] _).setCell (.inl (by simp)) _
  exact ⟨heap_setCell_same _ _ _ _ _ _ h.s, u.get h.sep (by simp), u.get h.save (by simp)⟩
/-- How much is left. -/
def leftS (m : Nat) (w : World) : Nat := match w.cell? ⟨m, 0, none⟩ with | some (.string s) => s.size | _ => 0
theorem SBoxes.left {m : Nat} {c : UInt8} {rest : Txt} {W : World} (h : SBoxes m c rest W) : leftS m W = rest.length := by
  unfold leftS; rw [h.cells.1]; rfl
set_option maxRecDepth 100000 in
set_option maxHeartbeats 4000000 in
theorem sseq_stops {w : World} (m : Nat) (c : UInt8) (d : Txt) (h : SBoxes m c d w) (hd : d.length ≤ 9223372036854775807) :
    SeqBox 7 Tryz.prog 93 #[.pointer (some ⟨m + 1, 0, none⟩), .pointer (some ⟨m, 0, none⟩), .pointer (some ⟨m + 2, 0, none⟩)] (fun t : Txt => #[.string (txt t)]) m (KBox m) (fun xs => xs = splitP false c [] d) (fun pre => pre <+: splitP false c [] d) (d.length + 1) w := by
  intro l J Jx W hW hJ hJx hY h0
  have hb : SBoxes m c d W := h.keep (Keep.of_upd hW (by simp))
  obtain ⟨c0, c1, c2, f0⟩ := hb.cells
  have HB := Lib.hid hb
  have HJ := Lib.hid hJ
  have HJX := Lib.hid hJx
  have HY := Lib.hid hY
  have HD := Lib.hid hd
  clear hb h hW hJ hJx hY hd
  refine callsIn_of_wp Tryz.func93 rfl trivial ?_ rfl
  simp only [Tryz.ntmps93, List.size_toArray, List.length_cons, List.length_nil, Nat.reduceAdd, Nat.reduceSub, Array.replicate_succ, Array.replicate_zero, List.push_toArray, List.append_toArray, List.nil_append, List.cons_append]
  gi_wp2
  gi_loopw [7] (fun _ wr => ∃ pre rest, Rest false c d pre rest ∧ pre.length + rest.length ≤ d.length ∧ SBoxes m c rest wr ∧ J pre wr) (fun _ wr => leftS m wr)
  case atStart => exact ⟨[], d, Rest.start _ _ _, by simp, HB.out, h0⟩
  case round =>
    obtain ⟨pre, rest, hR, hlen, hbx, hj⟩ := hrel
    obtain ⟨c0, c1, c2, f0⟩ := hbx.cells
    have HR := Lib.hid hR
    have HL := Lib.hid hlen
    have HBX := Lib.hid hbx
    clear hR hlen hbx
    rcases indexByte_split rest c with ⟨h1, h2⟩ | ⟨x, r, rfl, h1, h2⟩
    · have HI := Lib.hid (strIndex_any rest c wr)
      rw [h2] at HI
      have hlast := HR.out.last h1
      obtain ⟨fn, tmps, assign, body, hy, hRn⟩ := HY.out pre rest wr hj (by have := HL.out; omega)
      have HRN := Lib.hid hRn
      have HLAST := Lib.hid hlast
      clear h1 h2 hRn hlast
      gi_wp2_with (refine ⟨trivial, ?_⟩; gi_at_call 53; refine (callsIn_wide.2 HI.out).mono ?_; rintro e w2 ⟨rfl, rfl⟩)
      refine HRN.out.mono ?_
      rintro e W3 (⟨rfl, hJ3, _⟩ | ⟨rfl, hJx3⟩)
      · gi_wp2
        go_end0
        exact ⟨⟨_, rfl⟩, .inl ⟨_, HLAST.out, hJ3⟩⟩
      · gi_wp2
        go_end0
        exact ⟨⟨_, rfl⟩, .inr ⟨_, ⟨[], by rw [List.append_nil]; exact HLAST.out⟩, hJx3⟩⟩
    · have HI := Lib.hid (strIndex_any (x ++ c :: r) c wr)
      rw [h2] at HI
      obtain ⟨hR2, hpre⟩ := HR.out.step h1
      simp only [Bool.false_eq_true, if_false] at hR2 hpre
      obtain ⟨fn, tmps, assign, body, hy, hRn⟩ := HY.out pre x wr hj (by have := HL.out; omega)
      have HRN := Lib.hid hRn
      have HR2 := Lib.hid hR2
      have HPRE := Lib.hid hpre
      have hle : x.length + 1 ≤ (x ++ c :: r).length := by simp
      have hle2 : (x ++ c :: r).length ≤ 9223372036854775807 := by have := HL.out; have := HD.out; omega
      have htk : (txt (x ++ c :: r)).extract 0 x.length = txt x := by rw [← txt_take]; simp
      clear h1 h2 hRn hR2 hpre
      gi_wp2_with (refine ⟨trivial, ?_⟩; gi_at_call 53; refine (callsIn_wide.2 HI.out).mono ?_; rintro e w2 ⟨rfl, rfl⟩)
      refine HRN.out.mono ?_
      rintro e W3 (⟨rfl, hJ3, hk3, _⟩ | ⟨rfl, hJx3⟩)
      · have hb3 := HBX.out.keep hk3
        obtain ⟨d0, d1, d2, g0⟩ := hb3.cells
        have hdr : (txt (x ++ c :: r)).extract (x.length + 1) (x.length + (r.length + 1)) = txt r := by
          have := txt_drop (x ++ c :: r) (x.length + 1)
          simp only [List.length_append, List.length_cons] at this
          rw [← this]; simp
        have HB3 := Lib.hid hb3
        clear hk3 hb3
        gi_wp2
        go_roundw
        case rel => exact ⟨pre ++ [x], r, HR2.out, by have := HL.out; simp at this ⊢; omega, HB3.out.put r, HJ.out _ _ _ hJ3 ((Upd.refl [m] _).setCell (.inl (by simp)) _)⟩
        case measure => rw [(HB3.out.put r).left, HBX.out.left]; simp; omega
      · gi_wp2
        refine bodyPost_ret (results_none rfl _ _ _) rfl ?_
        exact ⟨⟨_, rfl⟩, .inr ⟨_, HPRE.out, hJx3⟩⟩
/-- The world in which the iterator of a text has been made. -/
abbrev swld (w : World) (d : Txt) (c : UInt8) : World := ((w.alloc (.cells #[.string (txt d)] 9)).alloc (.cells #[.string (txt [c])] 9)).alloc (.cells #[.int .i64 0] 3)
set_option maxRecDepth 100000 in
theorem ssplit_any (w : World) (d : Txt) (c : UInt8) : Calls Tryz.prog 71 #[.string (txt d), .string (txt [c])] w fun e w' => e = .returned (.func (.func 93) #[] #[.pointer (some ⟨w.heap.size + 1, 0, none⟩), .pointer (some ⟨w.heap.size, 0, none⟩), .pointer (some ⟨w.heap.size + 2, 0, none⟩)]) ∧ w' = swld w d c := by
  go_enter Tryz.func71, Tryz.ntmps71
  go_wp2
  go_ret
  exact ⟨rfl, rfl⟩
theorem swld_boxes (w : World) (d : Txt) (c : UInt8) : SBoxes w.heap.size c d (swld w d c) := by
  have e0 := heap_alloc_new w (.cells #[.string (txt d)] 9)
  have e1 := heap_alloc_new (w.alloc (.cells #[.string (txt d)] 9)) (.cells #[.string (txt [c])] 9)
  have e2 := heap_alloc_new ((w.alloc (.cells #[.string (txt d)] 9)).alloc (.cells #[.string (txt [c])] 9)) (.cells #[.int .i64 0] 3)
  rw [World.size_alloc] at e1
  rw [World.size_alloc, World.size_alloc] at e2
  exact ⟨(((Upd.refl [] _).alloc _).alloc _).get e0 (by simp), ((Upd.refl [] _).alloc _).get e1 (by simp), e2⟩
end Go.Proofs.YtlhdjgibkiffaaaGreatDoor
