/-
  PROVED HERE: the iterator of bytes.SplitAfterSeq at a separator of one byte. Conditions: those that each theorem names.
-/
import Derived.Test.YtlhdjgibkiffaaaGreatDoorKeyI
namespace Go.Proofs.YtlhdjgibkiffaaaGreatDoor
open Go.RowKit Go.Shelf

attribute [local go_sem] Oper.semAt_some

/-- A piece of a text that lies at dp. -/
def PieceOf (dp : Option Addr) (d : Txt) (p : Option Addr) (t : Txt) : Prop := ∃ off, off + t.length ≤ d.length ∧ t = (d.drop off).take t.length ∧ (t ≠ [] → ∃ g o, dp = some ⟨g, o, none⟩ ∧ p = some ⟨g, o + off, none⟩)
theorem PieceOf.txt {dp p : Option Addr} {d t : Txt} {W : World} (h : PieceOf dp d p t) (hd : IsTxt W dp d) : IsTxt W p t := fun i hi => by
  obtain ⟨off, h1, h2, h3⟩ := h
  obtain ⟨g, o, e1, e2⟩ := h3 (List.length_pos_iff.1 (by omega))
  obtain ⟨g', o', e3, h4, h5⟩ := hd (off + i) (by omega)
  rw [e1] at e3; cases e3
  refine ⟨g, o + off, e2, h4, ?_⟩
  rw [Nat.add_assoc, h5]
  have : t[i] = d[off + i] := by
    have e : t[i]? = some d[off + i] := by
      have e0 : t[i]? = ((d.drop off).take t.length)[i]? := congrArg (·[i]?) h2
      rw [e0, List.getElem?_take_of_lt hi, List.getElem?_drop, List.getElem?_eq_getElem (by omega)]
    rw [List.getElem?_eq_getElem hi] at e
    exact Option.some.inj e
  rw [this]
theorem PieceOf.whole (dp : Option Addr) (d : Txt) (W : World) (h : IsTxt W dp d) : PieceOf dp d dp d := ⟨0, by omega, by simp, fun hn => by
  obtain ⟨g, o, e, _⟩ := h 0 (List.length_pos_iff.2 hn)
  exact ⟨g, o, e, by rw [e]; rfl⟩⟩
theorem PieceOf.sub {dp p q : Option Addr} {d t a b c : Txt} (h : PieceOf dp d p t) (ht : t = a ++ (b ++ c)) (hq : b ≠ [] → ∀ g o, p = some ⟨g, o, none⟩ → q = some ⟨g, o + a.length, none⟩) : PieceOf dp d q b := by
  obtain ⟨off, h1, h2, h3⟩ := h
  refine ⟨off + a.length, by rw [ht] at h1; simp at h1; omega, ?_, fun hb => ?_⟩
  · have e : b = ((t.drop a.length).take b.length) := by rw [ht]; simp
    rw [h2] at e
    rw [List.drop_take, List.drop_drop, List.take_take] at e
    rw [Nat.min_eq_left (by rw [ht]; simp)] at e
    exact e
  · obtain ⟨g, o, e1, e2⟩ := h3 (by rw [ht]; intro e; simp at e; exact hb e.2.1)
    exact ⟨g, o, e1, by rw [hq hb _ _ e2, Nat.add_assoc]⟩
theorem len_snoc {α : Type} (l : List α) (a : α) : (l ++ [a]).length = l.length + 1 := by simp
/-- The pieces that are handed over. -/
abbrev BPiece (dp : Option Addr) (d : Txt) : Type := { x : Option Addr × Txt // PieceOf dp d x.1 x.2 }
/-- The boxes that the iterator has captured, and what it reads. -/
structure BBoxes (m sb sc : Nat) (dp : Option Addr) (d rest : Txt) (W : World) : Prop where
  s : ∃ p c, W.heap[m]? = some (.cells #[.slice p rest.length c] 28 (0, 0)) ∧ PieceOf dp d p rest ∧ rest.length ≤ c ∧ (p = none → c = 0)
  sep : W.heap[m + 1]? = some (.cells #[.slice (some ⟨sb, 0, none⟩) 1 sc] 28 (0, 0))
  save : W.heap[m + 2]? = some (.cells #[.int .i64 1] 3 (0, 0))
  zero : W.cell? ⟨sb, 0, none⟩ = some (.int .u8 0)
  dat : IsTxt W dp d
  ne1 : sb < m
  ne2 : d ≠ [] → ∀ a, dp = some a → a.block < m
def KDat (m sb : Nat) (dp : Option Addr) (d : Txt) (k : Nat) : Prop := KBox m k ∨ k = sb ∨ (d ≠ [] ∧ ∃ a, dp = some a ∧ k = a.block)
theorem keep_cell {K : Nat → Prop} {W W' : World} (k : Keep K W W') {a : Addr} {v : Value} (ha : K a.block) (h : W.cell? a = some v) : W'.cell? a = some v :=
  (World.cell?_of_block (k _ ha (World.block_lt_of_cell? _ _ h))).trans h
theorem BBoxes.keep {m sb sc : Nat} {dp : Option Addr} {d rest : Txt} {W W' : World} (h : BBoxes m sb sc dp d rest W) (k : Keep (KDat m sb dp d) W W') (hs : W.heap.size ≤ W'.heap.size) : BBoxes m sb sc dp d rest W' := by
  obtain ⟨⟨p, c, h1, h2, h3, h4⟩, h5, h6, h7, h8, h9, h10⟩ := h
  refine ⟨⟨p, c, (k m (.inl (.inl rfl)) (lt_of_get h1)).trans h1, h2, h3, h4⟩, (k _ (.inl (.inr (.inl rfl))) (lt_of_get h5)).trans h5, (k _ (.inl (.inr (.inr rfl))) (lt_of_get h6)).trans h6, keep_cell k (.inr (.inl rfl)) h7, fun i hi => ?_, h9, h10⟩
  obtain ⟨g, o, e1, e2, e3⟩ := h8 i hi
  exact ⟨g, o, e1, by omega, keep_cell k (.inr (.inr ⟨List.length_pos_iff.1 (by omega), _, e1, rfl⟩)) e3⟩
/-- How much is left. -/
def leftB (m : Nat) (w : World) : Nat := match w.cell? ⟨m, 0, none⟩ with | some (.slice _ n _) => n | _ => 0
theorem BBoxes.left {m sb sc : Nat} {dp : Option Addr} {d rest : Txt} {W : World} (h : BBoxes m sb sc dp d rest W) : leftB m W = rest.length := by
  obtain ⟨p, c, h1, _⟩ := h.s
  unfold leftB; rw [(cells_of h1).1 0]; rfl
theorem BBoxes.put {m sb sc : Nat} {dp : Option Addr} {d rest r : Txt} {W : World} (h : BBoxes m sb sc dp d rest W) {p : Option Addr} {c : Nat} (hp : PieceOf dp d p r) (hc : r.length ≤ c) (hn : p = none → c = 0) : BBoxes m sb sc dp d r (W.setCell ⟨m, 0, none⟩ (.slice p r.length c)) := by
  have u : Upd [m] W (W.setCell ⟨m, 0, none⟩ (.slice p r.length c)) := (Upd.refl [m] _).setCell (.inl (by simp)) _
  obtain ⟨⟨p0, c0, h1, h2, h3, h4⟩, h5, h6, h7, h8, h9, h10⟩ := h
  refine ⟨⟨p, c, heap_setCell_same _ _ _ _ _ _ h1, hp, hc, hn⟩, u.get h5 (by simp), u.get h6 (by simp), ?_, fun i hi => ?_, h9, h10⟩
  · exact (World.cell?_of_block (a := ⟨sb, 0, none⟩) (u.block _ (World.block_lt_of_cell? _ _ h7) (by simp; omega))).trans h7
  · obtain ⟨g, o, e1, e2, e3⟩ := h8 i hi
    have := h10 (List.length_pos_iff.1 (by omega)) _ e1
    exact ⟨g, o, e1, Nat.lt_of_lt_of_le e2 u.size, (World.cell?_of_block (a := ⟨g, o + i, none⟩) (u.block _ e2 (by simp at this ⊢; omega))).trans e3⟩
set_option maxRecDepth 100000 in
set_option maxHeartbeats 4000000 in
theorem bseq_stops {w : World} (m sb sc : Nat) (dp : Option Addr) (d : Txt) (h : BBoxes m sb sc dp d d w) (hd : d.length ≤ 9223372036854775807) :
    SeqBox 7 Tryz.prog 41 #[.pointer (some ⟨m + 1, 0, none⟩), .pointer (some ⟨m, 0, none⟩), .pointer (some ⟨m + 2, 0, none⟩)] (fun x : BPiece dp d => #[.slice x.1.1 x.1.2.length x.1.2.length]) m (KDat m sb dp d) (fun xs => xs.map (·.1.2) = splitP true 0 [] d) (fun pre => pre.map (·.1.2) <+: splitP true 0 [] d) (d.length + 1) w := by
  intro l J Jx W hW hJ hJx hY h0
  have hb : BBoxes m sb sc dp d d W := by
    refine h.keep (Keep.of_upd hW (by simp)) hW.size
  have c1 := (cells_of hb.sep).1 0
  have c2 := (cells_of hb.save).1 0
  simp only [List.getElem?_toArray, List.getElem?_cons_zero] at c1 c2
  have HB := Lib.hid hb
  have HJ := Lib.hid hJ
  have HJX := Lib.hid hJx
  have HY := Lib.hid hY
  have HD := Lib.hid hd
  clear hb h hW hJ hJx hY hd
  refine callsIn_of_wp Tryz.func41 rfl trivial ?_ rfl
  simp only [Tryz.ntmps41, List.size_toArray, List.length_cons, List.length_nil, Nat.reduceAdd, Nat.reduceSub, Array.replicate_succ, Array.replicate_zero, List.push_toArray, List.append_toArray, List.nil_append, List.cons_append]
  gi_wp2
  gi_loopw [7] (fun _ wr => ∃ (pre : List (BPiece dp d)) (rest : Txt), Rest true 0 d (pre.map (·.1.2)) rest ∧ pre.length + rest.length ≤ d.length ∧ BBoxes m sb sc dp d rest wr ∧ J pre wr) (fun _ wr => leftB m wr)
  case atStart => exact ⟨[], d, Rest.start _ _ _, by simp, HB.out, h0⟩
  case round =>
    obtain ⟨pre, rest, hR, hlen, hbx, hj⟩ := hrel
    obtain ⟨p, c, hs, hpc, hle, hnc⟩ := hbx.s
    have c0 := (cells_of hs).1 0
    have f0 := (cells_of hs).2 0
    have c1 := (cells_of hbx.sep).1 0
    have c2 := (cells_of hbx.save).1 0
    simp only [List.getElem?_toArray, List.getElem?_cons_zero] at c0 c1 c2
    have HIX := Lib.hid (bytesIndex_any rest p rest.length c sb 0 sc wr rfl (hpc.txt hbx.dat) hbx.zero hnc)
    have HR := Lib.hid hR
    have HL := Lib.hid hlen
    have HBX := Lib.hid hbx
    have HPC := Lib.hid hpc
    have HNC := Lib.hid hnc
    have HS := Lib.hid hs
    clear hR hlen hbx hs hpc hnc
    rcases indexByte_split rest 0 with ⟨h1, h2⟩ | ⟨x, r, rfl, h1, h2⟩
    · rw [h2] at HIX
      have hlast := HR.out.last h1
      clear h1 h2
      cases rest with
      | nil =>
        have hp2 : PieceOf dp d p [] := HPC.out
        obtain ⟨fn, tmps, assign, body, hy, hRn⟩ := HY.out pre ⟨(p, []), hp2⟩ wr hj (by have := HL.out; omega)
        have HRN := Lib.hid hRn
        have HLAST := Lib.hid hlast
        clear hRn hlast
        simp only [List.length_nil] at hy
        gi_wp2_with (refine ⟨trivial, ?_⟩; gi_at_call 43; refine (callsIn_wide.2 HIX.out).mono ?_; rintro e w2 ⟨rfl, rfl⟩)
        refine HRN.out.mono ?_
        rintro e W3 (⟨rfl, hJ3, _⟩ | ⟨rfl, hJx3⟩)
        · gi_wp2
          go_end0
          exact ⟨⟨_, rfl⟩, .inl ⟨_, by rw [List.map_append]; exact HLAST.out, hJ3⟩⟩
        · gi_wp2
          go_end0
          exact ⟨⟨_, rfl⟩, .inr ⟨_, ⟨[], by rw [List.append_nil, List.map_append]; exact HLAST.out⟩, hJx3⟩⟩
      | cons b s =>
        obtain ⟨g, o, rfl⟩ : ∃ g o, p = some ⟨g, o, none⟩ := by
          obtain ⟨off, _, _, h3⟩ := HPC.out
          obtain ⟨g, o, _, e⟩ := h3 (by simp)
          exact ⟨g, _, e⟩
        obtain ⟨fn, tmps, assign, body, hy, hRn⟩ := HY.out pre ⟨(some ⟨g, o, none⟩, b :: s), HPC.out⟩ wr hj (by have := HL.out; omega)
        have HRN := Lib.hid hRn
        have HLAST := Lib.hid hlast
        clear hRn hlast
        generalize hq : (b :: s).length = q at *
        have hq1 : ¬ q = 0 := by rw [← hq]; simp
        have hq2 : q ≤ 9223372036854775807 := by have := HL.out; have := HD.out; omega
        have HQ := Lib.hid hq
        clear hq
        gi_wp2_with (refine ⟨trivial, ?_⟩; gi_at_call 43; refine (callsIn_wide.2 HIX.out).mono ?_; rintro e w2 ⟨rfl, rfl⟩)
        refine HRN.out.mono ?_
        rintro e W3 (⟨rfl, hJ3, _⟩ | ⟨rfl, hJx3⟩)
        · gi_wp2
          go_end0
          exact ⟨⟨_, rfl⟩, .inl ⟨_, by rw [List.map_append]; exact HLAST.out, hJ3⟩⟩
        · gi_wp2
          go_end0
          exact ⟨⟨_, rfl⟩, .inr ⟨_, ⟨[], by rw [List.append_nil, List.map_append]; exact HLAST.out⟩, hJx3⟩⟩
    · have hq1 : (x ++ 0 :: r).length = x.length + (r.length + 1) := by simp
      obtain ⟨g, o, rfl⟩ : ∃ g o, p = some ⟨g, o, none⟩ := by
        obtain ⟨off, _, _, h3⟩ := HPC.out
        obtain ⟨g, o, _, e⟩ := h3 (by simp)
        exact ⟨g, _, e⟩
      obtain ⟨hR2, hpre⟩ := HR.out.step h1
      simp only [if_true] at hR2 hpre
      have hx : PieceOf dp d (some ⟨g, o, none⟩) (x ++ [0]) := HPC.out.sub (a := []) (b := x ++ [0]) (c := r) (by simp) (fun _ g' o' e => by cases e; rfl)
      have hrp : ∀ q, (r ≠ [] → q = some ⟨g, o + (x.length + 1), none⟩) → PieceOf dp d q r := fun q hq => HPC.out.sub (a := x ++ [0]) (b := r) (c := []) (by simp) (fun hn g' o' e => by cases e; rw [hq hn]; simp)
      obtain ⟨fn, tmps, assign, body, hy, hRn⟩ := HY.out pre ⟨(some ⟨g, o, none⟩, x ++ [0]), hx⟩ wr hj (by have := HL.out; omega)
      rw [h2] at HIX
      have hxl : (x ++ [(0 : UInt8)]).length = x.length + 1 := by simp
      dsimp only at hy
      rw [hxl] at hy
      rw [hq1] at c0 HIX hle HS
      have HRN := Lib.hid hRn
      have HR2 := Lib.hid hR2
      have HPRE := Lib.hid hpre
      have HRP := Lib.hid hrp
      have hl2 : x.length + (r.length + 1) ≤ 9223372036854775807 := by have := HL.out; have := HD.out; omega
      have HPL := Lib.hid (show pre.length + (x.length + (r.length + 1)) ≤ d.length by have := HL.out; omega)
      generalize hxn : x.length = xn at *
      generalize hrn : r.length = rn at *
      have HXN := Lib.hid (⟨hxn, hrn⟩ : x.length = xn ∧ r.length = rn)
      clear h1 h2 hRn hR2 hpre hq1 hxl hxn hrn hrp
      have hc0 : ¬ c = 0 := by omega
      by_cases hcap : c = xn + 1
      · subst hcap
        gi_wp2_with (refine ⟨trivial, ?_⟩; gi_at_call 43; refine (callsIn_wide.2 HIX.out).mono ?_; rintro e w2 ⟨rfl, rfl⟩)
        refine HRN.out.mono ?_
        rintro e W3 (⟨rfl, hJ3, hk3, hsz3⟩ | ⟨rfl, hJx3⟩)
        · have hb3 := HBX.out.keep hk3 hsz3
          have hs3 := (hk3 m (.inl (.inl rfl)) (lt_of_get HS.out)).trans HS.out
          have d0 := (cells_of hs3).1 0
          have g0 := (cells_of hs3).2 0
          have d1 := (cells_of hb3.sep).1 0
          simp only [List.getElem?_toArray, List.getElem?_cons_zero] at d0 d1
          have HB3 := Lib.hid hb3
          clear hk3 hb3 hs3 hsz3
          gi_wp2
          have hb4 : BBoxes m sb sc dp d r (W3.setCell ⟨m, 0, none⟩ (.slice (some ⟨g, o, none⟩) 0 0)) := by
            have hr0 : r.length = 0 := by rw [HXN.out.2]; omega
            have := HB3.out.put (p := some ⟨g, o, none⟩) (c := 0) (r := r) (HRP.out _ (fun hn => absurd (List.length_pos_iff.2 hn) (by omega))) (by omega) (by simp)
            rwa [hr0] at this
          go_roundw
          case rel => exact ⟨pre ++ [(⟨(some ⟨g, o, none⟩, x ++ [0]), hx⟩ : BPiece dp d)], r, by rw [List.map_append]; exact HR2.out, by have := HPL.out; rw [len_snoc, HXN.out.2]; omega, hb4, HJ.out _ _ _ hJ3 ((Upd.refl [m] _).setCell (.inl (by simp)) _)⟩
          case measure => rw [hb4.left, HBX.out.left]; simp; omega
        · gi_wp2
          refine bodyPost_ret (results_none rfl _ _ _) rfl ?_
          exact ⟨⟨_, rfl⟩, .inr ⟨_, by rw [List.map_append]; exact HPRE.out, hJx3⟩⟩
      · have hcap' : ¬ xn + 1 = c := fun e => hcap e.symm
        gi_wp2_with (refine ⟨trivial, ?_⟩; gi_at_call 43; refine (callsIn_wide.2 HIX.out).mono ?_; rintro e w2 ⟨rfl, rfl⟩)
        refine HRN.out.mono ?_
        rintro e W3 (⟨rfl, hJ3, hk3, hsz3⟩ | ⟨rfl, hJx3⟩)
        · have hb3 := HBX.out.keep hk3 hsz3
          have hs3 := (hk3 m (.inl (.inl rfl)) (lt_of_get HS.out)).trans HS.out
          have d0 := (cells_of hs3).1 0
          have g0 := (cells_of hs3).2 0
          have d1 := (cells_of hb3.sep).1 0
          simp only [List.getElem?_toArray, List.getElem?_cons_zero] at d0 d1
          have HB3 := Lib.hid hb3
          clear hk3 hb3 hs3 hsz3
          gi_wp2
          rw [show xn + (rn + 1) - (xn + 1) = rn by omega]
          have hb4 : BBoxes m sb sc dp d r (W3.setCell ⟨m, 0, none⟩ (.slice (some ⟨g, o + (xn + 1), none⟩) rn (c - (xn + 1)))) := by
            have := HB3.out.put (p := some ⟨g, o + (xn + 1), none⟩) (c := c - (xn + 1)) (r := r) (HRP.out _ (fun _ => rfl)) (by rw [HXN.out.2]; omega) (by simp)
            rwa [HXN.out.2] at this
          go_roundw
          case rel => exact ⟨pre ++ [(⟨(some ⟨g, o, none⟩, x ++ [0]), hx⟩ : BPiece dp d)], r, by rw [List.map_append]; exact HR2.out, by have := HPL.out; rw [len_snoc, HXN.out.2]; omega, hb4, HJ.out _ _ _ hJ3 ((Upd.refl [m] _).setCell (.inl (by simp)) _)⟩
          case measure => rw [hb4.left, HBX.out.left]; simp; omega
        · gi_wp2
          refine bodyPost_ret (results_none rfl _ _ _) rfl ?_
          exact ⟨⟨_, rfl⟩, .inr ⟨_, by rw [List.map_append]; exact HPRE.out, hJx3⟩⟩
end Go.Proofs.YtlhdjgibkiffaaaGreatDoor
