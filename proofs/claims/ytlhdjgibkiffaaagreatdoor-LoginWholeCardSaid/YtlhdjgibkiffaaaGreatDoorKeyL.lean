/-
  PROVED HERE: the library's functions that package keys calls, as functions on texts. Conditions: those that each theorem names.
-/
import Derived.Test.YtlhdjgibkiffaaaGreatDoorKeyQ
import Derived.Test.YtlhdjgibkiffaaaGreatDoorKeyS
import Derived.Test.YtlhdjgibkiffaaaGreatDoorKeyLay
import Derived.BigQuiet
import Derived.Shelf.RegionOpenPlain
import Derived.Lib.Walk
import Derived.Lib.AppendIntMem
namespace Go.Proofs.YtlhdjgibkiffaaaGreatDoor
open Go.RowKit Go.Shelf
theorem trim_any {cs : ByteArray} (hcs : cs = txt letters) (k : Txt) (w : World) (hk : k.length ≤ 9223372036854775807) : Calls Tryz.prog 32 #[.string (txt k), .string cs] w fun e w' => e = .returned (.string (txt (Lib.trimS k letters))) ∧ Below w.heap.size w w' := by
  subst hcs
  exact Any.strings_Trim_laid Tryz.lays160 (by kernel_rfl) (txt k) (txt letters) w hk (by decide) (ascii_of_all (by decide))
theorem has0_any (v : Txt) (w : World) : Calls Tryz.prog 33 #[.string (txt v), .string (txt [0])] w fun e w' => e = .returned (.bool (v.contains 0)) ∧ w' = w := by
  refine (Any.strings_Contains_one Tryz.lays144 (txt v) 0 w).mono ?_
  rintro e w' ⟨rfl, rfl⟩
  rw [show decide (0 ≤ Lib.indexByte (txt v).data.toList 0) = v.contains 0 from contains_index v 0]
  exact ⟨rfl, rfl⟩
theorem cutSuf_any (t : Txt) (w : World) (h : t.length ≤ 9223372036854775807) : Calls Tryz.prog 21 #[.string (txt t), .string (txt [0])] w fun e w' => e = .returned (.tuple #[.string (txt (Lib.trimSuffix t [0])), .bool (Lib.hasSuffix t [0])]) ∧ w' = w :=
  Any.strings_CutSuffix Tryz.lays104 (txt t) (txt [0]) w h
theorem strIndex_any (t : Txt) (c : UInt8) (w : World) : Calls Tryz.prog 53 #[.string (txt t), .string (txt [c])] w fun e w' => e = .returned (.int .i64 (Lib.indexByte t c)) ∧ w' = w :=
  Any.strings_Index_one Tryz.lays143 (txt t) c w
theorem txt_take (t : Txt) (i : Nat) : txt (t.take i) = (txt t).extract 0 i := by
  rw [ByteArray.extract_mk]; simp
theorem txt_drop (t : Txt) (i : Nat) : txt (t.drop i) = (txt t).extract i t.length := by
  rw [ByteArray.extract_mk]; simp; rw [List.take_of_length_le (by simp)]
theorem below_drewN {B : Nat} {a w : World} (h : Below B a w) (n : Nat) : Below B a (w.drewN n) := ⟨h.os, h.tape, h.output, h.size, h.block⟩
/-- What Cut hands back. -/
def cutV (t : Txt) : Txt × Txt × Bool := match cutEq t with | some p => (p.1, p.2, true) | none => (t, [], false)
set_option maxHeartbeats 2000000 in
set_option maxRecDepth 100000 in
theorem cut_any (t : Txt) (w : World) (ht : t.length ≤ 9223372036854775807) : Calls Tryz.prog 22 #[.string (txt t), .string (txt [61])] w fun e w' => e = .returned (.tuple #[.string (txt (cutV t).1), .string (txt (cutV t).2.1), .bool (cutV t).2.2]) ∧ Below w.heap.size w w' := by
  have hin : ∀ w, Calls Tryz.prog 31 #[.string (txt t), .string (txt [61])] w fun e w' => e = .returned (.tuple #[.string (txt (cutV t).1), .string (txt (cutV t).2.1), .bool (cutV t).2.2]) ∧ Below w.heap.size w w' := by
    intro w
    have hI := fun w => Any.stringslite_Index_one Tryz.lays219 (txt t) 61 w
    rw [show (txt t).data.toList = t from rfl] at hI
    rcases cutEq_index t with ⟨h1, h2⟩ | ⟨i, h1, h3, h2⟩
    · rw [h1] at hI
      have HI := Lib.hid hI
      clear hI h1
      rw [show cutV t = (t, [], false) by unfold cutV; rw [h2]]
      clear h2
      go_enter Tryz.func31, Tryz.ntmps31
      go_wp2_with (go_at_call 45; refine (HI.out _).mono ?_; rintro e w' ⟨rfl, rfl⟩)
      go_ret3
      exact ⟨rfl, Below.refl _ _⟩
    · rw [h1] at hI
      have HI := Lib.hid hI
      have hi : i < (txt t).size := h3
      have hs : (txt t).size ≤ 9223372036854775807 := ht
      clear hI h1
      rw [show cutV t = (t.take i, t.drop (i + 1), true) by unfold cutV; rw [h2]]
      clear h2 h3 ht
      have c1 : (0 : Int) ≤ (i : Nat) := by omega
      have c2 : ((i : Nat) : Int) ≤ ((txt t).size : Nat) := by omega
      have c3 : (0 : Int) ≤ (i : Nat) + 1 := by omega
      have c4 : ((i : Nat) : Int) + 1 ≤ ((txt t).size : Nat) := by omega
      go_enter Tryz.func31, Tryz.ntmps31
      go_wp2_with (go_at_call 45; refine (HI.out _).mono ?_; rintro e w' ⟨rfl, rfl⟩)
      go_quiet (fail)
      go_wp2
      go_ret3
      exact ⟨by rw [txt_take, txt_drop]; rfl, below_drewN (Below.refl _ _) nq⟩
  go_enter Tryz.func22, Tryz.ntmps22
  go_wp2_with (go_at_call 31; refine (hin _).mono ?_; rintro e w' ⟨rfl, hb⟩)
  go_ret3
  exact ⟨rfl, hb⟩

/-- The bytes of a text in memory. -/
def IsTxt (w : World) (p : Option Addr) (l : Txt) : Prop := ∀ i (h : i < l.length), ∃ g o, p = some ⟨g, o, none⟩ ∧ g < w.heap.size ∧ w.cell? ⟨g, o + i, none⟩ = some (.int .u8 (l[i].toNat : Int))
theorem IsTxt.below {w w' : World} {p : Option Addr} {l : Txt} (h : IsTxt w p l) (hb : Below w.heap.size w w') : IsTxt w' p l := fun i hi => by
  obtain ⟨g, o, h1, h2, h3⟩ := h i hi
  exact ⟨g, o, h1, Nat.lt_of_lt_of_le h2 hb.size, (hb.cell (p := ⟨g, _, none⟩) h2).trans h3⟩
theorem bytesOf_nats (l : Txt) : Lib.bytesOf (l.map fun b => (b.toNat : Int)) = l := by
  unfold Lib.bytesOf
  rw [List.map_map]
  conv => rhs; rw [← List.map_id l]
  refine List.map_congr_left fun b _ => ?_
  simp
theorem bytesIndex_any (t : Txt) (p : Option Addr) (n c b2 o2 d : Nat) (w : World) (hn : n = t.length) (h : IsTxt w p t) (h2 : w.cell? ⟨b2, o2, none⟩ = some (.int .u8 0)) (hc : p = none → c = 0) :
    Calls Tryz.prog 43 #[.slice p n c, .slice (some ⟨b2, o2, none⟩) 1 d] w fun e w' => e = .returned (.int .i64 (Lib.indexByte t 0)) ∧ w' = w := by
  subst hn
  cases p with
  | none =>
    have : t = [] := by
      cases t with
      | nil => rfl
      | cons b r => obtain ⟨_, _, h1, _⟩ := h 0 (by simp); cases h1
    subst this
    rw [hc rfl]
    exact Any.bytes_Index_one_nil Tryz.lays185 b2 o2 d 0 w h2
  | some a =>
    have := Any.bytes_Index_one_at Tryz.lays185 a t.length c b2 o2 d (t.map fun b => (b.toNat : Int)) 0 w (by simp) (fun i hi => by
      obtain ⟨g, o, h1, _, h3⟩ := h i hi
      cases h1
      rw [add_off, h3]
      simp [hi]) h2
    rw [bytesOf_nats] at this
    exact this
/-- A list of texts in memory. -/
def IsTxts (w : World) (v : Value) (l : List Txt) : Prop := ∃ p cap, v = .slice p l.length cap ∧ l.length ≤ cap ∧ cap ≤ maxLen ∧ ∀ i (h : i < l.length), ∃ g o, p = some ⟨g, o, none⟩ ∧ g < w.heap.size ∧ w.cell? ⟨g, o + i, none⟩ = some (.string (txt l[i]))
theorem IsTxts.below {w w' : World} {v : Value} {l : List Txt} (h : IsTxts w v l) (hb : Below w.heap.size w w') : IsTxts w' v l := by
  obtain ⟨p, cap, h1, h2, h2', h3⟩ := h
  refine ⟨p, cap, h1, h2, h2', fun i hi => ?_⟩
  obtain ⟨g, o, h4, h5, h6⟩ := h3 i hi
  exact ⟨g, o, h4, Nat.lt_of_lt_of_le h5 hb.size, (hb.cell (p := ⟨g, _, none⟩) h5).trans h6⟩
theorem containsS_txt (own : List Txt) (t : Txt) : Lib.containsS (own.map txt) (txt t) = own.contains t := by
  rw [Bool.eq_iff_iff, Lib.containsS_iff, List.contains_iff_mem, List.mem_map]
  exact ⟨fun ⟨x, hx, e⟩ => txt_inj e ▸ hx, fun h => ⟨t, h, rfl⟩⟩
theorem has_any {w : World} {v : Value} {own : List Txt} (t : Txt) (h : IsTxts w v own) : Calls Tryz.prog 72 #[v, .string (txt t)] w fun e w' => e = .returned (.bool (own.contains t)) ∧ w' = w := by
  obtain ⟨p, cap, rfl, h1, h2, h3⟩ := h
  by_cases h0 : own = []
  · subst h0
    exact Any.slices_Contains_string_empty Tryz.lays110 p cap (txt t) w
  · obtain ⟨g, o, rfl, _, _⟩ := h3 0 (List.length_pos_iff.2 h0)
    have := Any.slices_Contains_string Tryz.lays110 g o own.length cap (own.map txt) (txt t) w (by simp) (by unfold maxLen at h2; omega) (fun j hj => by
      simp only [List.length_map] at hj
      obtain ⟨g', o', e, _, h6⟩ := h3 j hj
      cases e
      rw [h6]
      simp [hj])
    rw [show own.length = (own.map txt).length by simp, List.take_length, containsS_txt] at this
    rw [show ((own.map txt).length) = own.length by simp] at this
    exact this
/-- Atoi, by how the text parses. -/
theorem atoi_any (s : Txt) (w : World) (hs : s.length ≤ 281474976710656) {t1 t2 : TypeId} {p1 p2 : Value} (h1 : w.var? Tryz.prog "strconv.ErrSyntax" = some #[.iface t1 p1]) (h2 : w.var? Tryz.prog "strconv.ErrRange" = some #[.iface t2 p2]) :
    Calls Tryz.prog 73 #[.string (txt s)] w fun e w' => (∃ v er, e = .returned (.tuple #[.int .i64 v, er]) ∧ ((Lib.atoiAll s = .ok v ∧ er = .nilIface) ∨ ((∀ x, Lib.atoiAll s ≠ .ok x) ∧ ∃ ty a, er = .iface ty (.pointer (some a))))) ∧ Below w.heap.size w w' := by
  cases h : Lib.atoiAll s with
  | ok v =>
    refine (Any.strconv_Atoi_ok Tryz.laysC172 (txt s) (by show s.length ≤ _; omega) v h w).mono ?_
    rintro e w' ⟨rfl, hw⟩
    refine ⟨⟨v, _, rfl, .inl ⟨rfl, rfl⟩⟩, ?_⟩
    rcases hw with rfl | ⟨t, rfl⟩
    · exact Below.refl _ _
    · exact Lib.bytesWorld_below w _ t
  | «syntax» =>
    refine (Any.strconv_Atoi_syntax_var Tryz.laysC172 (txt s) hs h t1 p1 w h1).mono ?_
    rintro e w' ⟨N, rfl, _, _, hb⟩
    exact ⟨⟨_, _, rfl, .inr ⟨by simp, _, _, rfl⟩⟩, hb⟩
  | range =>
    refine (Any.strconv_Atoi_range_var Tryz.laysC172 (txt s) hs h t2 p2 w h2).mono ?_
    rintro e w' ⟨N, rfl, _, _, hb⟩
    exact ⟨⟨_, _, rfl, .inr ⟨by simp, _, _, rfl⟩⟩, hb⟩
theorem itoa_any (n : Int) (h0 : -9223372036854775808 ≤ n) (h1 : n ≤ 9223372036854775807) (w : World) (htab : Lib.TabIs Tryz.prog w "internal/strconv.uint64pow10" .u64 Lib.pow10Tab) :
    Calls Tryz.prog 74 #[.int .i64 n] w fun e w' => e = .returned (.string (txt (Lib.itoa n))) ∧ Below w.heap.size w w' := by
  refine (Any.strconv_Itoa Tryz.laysM171 n h0 h1 w htab).mono ?_
  rintro e w' ⟨rfl, k, os, rfl⟩
  exact ⟨rfl, Lib.below_grow _ _ (Nat.le_refl _) _ _⟩
end Go.Proofs.YtlhdjgibkiffaaaGreatDoor
