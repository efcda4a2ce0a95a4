/-
  PROVED HERE: laws on slices of bytes: what they read as, those of the call's own, and a copy of one (bytes.Clone). Conditions: those that each theorem names.
-/
import Derived.Test.YtpnpjffhkaejgaaGreatDoorRows
import Derived.Test.YtpnpjffhkaejgaaGreatDoorAppend
import Derived.Test.YtpnpjffhkaejgaaGreatDoorSoundB
import Derived.Test.YtpnpjffhkaejgaaGreatDoorRefPut
import Derived.WalkKit
import Derived.Laws.BytesArg
import Derived.Laws.ResultCell
import Derived.Laws.Pointers
import Derived.RegionTactic
import Derived.ChangeAlike
import Derived.BigRegion
import Derived.Deep.QuietTactic
import Derived.BigQuiet
import Derived.Deep.DeepCutAuto
import Derived.Deep.RegionHeld3
import Derived.Deep.RegionLaw
namespace Go.Proofs.YtpnpjffhkaejgaaGreatDoor
open Go.RowKit

theorem IsBytes.news {w : World} {b o : Nat} {l : List Nat} (h : IsBytes w (some ⟨b, o, none⟩) l) : ∀ j u, (u8s l)[j]? = some u → w.cell? ((⟨b, o, none⟩ : Addr).add j) = some u := by
  intro j u hj
  rw [u8s_get] at hj
  by_cases hjl : j < l.length
  · rw [List.getElem?_eq_getElem hjl] at hj
    obtain ⟨b', o', e, hc⟩ := h.2 j hjl
    cases e
    rw [add_off, hc]
    simpa using hj
  · rw [List.getElem?_eq_none (by omega)] at hj; cases hj
theorem IsBytes.lt {w : World} {a : Option Addr} {l : List Nat} (h : IsBytes w a l) (h0 : 0 < l.length) : ∀ b o, a = some ⟨b, o, none⟩ → b < w.heap.size := fun b o e => by
  obtain ⟨b', o', e', hc⟩ := h.2 0 h0
  rw [e'] at e
  cases e
  exact World.block_lt_of_cell? _ _ hc
/-- The value v is a slice of the call's own that holds the bytes l, and may be written. -/
def IsRow (w : World) (B : Nat) (v : Value) (l : List Nat) : Prop := w.ownsRow B 5 1 v l.length (u8s l) ∧ BytesOk l
theorem IsRow.nil (w : World) (B : Nat) : IsRow w B (.slice none 0 0) [] := ⟨⟨rfl, .inl ⟨rfl, rfl⟩⟩, BytesOk.nil⟩
theorem IsRow.low {w : World} {B : Nat} {v : Value} {l : List Nat} (h : IsRow w B v l) : ∀ x ∈ v.ownBlock.toList, B ≤ x := ownsRow_block h.1
theorem IsRow.upd {w w' : World} {B : Nat} {v : Value} {l : List Nat} {S : List Nat} (h : IsRow w B v l) (u : Upd S w w') (hs : ∀ x ∈ v.ownBlock.toList, x ∉ S) : IsRow w' B v l :=
  ⟨ownsRow_upd h.1 u hs, h.2⟩
theorem IsRow.base {w : World} {B C : Nat} {v : Value} {l : List Nat} (h : IsRow w B v l) (hC : C ≤ B) : IsRow w C v l := by
  obtain ⟨⟨hl, ⟨rfl, h0⟩ | ⟨g, cap, cur, rfl, hg, r⟩⟩, ok⟩ := h
  · exact ⟨⟨hl, .inl ⟨rfl, h0⟩⟩, ok⟩
  · exact ⟨⟨hl, .inr ⟨g, cap, cur, rfl, Nat.le_trans hC hg, r⟩⟩, ok⟩
theorem IsRow.slice {w : World} {B : Nat} {v : Value} {l : List Nat} (h : IsRow w B v l) : ∃ a cap, v = .slice a l.length cap ∧ IsBytes w a l ∧ (∀ b o, a = some ⟨b, o, none⟩ → b ∈ v.ownBlock.toList ∧ b < w.heap.size) ∧ l.length ≤ cap ∧ cap ≤ 9223372036854775807 := by
  obtain ⟨⟨hl, ⟨rfl, h0⟩ | ⟨g, cap, cur, rfl, hg, hb, hc, hm, hs, ht⟩⟩, ok⟩ := h
  · exact ⟨none, 0, by rw [h0], ⟨ok, fun i hi => by omega⟩, by rintro b o ⟨⟩, by omega, by decide⟩
  · refine ⟨_, cap, rfl, ⟨ok, fun i hi => ⟨g, 0, rfl, ?_⟩⟩, by rintro b o ⟨⟩; exact ⟨by simp [Value.ownBlock], lt_of_block hb⟩, hc, by unfold maxLen at hm; omega⟩
    rw [(cells_of hb).1, Nat.zero_add]
    have e : (cur.toList.take (l.length * 1))[i]? = (u8s l)[i]? := by rw [ht]
    rw [List.getElem?_take_of_lt (by omega), u8s_get, List.getElem?_eq_getElem hi] at e
    simpa using e
/-- A slice of cells of one, from a place up to a place. -/
theorem run_sl_mid {P : Program} (w : World) {t e : TypeId} (hu : P.underlying t = some (.slice e)) (hs : (P.info? e).map (·.size) = some 1) (g o len cap : Nat) (k k' : IntKind) (i j : Int) (h0 : 0 ≤ i) (h1 : i ≤ j) (h2 : j ≤ cap) (h3 : i < cap) :
    (Instr.sliceAt t (.slice (some ⟨g, o, none⟩) len cap) (some (.int k i)) (some (.int k' j)) none).run P w = .ok (.slice (some ⟨g, o + i.toNat, none⟩) (j.toNat - i.toNat) (cap - i.toNat)) w := by
  cases hq : P.info? e with
  | none => simp [hq] at hs
  | some q =>
    have hj : q.size = 1 := by simpa [hq] using hs
    have hb := run_bound (P := P) w k' j cap .sliceAcap (by omega) h2
    have hb2 := run_bound (P := P) w k i j.toNat .sliceB h0 (by omega)
    have hne : ¬ cap = i.toNat := by omega
    simp [Instr.sliceAt, Instr.slice, Instr.sliceBounds, run_underlying hu w, sizeOf, typeInfo, hq, hj, hb, hb2, hne, add_off]
/-- A slice of cells of one, from a place on. -/
theorem run_sl_from {P : Program} (w : World) {t e : TypeId} (hu : P.underlying t = some (.slice e)) (hs : (P.info? e).map (·.size) = some 1) (g o len cap : Nat) (k : IntKind) (i : Int) (h0 : 0 ≤ i) (h2 : i ≤ len) (h3 : i < cap) :
    (Instr.sliceAt t (.slice (some ⟨g, o, none⟩) len cap) (some (.int k i)) none none).run P w = .ok (.slice (some ⟨g, o + i.toNat, none⟩) (len - i.toNat) (cap - i.toNat)) w := by
  cases hq : P.info? e with
  | none => simp [hq] at hs
  | some q =>
    have hj : q.size = 1 := by simpa [hq] using hs
    have hb2 := run_bound (P := P) w k i len .sliceB h0 (by omega)
    have hne : ¬ cap = i.toNat := by omega
    simp [Instr.sliceAt, Instr.slice, Instr.sliceBounds, run_underlying hu w, sizeOf, typeInfo, hq, hj, hb2, hne, add_off]
theorem sizeU8 : (Tryz.prog.info? 5).map (·.size) = some 1 := by kernel_rfl
def CloneRow (B : Nat) (l : List Nat) (e : Ending) (w' : World) : Prop := ∃ v, e = .returned v ∧ IsRow w' B v l
set_option maxRecDepth 100000 in
set_option maxHeartbeats 1600000 in
theorem clone_row {w : World} {a : Option Addr} {l : List Nat} {cap : Nat} (hb : IsBytes w a l) (h0 : 0 < l.length) (h1 : l.length ≤ 100000000000) :
    Calls Tryz.prog 39 #[.slice a l.length cap] w fun e w' => CloneRow w.heap.size l e w' ∧ Upd [] w w' := by
  obtain ⟨i0, hi, hz0, hz1, hz2⟩ := info_parts infoByte
  obtain ⟨b, o, rfl, hc0⟩ := hb.2 0 h0
  clear hc0
  have HB := Lib.hid (hb.upd ((Upd.refl [] w).alloc (.cells #[] 5)) (by simp))
  have HL : Hid ((w.alloc (.cells #[] 5)).ownsRow w.heap.size 5 1 (.slice (some ⟨w.heap.size, 0, none⟩) 0 0) 0 []) := ⟨rfl, .inr ⟨w.heap.size, 0, #[], rfl, Nat.le_refl _, heap_alloc_new w _, Nat.le_refl _, by decide, rfl, rfl⟩⟩
  have hn : ∀ w, (binOp .eql 62 (.slice (some ⟨b, o, none⟩) l.length cap) (.slice none 0 0)).run Tryz.prog w = .ok (.bool false) w := fun w => by
    simp only [binOp]
    simp [Op.equal, Op.maxDepth, Lib.run_equalIn_slice_nil w 9999 _ _ _ _ _ _ _ Tryz.underlying62]
  have H0 := Lib.hid h0
  have H1 := Lib.hid h1
  have HO := Lib.hid hb.1
  clear hb h0 h1
  go_enter Tryz.func39, Tryz.ntmps39
  go_wp2_with (at_builtin; refine wpList_append_blk _ rfl (.tmp 5) (.tmp 6) 62 rfl w.heap.size 5 i0 _ 1 1 Tryz.underlying62 hi hz0 hz1 hz2 rfl (by decide) _ 0 [] rfl HL.out ⟨b, o, none⟩ l.length cap (u8s l) rfl (by rw [u8s_len, Nat.mul_one]) HB.out.news (u8s_one l) (by have := H1.out; unfold maxLen; omega) (by have := H1.out; omega) (by simp) ?_; intro v6 w6 g6 m6; have G6 := Lib.hid g6; have M6 := Lib.hid m6; clear g6 m6)
  go_ret
  have hu6 := ((Upd.refl [] w).alloc (.cells #[] 5)).step (show Upd [w.heap.size] _ _ from M6.out.upd) (fun x hx => .inr (by simp at hx; omega))
  refine ⟨⟨_, rfl, ?_, HO.out⟩, hu6⟩
  have := G6.out
  rw [Nat.zero_add, List.nil_append] at this
  exact this
end Go.Proofs.YtpnpjffhkaejgaaGreatDoor
