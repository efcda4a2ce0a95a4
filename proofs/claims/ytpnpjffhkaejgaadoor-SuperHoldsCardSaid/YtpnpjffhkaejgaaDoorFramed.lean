/-
  PROVED HERE: a sector and a body come of a writer. Conditions: the writer's block is its own; the table may be used.
-/
import Derived.Test.YtpnpjffhkaejgaaDoorWriterB
namespace Go.Proofs.YtpnpjffhkaejgaaDoor
open Go.RowKit

/-- Block b begins with the bytes l, which may be written. -/
structure IsBlk (w : World) (b : Nat) (l : List Nat) : Prop where
  blk : ∃ cs ty, w.heap[b]? = some (.cells cs ty (0, 0)) ∧ ∀ i (h : i < l.length), cs[i]? = some (.int .u8 (l[i] : Int))
  ok : BytesOk l
theorem IsBlk.upd {w w' : World} {b : Nat} {l : List Nat} {S : List Nat} (h : IsBlk w b l) (u : Upd S w w') (hs : b ∉ S) : IsBlk w' b l := by
  obtain ⟨⟨cs, ty, hb, r⟩, ok⟩ := h; exact ⟨⟨cs, ty, u.get hb hs, r⟩, ok⟩
theorem IsBlk.lt {w : World} {b : Nat} {l : List Nat} (h : IsBlk w b l) : b < w.heap.size := by
  obtain ⟨⟨cs, ty, hb, _⟩, _⟩ := h; exact lt_of_block hb
theorem IsBlk.bytes {w : World} {b : Nat} {l : List Nat} (h : IsBlk w b l) : IsBytes w (some ⟨b, 0, none⟩) l := by
  obtain ⟨⟨cs, ty, hb, r⟩, ok⟩ := h
  exact ⟨ok, fun i hi => ⟨b, 0, rfl, by rw [Nat.zero_add, (cells_of hb).1]; exact r i hi⟩⟩
theorem IsBlk.fz {w : World} {b : Nat} {l : List Nat} (h : IsBlk w b l) (i : Nat) : w.frozen? ⟨b, i, none⟩ = false := by
  obtain ⟨⟨cs, ty, hb, _⟩, _⟩ := h; exact (cells_of hb).2 i
theorem IsBytes.upd {w w' : World} {a : Option Addr} {l : List Nat} {S : List Nat} (h : IsBytes w a l) (u : Upd S w w') (hs : ∀ b o, a = some ⟨b, o, none⟩ → b ∉ S) : IsBytes w' a l :=
  ⟨h.1, fun i hi => by
    obtain ⟨b, o, ha, hc⟩ := h.2 i hi
    exact ⟨b, o, ha, by rw [← hc]; exact World.cell?_of_block (u.block b (World.block_lt_of_cell? _ _ hc) (hs b o ha))⟩⟩

/-- What was put, as a sector. -/
def frame (l : List Nat) : List Nat := pad l 252 ++ le4 (crc (pad l 252))
theorem frame_len {l : List Nat} (h : l.length ≤ 252) : (frame l).length = 256 := by simp [frame, pad_len h, le4]
theorem frame_ok {l : List Nat} (h : BytesOk l) : BytesOk (frame l) := (h.pad _).append (le4_ok _)
theorem getD_of {l : List Nat} {i : Nat} (h : i < l.length) : l[i] = l.getD i 0 := by simp [List.getD_eq_getElem?_getD, h]
theorem infoA4 : (Tryd.prog.info? 104).map (·.size) = some 4 := by kernel_rfl
theorem IsW.padded {w : World} {b : Nat} {l : List Nat} (h : IsW w b l) {n : Nat} (hl : l.length ≤ n) (hn : n ≤ 256) : IsBlk w b (pad l n) := by
  obtain ⟨⟨cs, hb, hs, hc, _⟩, ok⟩ := h
  refine ⟨⟨cs, _, hb, fun i hi => ?_⟩, ok.pad _⟩
  rw [getD_of hi, pad_getD]
  rw [pad_len hl] at hi
  exact hc i (by omega)
theorem splice_frame {cs : Array Value} {l p : List Nat} (hs : cs.size = 257) (hl : l.length ≤ 252) (hp : p.length = 4) (hc : ∀ i, i < 256 → cs[i]? = some (.int .u8 (l.getD i 0 : Nat))) :
    ∀ i (h : i < (pad l 252 ++ p).length), (splice cs 252 (u8s p))[i]? = some (.int .u8 ((pad l 252 ++ p)[i] : Int)) := by
  intro i hi
  have hpl := pad_len hl
  rw [List.length_append, hpl, hp] at hi
  rw [splice_get _ _ _ (by rw [u8s_len]; omega), u8s_len, hp]
  by_cases h : 252 ≤ i
  · rw [if_pos (by omega), u8s_get, List.getElem_append_right (by omega), List.getElem?_eq_getElem (by omega)]
    simp [hpl]
  · rw [if_neg (by omega), List.getElem_append_left (by omega), hc i (by omega), getD_of, pad_getD]
theorem store4 (w : World) (s : Nat) : (storeCells ⟨w.heap.size, 0, none⟩ (u8s (le4 s))).run Tryd.prog (w.alloc (.cells #[.int .u8 0, .int .u8 0, .int .u8 0, .int .u8 0] 104)) =
    .ok () ((w.alloc (.cells #[.int .u8 0, .int .u8 0, .int .u8 0, .int .u8 0] 104)).setRow w.heap.size (u8s (le4 s)).toArray) := by
  have h := run_storeCells_at (P := Tryd.prog) w.heap.size 0 104 (u8s (le4 s)) 0 #[.int .u8 0, .int .u8 0, .int .u8 0, .int .u8 0] (w.alloc (.cells #[.int .u8 0, .int .u8 0, .int .u8 0, .int .u8 0] 104)) (heap_alloc_new _ _) (by simp [u8s_len, le4]) (u8s_one _)
  rw [Nat.add_zero] at h
  rw [h]
  simp [u8s, le4]
set_option maxRecDepth 100000 in
set_option maxHeartbeats 1600000 in
theorem framed_any {b t : Nat} {l : List Nat} {w : World} (h : IsW w b l) (hl : l.length ≤ 252) (ht : TabOk w t) (hne : b ≠ t) :
    Calls Tryd.prog 35 #[pt b, pt t] w fun e w' => e = .returned (.slice (some ⟨b, 0, none⟩) 256 256) ∧ IsBlk w' b (frame l) ∧ IsTab w' t 1 0 tword ∧ Upd [b, t] w w' := by
  have hsum := sum_any (cap := 256) ht (h.padded hl (by omega)).bytes (by rintro b' o ⟨⟩; exact hne) (by rw [pad_len hl]; omega)
  rw [pad_len hl] at hsum
  have hs1 := fun w => run_arr_to (P := Tryd.prog) w Tryd.underlying83 infoU8 b 0 .i64 252 (by decide) (by decide) (by decide)
  have hs2 := fun w => run_arr_from (P := Tryd.prog) w Tryd.underlying83 infoU8 b 0 .i64 252 (by decide) (by decide)
  have hs3 := fun w => run_arr_all (P := Tryd.prog) w Tryd.underlying83 infoU8 b 0 (by decide)
  have hs4 := fun w g => run_arr_all (P := Tryd.prog) w Tryd.underlying104 infoU8 g 0 (by decide)
  simp only [show (252 : Int).toNat = 252 from rfl, Nat.zero_add, show 256 - 252 = 4 from rfl] at hs1 hs2 hs3 hs4
  have hst := fun w => store4 w (crc (pad l 252))
  have hlt := h.lt
  have H := Lib.hid h
  have HT := Lib.hid ht.lt
  have HNE := Lib.hid hne
  have HLT := Lib.hid hlt
  have HL := Lib.hid hl
  have HSUM := Lib.hid hsum
  clear h hl ht hsum hne hlt
  go_enter Tryd.func35, Tryd.ntmps35
  go_wp2_with fail
  refine HSUM.out.mono ?_
  rintro e w1 ⟨rfl, h1, u1⟩
  have H1 := Lib.hid h1
  have U1 := Lib.hid u1
  clear h1 u1
  go_wp2
  have hbt : b ∉ [t] := by simpa using HNE.out
  obtain ⟨cs, hb, hs, hc, ha⟩ := (H.out.upd U1.out hbt).blk
  have hsz := U1.out.size
  have hlt1 : b < w1.heap.size := Nat.lt_of_lt_of_le HLT.out hsz
  have hok : BytesOk (pad l 252) := H.out.ok.pad _
  have uA : Upd [] w1 ((w1.alloc (.cells #[.int .u8 0, .int .u8 0, .int .u8 0, .int .u8 0] 104)).setRow w1.heap.size (u8s (le4 (crc (pad l 252)))).toArray) := ((Upd.refl _ _).alloc _).setRow (.inr (Nat.le_refl _)) _
  have hg : ((w1.alloc (.cells #[.int .u8 0, .int .u8 0, .int .u8 0, .int .u8 0] 104)).setRow w1.heap.size (u8s (le4 (crc (pad l 252)))).toArray).heap[w1.heap.size]? = some (.cells (u8s (le4 (crc (pad l 252)))).toArray 104 (0, 0)) := setRow_heap _ _ _ _ _ _ (heap_alloc_new _ _)
  have hbA := uA.get hb (by simp)
  generalize hwA : ((w1.alloc (.cells #[.int .u8 0, .int .u8 0, .int .u8 0, .int .u8 0] 104)).setRow w1.heap.size (u8s (le4 (crc (pad l 252)))).toArray) = wA at *
  obtain ⟨w2, hrun, hb2, hu2, hz2⟩ := copy_cells (P := Tryd.prog) wA.drew 39 39 3 5 b 252 4 4 (.slice (some ⟨w1.heap.size, 0, none⟩) 4 4) cs _ (u8s (le4 (crc (pad l 252)))) Tryd.underlying39 infoU8 hbA
    (.inr ⟨⟨w1.heap.size, 0, none⟩, 4, by rw [u8s_len]; rfl, fun j v hj => by rw [add_off, Nat.zero_add, (cells_of (w := wA.drew) hg).1]; simpa using hj⟩) (by rw [u8s_len]; exact Nat.le_refl _) (by rw [u8s_len, hs]; show 252 + 4 ≤ 257; decide) (u8s_one _)
  rw [u8s_len] at hrun
  have HWA := Lib.hid hwA
  have HB2 := Lib.hid hb2
  have HS := Lib.hid (splice_frame (p := le4 (crc (pad l 252))) hs HL.out (by simp [le4]) hc)
  have HU := Lib.hid (show Upd [b, t] w w2 from ((U1.out.mono (by simp)).trans (uA.mono (by simp))).drew.trans (hu2.mono (by simp)))
  have HTW := Lib.hid ((H1.out.upd uA (by simp)).upd (show Upd [b] wA w2 from ⟨hu2.os, hu2.tape, hu2.output, hu2.size, hu2.block⟩) (by simpa using Ne.symm HNE.out))
  have HOK := Lib.hid (hok.append (le4_ok (crc (pad l 252))))
  clear hb hs hc ha hsz hlt1 hok uA hg hbA hwA hb2 hu2 hz2 hbt
  go_region
  go_wp2
  go_ret
  exact ⟨rfl, ⟨⟨_, _, HB2.out, HS.out⟩, HOK.out⟩, HTW.out, HU.out⟩

theorem in_any (n most : Int) (w : World) : Calls Tryd.prog 33 #[.int .i64 n, .int .i64 most] w fun e w' => w' = w ∧ e = .returned (.bool (decide (0 ≤ n ∧ n ≤ most))) := by
  by_cases h1 : 0 ≤ n <;> by_cases h2 : n ≤ most <;>
  · go_enter Tryd.func33, Tryd.ntmps33
    go_wp2
    go_ret
    simp_all
end Go.Proofs.YtpnpjffhkaejgaaDoor
