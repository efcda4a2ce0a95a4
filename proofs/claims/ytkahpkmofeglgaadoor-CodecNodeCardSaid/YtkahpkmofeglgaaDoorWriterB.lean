/-
  PROVED HERE: a text is put; a sector and a body come of a writer; the four bytes of a sum. Conditions: the writer's block is its own; what is put has room.
-/
import Derived.Test.YtkahpkmofeglgaaDoorWriter
namespace Go.Proofs.YtkahpkmofeglgaaDoor
open Go.RowKit

def strBytes (s : ByteArray) : List Nat := s.data.toList.map UInt8.toNat
theorem strBytes_ok (s : ByteArray) : BytesOk (strBytes s) := fun x hx => by
  obtain ⟨b, _, rfl⟩ := List.mem_map.1 hx
  exact b.toNat_lt
theorem strBytes_len (s : ByteArray) : (strBytes s).length = s.size := by simp [strBytes]
theorem infoU8 : (Tryd.prog.info? 5).map (·.size) = some 1 := by kernel_rfl
def u8s (p : List Nat) : List Value := p.map fun x : Nat => Value.int .u8 (x : Int)
theorem u8s_len (p : List Nat) : (u8s p).length = p.length := by simp [u8s]
theorem u8s_get (p : List Nat) (i : Nat) : (u8s p)[i]? = p[i]?.map fun x : Nat => Value.int .u8 (x : Int) := by simp [u8s]
theorem u8s_one (p : List Nat) : ∀ v ∈ u8s p, v.oneCell' = true := fun v hv => by
  obtain ⟨x, _, rfl⟩ := List.mem_map.1 hv; rfl
theorem u8s_str (s : ByteArray) : u8s (strBytes s) = s.data.toList.map fun b => Value.int .u8 b.toNat := by simp [u8s, strBytes]
/-- A writer's cells with some bytes more laid behind those that were put. -/
theorem splice_put {cs : Array Value} {l p : List Nat} (hs : cs.size = 257) (hc : ∀ i, i < 256 → cs[i]? = some (.int .u8 (l.getD i 0 : Nat))) (ha : cs[256]? = some (.int .i64 (l.length : Nat))) (hr : l.length + p.length ≤ 256) :
    (splice cs l.length (u8s p)).size = 257 ∧ (∀ i, i < 256 → (splice cs l.length (u8s p))[i]? = some (.int .u8 ((l ++ p).getD i 0 : Nat))) ∧ (splice cs l.length (u8s p))[256]? = some (.int .i64 (l.length : Nat)) := by
  have hle : l.length + (u8s p).length ≤ cs.size := by rw [u8s_len]; omega
  refine ⟨by rw [splice_size _ _ _ hle, hs], fun i hi => ?_, ?_⟩ <;> rw [splice_get _ _ _ hle, u8s_len]
  · simp only [List.getD_eq_getElem?_getD, List.getElem?_append]
    by_cases h : l.length ≤ i ∧ i < l.length + p.length
    · rw [if_pos h, if_neg (by omega), u8s_get, List.getElem?_eq_getElem (by omega)]; rfl
    · rw [if_neg h, hc i hi, List.getD_eq_getElem?_getD]
      by_cases h2 : i < l.length
      · rw [if_pos h2]
      · rw [if_neg h2, List.getElem?_eq_none (by omega), List.getElem?_eq_none (by omega)]
  · rw [if_neg (by omega)]; exact ha
set_option maxRecDepth 100000 in
set_option maxHeartbeats 1600000 in
theorem text_any {b : Nat} {l : List Nat} {s : ByteArray} {w : World} (h : IsW w b l) (hr : l.length + s.size ≤ 256) (hr2 : l.length < 256) :
    Calls Tryd.prog 51 #[pt b, .string s] w fun e w' => e = .returned (.tuple #[]) ∧ IsW w' b (l ++ strBytes s) ∧ Upd [b] w w' := by
  obtain ⟨⟨cs, hb, hsz, hc, ha⟩, hok⟩ := h
  have hpl := strBytes_len s
  obtain ⟨hsz2, hc2, ha2⟩ := splice_put (p := strBytes s) hsz hc ha (by omega)
  have hat : w.cell? ⟨b, 256, none⟩ = some (.int .i64 (l.length : Nat)) := by rw [(cells_of hb).1]; exact ha
  obtain ⟨w2, hrun, hb2, hu2, _⟩ := copy_cells (P := Tryd.prog) w.drew 27 9 3 5 b l.length (256 - l.length) (256 - l.length) (.string s) cs _ (u8s (strBytes s)) Tryd.underlying27 infoU8 hb
    (.inl ⟨s, rfl, u8s_str s⟩) (by rw [u8s_len, hpl]; omega) (by rw [u8s_len, hpl]; omega) (u8s_one _)
  rw [u8s_len, hpl] at hrun
  have hat2 : w2.cell? ⟨b, 256, none⟩ = some (.int .i64 (l.length : Nat)) := by rw [(cells_of hb2).1]; exact ha2
  have hz2 := (cells_of hb2).2 256
  have HB2 := Lib.hid hb2
  have HU2 := Lib.hid (show Upd [b] w w2 from ⟨hu2.os, hu2.tape, hu2.output, hu2.size, hu2.block⟩)
  have HC2 := Lib.hid hc2
  have HSZ := Lib.hid hsz2
  have HPL := Lib.hid hpl
  have HA2 := Lib.hid ha2
  have hsl := fun w => run_arr_from (P := Tryd.prog) w Tryd.underlying105 infoU8 b 0 .i64 (l.length : Nat) (by omega) (by omega)
  simp only [Int.toNat_natCast, Nat.zero_add] at hsl
  clear hb hsz hc ha hsz2 hc2 ha2 hb2 hu2 hpl
  go_enter Tryd.func51, Tryd.ntmps51
  go_wp2
  go_region
  go_wp2
  go_end0
  have hu : Upd [b] w2 (w2.setCell ⟨b, 256, none⟩ (.int .i64 ((l.length : Int) + (s.size : Int)))) := (Upd.refl _ _).setCell (.inl (by simp)) _
  refine ⟨rfl, ⟨⟨_, heap_setCell_same w2 b 256 _ _ _ HB2.out, by simpa using HSZ.out, fun i hi => ?_, ?_⟩, hok.append (strBytes_ok s)⟩, HU2.out.trans hu⟩ <;> rw [Array.getElem?_setIfInBounds]
  · rw [if_neg (by omega)]; exact HC2.out i hi
  · rw [if_pos rfl, if_pos (by rw [HSZ.out]; decide), List.length_append, HPL.out]; simp

/-- The four bytes of a sum, the lowest first. -/
def le4 (s : Nat) : List Nat := [s % 256, s / 256 % 256, s / 65536 % 256, s / 16777216 % 256]
theorem le4_ok (s : Nat) : BytesOk (le4 s) := fun x hx => by
  simp only [le4, List.mem_cons, List.not_mem_nil, or_false] at hx
  omega
theorem build4 (a b c d : Int) : ∀ w, (Instr.build 124 #[(0, .int .u8 a), (1, .int .u8 b), (2, .int .u8 c), (3, .int .u8 d)]).run Tryd.prog w = .ok (.agg #[.int .u8 a, .int .u8 b, .int .u8 c, .int .u8 d]) w := fun w => by kernel_rfl
set_option maxRecDepth 100000 in
set_option maxHeartbeats 1600000 in
theorem tsum_any {t : Nat} {w : World} {a : Option Addr} {l : List Nat} {cap : Nat} (h : TabOk w t) (hb : IsBytes w a l) (hsep : ∀ b o, a = some ⟨b, o, none⟩ → b ≠ t) (hl : l.length ≤ 9223372036854775807) :
    Calls Tryd.prog 72 #[pt t, .slice a l.length cap] w fun e w' => e = .returned (.int .u32 (crc l)) ∧ IsTab w' t 1 0 tword ∧ Upd [t] w w' := by
  have H := Lib.hid h
  have HB := Lib.hid hb
  have HS := Lib.hid hsep
  clear h hb hsep
  go_enter Tryd.func72, Tryd.ntmps72
  go_wp2_with (go_at_call 81; refine (more_any H.out HB.out HS.out hl).mono ?_; rintro e w1 ⟨rfl, h1, u1⟩; have H1 := Lib.hid h1; have U1 := Lib.hid u1; clear h1 u1)
  go_ret
  exact ⟨rfl, H1.out, U1.out⟩
set_option maxRecDepth 100000 in
set_option maxHeartbeats 1600000 in
theorem sum_any {t : Nat} {w : World} {a : Option Addr} {l : List Nat} {cap : Nat} (h : TabOk w t) (hb : IsBytes w a l) (hsep : ∀ b o, a = some ⟨b, o, none⟩ → b ≠ t) (hl : l.length ≤ 9223372036854775807) :
    Calls Tryd.prog 62 #[pt t, .slice a l.length cap] w fun e w' => e = .returned (.agg (u8s (le4 (crc l))).toArray) ∧ IsTab w' t 1 0 tword ∧ Upd [t] w w' := by
  have hlt := h.lt
  have H : Hid (∀ o, TabOk (w.alloc o) t) := fun o => h.upd ((Upd.refl [] _).alloc o) (by simp)
  have HB : Hid (∀ o, IsBytes (w.alloc o) a l) := fun o => ⟨hb.1, fun i hi => by
    obtain ⟨b, o', ha, hc⟩ := hb.2 i hi
    exact ⟨b, o', ha, by rw [← hc]; exact World.cell?_alloc_lt _ _ _ (World.block_lt_of_cell? _ _ hc)⟩⟩
  have HS := Lib.hid hsep
  clear h hb hsep
  have hx0 := fun o => heap_alloc_new w o
  have HX := Lib.hid hx0
  clear hx0
  go_enter Tryd.func62, Tryd.ntmps62
  go_wp2_with fail
  refine (tsum_any (H.out _) (HB.out _) HS.out hl).mono ?_
  rintro e w1 ⟨rfl, h1, u1⟩
  have hx := u1.get (HX.out _) (by simp; omega)
  have H1 := Lib.hid h1
  have U1 := Lib.hid (((Upd.refl [t] w).alloc _).trans u1)
  have hsz := u1.size
  have hcr : crc l < 4294967296 := crc_lt (HB.out (.map #[] 0)).1
  obtain ⟨k1, k2⟩ := cells_of hx
  have k10 := k1 0; have k11 := k1 1; have k12 := k1 2; have k13 := k1 3
  have k20 := k2 0; have k21 := k2 1; have k22 := k2 2; have k23 := k2 3
  simp at k10 k11 k12 k13
  have HXB := Lib.hid hx
  have HCR := Lib.hid hcr
  clear h1 u1 hx k1 k2 hcr
  generalize hcc : crc l = c at *
  have HCC := Lib.hid hcc
  clear hcc
  go_wp2
  have g0 := heap_setCell_same w1 w.heap.size 0 _ _ (.int .u8 ((c : Int) % 256)) HXB.out
  have g1 := heap_setCell_same _ w.heap.size 1 _ _ (.int .u8 ((c : Int) / 256 % 256)) g0
  have g2 := heap_setCell_same _ w.heap.size 2 _ _ (.int .u8 ((c : Int) / 65536 % 256)) g1
  have g3 := heap_setCell_same _ w.heap.size 3 _ _ (.int .u8 ((c : Int) / 16777216 % 256)) g2
  have hu : Upd [t] w ((((w1.setCell ⟨w.heap.size, 0, none⟩ (.int .u8 ((c : Int) % 256))).setCell ⟨w.heap.size, 1, none⟩ (.int .u8 ((c : Int) / 256 % 256))).setCell ⟨w.heap.size, 2, none⟩ (.int .u8 ((c : Int) / 65536 % 256))).setCell ⟨w.heap.size, 3, none⟩ (.int .u8 ((c : Int) / 16777216 % 256))) :=
    (((U1.out.setCell (.inr (Nat.le_refl _)) _).setCell (.inr (Nat.le_refl _)) _).setCell (.inr (Nat.le_refl _)) _).setCell (.inr (Nat.le_refl _)) _
  have hu1 : Upd [w.heap.size] w1 ((((w1.setCell ⟨w.heap.size, 0, none⟩ (.int .u8 ((c : Int) % 256))).setCell ⟨w.heap.size, 1, none⟩ (.int .u8 ((c : Int) / 256 % 256))).setCell ⟨w.heap.size, 2, none⟩ (.int .u8 ((c : Int) / 65536 % 256))).setCell ⟨w.heap.size, 3, none⟩ (.int .u8 ((c : Int) / 16777216 % 256))) :=
    ((((Upd.refl _ _).setCell (.inl (by simp)) _).setCell (.inl (by simp)) _).setCell (.inl (by simp)) _).setCell (.inl (by simp)) _
  refine bodyPost_ret (v := .agg #[.int .u8 ((c : Int) % 256), .int .u8 ((c : Int) / 256 % 256), .int .u8 ((c : Int) / 65536 % 256), .int .u8 ((c : Int) / 16777216 % 256)])
    (results_cell_row Tryd.results62 _ _ w.heap.size 124 _ (0, 0) _ rfl g3 Tryd.underlying124 rfl (by kernel_rfl)) rfl ⟨?_, H1.out.upd hu1 (by simp; omega), hu⟩
  rw [HCC.out]
  simp [u8s, le4]
end Go.Proofs.YtkahpkmofeglgaaDoor
