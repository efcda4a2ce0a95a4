/-
  PROVED HERE: what package codec's writer does to its block: numbers and texts are put behind what was put; a sector and a body come of it. Conditions: the writer's block is its own; what is put has room.
  PROVED HERE: a text is put; a sector and a body come of a writer; the four bytes of a sum. Conditions: the writer's block is its own; what is put has room.
-/
import Derived.Test.YtpnpjffhkaejgaaDoorSum
import Derived.Test.YtpnpjffhkaejgaaDoorNum
import Derived.Laws.CopyOwn
namespace Go.Proofs.YtpnpjffhkaejgaaDoor
open Go.RowKit

def BytesOk (l : List Nat) : Prop := ∀ b ∈ l, b < 256
theorem BytesOk.append {a b : List Nat} (ha : BytesOk a) (hb : BytesOk b) : BytesOk (a ++ b) := fun x hx => by
  rcases List.mem_append.1 hx with h | h
  · exact ha x h
  · exact hb x h
theorem BytesOk.zeros (n : Nat) : BytesOk (List.replicate n 0) := fun x hx => by
  rw [List.eq_of_mem_replicate hx]; decide
theorem BytesOk.be (n k : Nat) : BytesOk (be n k) := be_lt n k
theorem BytesOk.nil : BytesOk [] := fun x hx => by cases hx
theorem BytesOk.take {l : List Nat} (h : BytesOk l) (n : Nat) : BytesOk (l.take n) := fun x hx => h x (List.mem_of_mem_take hx)
theorem BytesOk.drop {l : List Nat} (h : BytesOk l) (n : Nat) : BytesOk (l.drop n) := fun x hx => h x (List.mem_of_mem_drop hx)
/-- Noughts behind, up to n bytes. -/
def pad (l : List Nat) (n : Nat) : List Nat := l ++ List.replicate (n - l.length) 0
theorem pad_len {l : List Nat} {n : Nat} (h : l.length ≤ n) : (pad l n).length = n := by simp [pad]; omega
theorem pad_getD (l : List Nat) (n i : Nat) : (pad l n).getD i 0 = l.getD i 0 := by
  unfold pad
  simp only [List.getD_eq_getElem?_getD, List.getElem?_append]
  split
  · rfl
  · rw [List.getElem?_eq_none (l := l) (by omega), List.getElem?_replicate]
    split <;> rfl
theorem BytesOk.pad {l : List Nat} (h : BytesOk l) (n : Nat) : BytesOk (pad l n) := h.append (BytesOk.zeros _)
theorem getD_lt {l : List Nat} (h : BytesOk l) (i : Nat) : l.getD i 0 < 256 := by
  rw [List.getD_eq_getElem?_getD]
  cases hi : l[i]? with
  | none => decide
  | some x => exact h x (List.mem_of_getElem? hi)

/-- Block b is a writer in which the bytes l were put. -/
structure IsW (w : World) (b : Nat) (l : List Nat) : Prop where
  blk : ∃ cs, w.heap[b]? = some (.cells cs 85 (0, 0)) ∧ cs.size = 257 ∧ (∀ i, i < 256 → cs[i]? = some (.int .u8 (l.getD i 0 : Nat))) ∧ cs[256]? = some (.int .i64 (l.length : Nat))
  ok : BytesOk l
theorem IsW.upd {w w' : World} {b : Nat} {l : List Nat} {S : List Nat} (h : IsW w b l) (u : Upd S w w') (hs : b ∉ S) : IsW w' b l := by
  obtain ⟨⟨cs, hb, r⟩, ok⟩ := h; exact ⟨⟨cs, u.get hb hs, r⟩, ok⟩
theorem IsW.lt {w : World} {b : Nat} {l : List Nat} (h : IsW w b l) : b < w.heap.size := by
  obtain ⟨⟨cs, hb, _⟩, _⟩ := h; exact lt_of_block hb
theorem IsW.at {w : World} {b : Nat} {l : List Nat} (h : IsW w b l) : w.cell? ⟨b, 256, none⟩ = some (.int .i64 (l.length : Nat)) := by
  obtain ⟨⟨cs, hb, _, _, h0⟩, _⟩ := h; rw [(cells_of hb).1]; exact h0
theorem IsW.ci {w : World} {b : Nat} {l : List Nat} (h : IsW w b l) {i : Nat} (hi : i < 256) : w.cell? ⟨b, i, none⟩ = some (.int .u8 (l.getD i 0 : Nat)) := by
  obtain ⟨⟨cs, hb, _, h0, _⟩, _⟩ := h; rw [(cells_of hb).1]; exact h0 i hi
theorem IsW.fz {w : World} {b : Nat} {l : List Nat} (h : IsW w b l) (i : Nat) : w.frozen? ⟨b, i, none⟩ = false := by
  obtain ⟨⟨cs, hb, _⟩, _⟩ := h; exact (cells_of hb).2 i

/-- Half way through putting bytes p behind l: k of them lie there; the place has not moved. -/
structure IsWk (w : World) (b : Nat) (l p : List Nat) (k : Nat) : Prop where
  blk : ∃ cs, w.heap[b]? = some (.cells cs 85 (0, 0)) ∧ cs.size = 257 ∧ (∀ i, i < 256 → cs[i]? = some (.int .u8 ((l ++ p.take k).getD i 0 : Nat))) ∧ cs[256]? = some (.int .i64 (l.length : Nat))
theorem IsWk.drew {w : World} {b : Nat} {l p : List Nat} {k : Nat} (h : IsWk w b l p k) : IsWk w.drew b l p k := ⟨h.blk⟩
theorem IsW.drew {w : World} {b : Nat} {l : List Nat} (h : IsW w b l) : IsW w.drew b l := ⟨h.blk, h.ok⟩
theorem getD_put (l p : List Nat) (k : Nat) (hk : k < p.length) (i : Nat) : (l ++ p.take (k + 1)).getD i 0 = if i = l.length + k then p[k] else (l ++ p.take k).getD i 0 := by
  simp only [List.getD_eq_getElem?_getD, List.getElem?_append]
  by_cases h1 : i < l.length
  · rw [if_pos h1, if_neg (by omega), if_pos h1]
  · rw [if_neg h1, if_neg h1]
    by_cases h2 : i = l.length + k
    · subst h2
      rw [if_pos rfl, show l.length + k - l.length = k by omega, List.getElem?_take_of_lt (by omega), List.getElem?_eq_getElem hk]; rfl
    · rw [if_neg h2]
      by_cases h3 : i - l.length < k
      · rw [List.getElem?_take_of_lt (by omega), List.getElem?_take_of_lt h3]
      · rw [List.getElem?_eq_none (by rw [List.length_take]; omega), List.getElem?_eq_none (by rw [List.length_take]; omega)]
theorem IsWk.step {w : World} {b : Nat} {l p : List Nat} {k : Nat} (h : IsWk w b l p k) (hk : k < p.length) (hr : l.length + p.length ≤ 256) : IsWk (w.setCell ⟨b, l.length + k, none⟩ (.int .u8 (p[k] : Nat))) b l p (k + 1) := by
  obtain ⟨cs, hb, hs, hc, ha⟩ := h.blk
  refine ⟨_, heap_setCell_same w b _ cs _ _ hb, by simpa using hs, fun i hi => ?_, ?_⟩ <;> rw [Array.getElem?_setIfInBounds]
  · rw [getD_put l p k hk]
    by_cases e : i = l.length + k
    · subst e; rw [if_pos rfl, if_pos (by omega), if_pos rfl]
    · rw [if_neg (Ne.symm e), if_neg e]; exact hc i hi
  · rw [if_neg (by omega)]; exact ha
theorem IsWk.done {w : World} {b : Nat} {l p : List Nat} (h : IsWk w b l p p.length) (hl : BytesOk l) (hp : BytesOk p) : IsW (w.setCell ⟨b, 256, none⟩ (.int .i64 (((l.length : Nat) : Int) + (p.length : Nat)))) b (l ++ p) := by
  obtain ⟨cs, hb, hs, hc, ha⟩ := h.blk
  rw [List.take_length] at hc
  refine ⟨⟨_, heap_setCell_same w b 256 cs _ _ hb, by simpa using hs, fun i hi => ?_, ?_⟩, hl.append hp⟩ <;> rw [Array.getElem?_setIfInBounds]
  · rw [if_neg (by omega)]; exact hc i hi
  · rw [if_pos rfl, if_pos (by omega), List.length_append]; simp
theorem IsWk.at {w : World} {b : Nat} {l p : List Nat} {k : Nat} (h : IsWk w b l p k) : w.cell? ⟨b, 256, none⟩ = some (.int .i64 (l.length : Nat)) := by
  obtain ⟨cs, hb, _, _, h0⟩ := h.blk; rw [(cells_of hb).1]; exact h0
theorem IsWk.ci {w : World} {b : Nat} {l p : List Nat} {k : Nat} (h : IsWk w b l p k) {i : Nat} (hi : i < 256) : w.cell? ⟨b, i, none⟩ = some (.int .u8 ((l ++ p.take k).getD i 0 : Nat)) := by
  obtain ⟨cs, hb, _, h0, _⟩ := h.blk; rw [(cells_of hb).1]; exact h0 i hi
theorem IsWk.fz {w : World} {b : Nat} {l p : List Nat} {k : Nat} (h : IsWk w b l p k) (i : Nat) : w.frozen? ⟨b, i, none⟩ = false := by
  obtain ⟨cs, hb, _⟩ := h.blk; exact (cells_of hb).2 i
theorem IsW.begin {w : World} {b : Nat} {l : List Nat} (h : IsW w b l) (p : List Nat) : IsWk w b l p 0 := by
  obtain ⟨⟨cs, hb, hs, hc, ha⟩, _⟩ := h
  exact ⟨cs, hb, hs, by simpa using hc, ha⟩
theorem byte_of (n k i : Nat) (_hk : k ≤ 8) (_hi : i < k) : (n : Int) / 2 ^ (8 * (k - 1 - i)) % 256 = ((n / 256 ^ (k - 1 - i) % 256 : Nat) : Int) := by
  have : (2 : Nat) ^ (8 * (k - 1 - i)) = 256 ^ (k - 1 - i) := by rw [Nat.pow_mul]
  rw [← this]
  simp

set_option maxRecDepth 100000 in
set_option maxHeartbeats 1600000 in
theorem put_any {b n k : Nat} {l : List Nat} {w : World} (h : IsW w b l) (hk : k ≤ 8) (_hn : n < 9223372036854775808) (hr : l.length + k ≤ 256) :
    Calls Tryd.prog 34 #[pt b, .int .i64 n, .int .i64 k] w fun e w' => e = .returned (.tuple #[]) ∧ IsW w' b (l ++ be n k) ∧ Upd [b] w w' := by
  have hlen := be_len n k
  have hok := h.ok
  have HOk := Lib.hid hok
  have HL := Lib.hid hlen
  have H0 := Lib.hid (h.begin (be n k))
  clear h hok hlen
  go_enter Tryd.func34, Tryd.ntmps34
  go_wp2
  go_loopw [8] (fun i wr => ∃ j : Nat, j ≤ k ∧ i = .int .i64 j ∧ IsWk wr b l (be n k) j ∧ Upd [b] w wr) (fun i _ => k - (intOf i).toNat)
  case atStart => exact ⟨0, by omega, rfl, H0.out, Upd.refl _ _⟩
  case round =>
    obtain ⟨j, hj, rfl, hW, hU⟩ := hrel
    have HW := Lib.hid hW
    have HU := Lib.hid hU
    have ha := hW.at
    clear hU
    by_cases hlt : j < k
    · have hc := hW.ci (i := l.length + j) (by omega)
      have hz := hW.fz (l.length + j)
      clear hW
      go_wp2
      go_region
      go_wp2
      go_roundw
      case rel =>
        have hgp : j < (be n k).length := by rw [HL.out]; exact hlt
        have hge : (be n k)[j] = n / 256 ^ (k - 1 - j) % 256 := by
          have := be_get n k j hlt
          rw [List.getElem?_eq_getElem hgp] at this
          simpa using this
        have hst := HW.out.step hgp (by rw [HL.out]; exact hr)
        rw [hge] at hst
        have hb := byte_of n k j hk hlt
        rw [hb]
        exact ⟨j + 1, by omega, by go_num, hst.drew, (HU.out.setCell (.inl (by simp)) _).drew⟩
      case measure => simp [intOf]; omega
    · obtain rfl : j = k := by omega
      have hz := hW.fz 256
      clear hW
      go_wp2
      go_end0
      have hd : IsWk wr b l (be n j) (be n j).length := by rw [HL.out]; exact HW.out
      have hfin := hd.done HOk.out (BytesOk.be n j)
      rw [HL.out] at hfin
      exact ⟨rfl, hfin, HU.out.setCell (.inl (by simp)) _⟩
end Go.Proofs.YtpnpjffhkaejgaaDoor
namespace Go.Proofs.YtpnpjffhkaejgaaDoor
open Go.RowKit

def strBytes (s : ByteArray) : List Nat := s.data.toList.map UInt8.toNat
theorem strBytes_ok (s : ByteArray) : BytesOk (strBytes s) := fun x hx => by
  obtain ⟨b, _, rfl⟩ := List.mem_map.1 hx
  exact b.toNat_lt
theorem strBytes_len (s : ByteArray) : (strBytes s).length = s.size := by simp [strBytes]
theorem infoU8 : (Tryd.prog.info? 5).map (·.size) = some 1 := by kernel_rfl
def u8s (p : List Nat) : List Value := p.map fun x : Nat => Value.int .u8 (x : Int)
theorem u8s_len (p : List Nat) : (u8s p).length = p.length := by simp [u8s]
theorem u8s_get (p : List Nat) (i : Nat) : (u8s p)[i]? = p[i]?.map fun x : Nat => Value.int .u8 (x : Int) := by simp [u8s]
theorem u8s_one (p : List Nat) : ∀ v ∈ u8s p, v.oneCell' = true := fun v hv => by
  obtain ⟨x, _, rfl⟩ := List.mem_map.1 hv; rfl
theorem u8s_str (s : ByteArray) : u8s (strBytes s) = s.data.toList.map fun b => Value.int .u8 b.toNat := by simp [u8s, strBytes]
/-- A writer's cells with some bytes more laid behind those that were put. -/
theorem splice_put {cs : Array Value} {l p : List Nat} (hs : cs.size = 257) (hc : ∀ i, i < 256 → cs[i]? = some (.int .u8 (l.getD i 0 : Nat))) (ha : cs[256]? = some (.int .i64 (l.length : Nat))) (hr : l.length + p.length ≤ 256) :
    (splice cs l.length (u8s p)).size = 257 ∧ (∀ i, i < 256 → (splice cs l.length (u8s p))[i]? = some (.int .u8 ((l ++ p).getD i 0 : Nat))) ∧ (splice cs l.length (u8s p))[256]? = some (.int .i64 (l.length : Nat)) := by
  have hle : l.length + (u8s p).length ≤ cs.size := by rw [u8s_len]; omega
  refine ⟨by rw [splice_size _ _ _ hle, hs], fun i hi => ?_, ?_⟩ <;> rw [splice_get _ _ _ hle, u8s_len]
  · simp only [List.getD_eq_getElem?_getD, List.getElem?_append]
    by_cases h : l.length ≤ i ∧ i < l.length + p.length
    · rw [if_pos h, if_neg (by omega), u8s_get, List.getElem?_eq_getElem (by omega)]; rfl
    · rw [if_neg h, hc i hi, List.getD_eq_getElem?_getD]
      by_cases h2 : i < l.length
      · rw [if_pos h2]
      · rw [if_neg h2, List.getElem?_eq_none (by omega), List.getElem?_eq_none (by omega)]
  · rw [if_neg (by omega)]; exact ha
set_option maxRecDepth 100000 in
set_option maxHeartbeats 1600000 in
theorem text_any {b : Nat} {l : List Nat} {s : ByteArray} {w : World} (h : IsW w b l) (hr : l.length + s.size ≤ 256) (hr2 : l.length < 256) :
    Calls Tryd.prog 32 #[pt b, .string s] w fun e w' => e = .returned (.tuple #[]) ∧ IsW w' b (l ++ strBytes s) ∧ Upd [b] w w' := by
  obtain ⟨⟨cs, hb, hsz, hc, ha⟩, hok⟩ := h
  have hpl := strBytes_len s
  obtain ⟨hsz2, hc2, ha2⟩ := splice_put (p := strBytes s) hsz hc ha (by omega)
  have hat : w.cell? ⟨b, 256, none⟩ = some (.int .i64 (l.length : Nat)) := by rw [(cells_of hb).1]; exact ha
  obtain ⟨w2, hrun, hb2, hu2, _⟩ := copy_cells (P := Tryd.prog) w.drew 39 9 3 5 b l.length (256 - l.length) (256 - l.length) (.string s) cs _ (u8s (strBytes s)) Tryd.underlying39 infoU8 hb
    (.inl ⟨s, rfl, u8s_str s⟩) (by rw [u8s_len, hpl]; omega) (by rw [u8s_len, hpl]; omega) (u8s_one _)
  rw [u8s_len, hpl] at hrun
  have hat2 : w2.cell? ⟨b, 256, none⟩ = some (.int .i64 (l.length : Nat)) := by rw [(cells_of hb2).1]; exact ha2
  have hz2 := (cells_of hb2).2 256
  have HB2 := Lib.hid hb2
  have HU2 := Lib.hid (show Upd [b] w w2 from ⟨hu2.os, hu2.tape, hu2.output, hu2.size, hu2.block⟩)
  have HC2 := Lib.hid hc2
  have HSZ := Lib.hid hsz2
  have HPL := Lib.hid hpl
  have HA2 := Lib.hid ha2
  have hsl := fun w => run_arr_from (P := Tryd.prog) w Tryd.underlying83 infoU8 b 0 .i64 (l.length : Nat) (by omega) (by omega)
  simp only [Int.toNat_natCast, Nat.zero_add] at hsl
  clear hb hsz hc ha hsz2 hc2 ha2 hb2 hu2 hpl
  go_enter Tryd.func32, Tryd.ntmps32
  go_wp2
  go_region
  go_wp2
  go_end0
  have hu : Upd [b] w2 (w2.setCell ⟨b, 256, none⟩ (.int .i64 ((l.length : Int) + (s.size : Int)))) := (Upd.refl _ _).setCell (.inl (by simp)) _
  refine ⟨rfl, ⟨⟨_, heap_setCell_same w2 b 256 _ _ _ HB2.out, by simpa using HSZ.out, fun i hi => ?_, ?_⟩, hok.append (strBytes_ok s)⟩, HU2.out.trans hu⟩ <;> rw [Array.getElem?_setIfInBounds]
  · rw [if_neg (by omega)]; exact HC2.out i hi
  · rw [if_pos rfl, if_pos (by rw [HSZ.out]; decide), List.length_append, HPL.out]; simp

/-- The four bytes of a sum, the lowest first. -/
def le4 (s : Nat) : List Nat := [s % 256, s / 256 % 256, s / 65536 % 256, s / 16777216 % 256]
theorem le4_ok (s : Nat) : BytesOk (le4 s) := fun x hx => by
  simp only [le4, List.mem_cons, List.not_mem_nil, or_false] at hx
  omega
theorem build4 (a b c d : Int) : ∀ w, (Instr.build 104 #[(0, .int .u8 a), (1, .int .u8 b), (2, .int .u8 c), (3, .int .u8 d)]).run Tryd.prog w = .ok (.agg #[.int .u8 a, .int .u8 b, .int .u8 c, .int .u8 d]) w := fun w => by kernel_rfl
set_option maxRecDepth 100000 in
set_option maxHeartbeats 1600000 in
theorem tsum_any {t : Nat} {w : World} {a : Option Addr} {l : List Nat} {cap : Nat} (h : TabOk w t) (hb : IsBytes w a l) (hsep : ∀ b o, a = some ⟨b, o, none⟩ → b ≠ t) (hl : l.length ≤ 9223372036854775807) :
    Calls Tryd.prog 50 #[pt t, .slice a l.length cap] w fun e w' => e = .returned (.int .u32 (crc l)) ∧ IsTab w' t 1 0 tword ∧ Upd [t] w w' := by
  have H := Lib.hid h
  have HB := Lib.hid hb
  have HS := Lib.hid hsep
  clear h hb hsep
  go_enter Tryd.func50, Tryd.ntmps50
  go_wp2_with (go_at_call 62; refine (more_any H.out HB.out HS.out hl).mono ?_; rintro e w1 ⟨rfl, h1, u1⟩; have H1 := Lib.hid h1; have U1 := Lib.hid u1; clear h1 u1)
  go_ret
  exact ⟨rfl, H1.out, U1.out⟩
set_option maxRecDepth 100000 in
set_option maxHeartbeats 1600000 in
theorem sum_any {t : Nat} {w : World} {a : Option Addr} {l : List Nat} {cap : Nat} (h : TabOk w t) (hb : IsBytes w a l) (hsep : ∀ b o, a = some ⟨b, o, none⟩ → b ≠ t) (hl : l.length ≤ 9223372036854775807) :
    Calls Tryd.prog 44 #[pt t, .slice a l.length cap] w fun e w' => e = .returned (.agg (u8s (le4 (crc l))).toArray) ∧ IsTab w' t 1 0 tword ∧ Upd [t] w w' := by
  have hlt := h.lt
  have H : Hid (∀ o, TabOk (w.alloc o) t) := fun o => h.upd ((Upd.refl [] _).alloc o) (by simp)
  have HB : Hid (∀ o, IsBytes (w.alloc o) a l) := fun o => ⟨hb.1, fun i hi => by
    obtain ⟨b, o', ha, hc⟩ := hb.2 i hi
    exact ⟨b, o', ha, by rw [← hc]; exact World.cell?_alloc_lt _ _ _ (World.block_lt_of_cell? _ _ hc)⟩⟩
  have HS := Lib.hid hsep
  clear h hb hsep
  have hx0 := fun o => heap_alloc_new w o
  have HX := Lib.hid hx0
  clear hx0
  go_enter Tryd.func44, Tryd.ntmps44
  go_wp2_with fail
  refine (tsum_any (H.out _) (HB.out _) HS.out hl).mono ?_
  rintro e w1 ⟨rfl, h1, u1⟩
  have hx := u1.get (HX.out _) (by simp; omega)
  have H1 := Lib.hid h1
  have U1 := Lib.hid (((Upd.refl [t] w).alloc _).trans u1)
  have hsz := u1.size
  have hcr : crc l < 4294967296 := crc_lt (HB.out (.map #[] 0)).1
  obtain ⟨k1, k2⟩ := cells_of hx
  have k10 := k1 0; have k11 := k1 1; have k12 := k1 2; have k13 := k1 3
  have k20 := k2 0; have k21 := k2 1; have k22 := k2 2; have k23 := k2 3
  simp at k10 k11 k12 k13
  have HXB := Lib.hid hx
  have HCR := Lib.hid hcr
  clear h1 u1 hx k1 k2 hcr
  generalize hcc : crc l = c at *
  have HCC := Lib.hid hcc
  clear hcc
  go_wp2
  have g0 := heap_setCell_same w1 w.heap.size 0 _ _ (.int .u8 ((c : Int) % 256)) HXB.out
  have g1 := heap_setCell_same _ w.heap.size 1 _ _ (.int .u8 ((c : Int) / 256 % 256)) g0
  have g2 := heap_setCell_same _ w.heap.size 2 _ _ (.int .u8 ((c : Int) / 65536 % 256)) g1
  have g3 := heap_setCell_same _ w.heap.size 3 _ _ (.int .u8 ((c : Int) / 16777216 % 256)) g2
  have hu : Upd [t] w ((((w1.setCell ⟨w.heap.size, 0, none⟩ (.int .u8 ((c : Int) % 256))).setCell ⟨w.heap.size, 1, none⟩ (.int .u8 ((c : Int) / 256 % 256))).setCell ⟨w.heap.size, 2, none⟩ (.int .u8 ((c : Int) / 65536 % 256))).setCell ⟨w.heap.size, 3, none⟩ (.int .u8 ((c : Int) / 16777216 % 256))) :=
    (((U1.out.setCell (.inr (Nat.le_refl _)) _).setCell (.inr (Nat.le_refl _)) _).setCell (.inr (Nat.le_refl _)) _).setCell (.inr (Nat.le_refl _)) _
  have hu1 : Upd [w.heap.size] w1 ((((w1.setCell ⟨w.heap.size, 0, none⟩ (.int .u8 ((c : Int) % 256))).setCell ⟨w.heap.size, 1, none⟩ (.int .u8 ((c : Int) / 256 % 256))).setCell ⟨w.heap.size, 2, none⟩ (.int .u8 ((c : Int) / 65536 % 256))).setCell ⟨w.heap.size, 3, none⟩ (.int .u8 ((c : Int) / 16777216 % 256))) :=
    ((((Upd.refl _ _).setCell (.inl (by simp)) _).setCell (.inl (by simp)) _).setCell (.inl (by simp)) _).setCell (.inl (by simp)) _
  refine bodyPost_ret (v := .agg #[.int .u8 ((c : Int) % 256), .int .u8 ((c : Int) / 256 % 256), .int .u8 ((c : Int) / 65536 % 256), .int .u8 ((c : Int) / 16777216 % 256)])
    (results_cell_row Tryd.results44 _ _ w.heap.size 104 _ (0, 0) _ rfl g3 Tryd.underlying104 rfl (by kernel_rfl)) rfl ⟨?_, H1.out.upd hu1 (by simp; omega), hu⟩
  rw [HCC.out]
  simp [u8s, le4]
end Go.Proofs.YtpnpjffhkaejgaaDoor
