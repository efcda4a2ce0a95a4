/-
  PROVED HERE: what package codec's writer does to its block: numbers and texts are put behind what was put; a sector and a body come of it. Conditions: the writer's block is its own; what is put has room.
  PROVED HERE: a text is put; a sector and a body come of a writer; the four bytes of a sum. Conditions: the writer's block is its own; what is put has room.
-/
import Derived.Test.YtgmabhfffgnjjaaSum
import Derived.Test.YtgmabhfffgnjjaaNum
import Derived.Laws.CopyOwn
namespace Go.Proofs.Ytgmabhfffgnjjaa
open Go.RowKit

def BytesOk (l : List Nat) : Prop := ∀ b ∈ l, b < 256
theorem BytesOk.append {a b : List Nat} (ha : BytesOk a) (hb : BytesOk b) : BytesOk (a ++ b) := fun x hx => by
  rcases List.mem_append.1 hx with h | h
  · exact ha x h
  · exact hb x h
theorem BytesOk.zeros (n : Nat) : BytesOk (List.replicate n 0) := fun x hx => by
  rw [List.eq_of_mem_replicate hx]; decide
theorem BytesOk.be (n k : Nat) : BytesOk (be n k) := be_lt n k
theorem BytesOk.nil : BytesOk [] := fun x hx => by cases hx
theorem BytesOk.take {l : List Nat} (h : BytesOk l) (n : Nat) : BytesOk (l.take n) := fun x hx => h x (List.mem_of_mem_take hx)
theorem BytesOk.drop {l : List Nat} (h : BytesOk l) (n : Nat) : BytesOk (l.drop n) := fun x hx => h x (List.mem_of_mem_drop hx)
/-- Noughts behind, up to n bytes. -/
def pad (l : List Nat) (n : Nat) : List Nat := l ++ List.replicate (n - l.length) 0
theorem pad_len {l : List Nat} {n : Nat} (h : l.length ≤ n) : (pad l n).length = n := by simp [pad]; omega
theorem pad_getD (l : List Nat) (n i : Nat) : (pad l n).getD i 0 = l.getD i 0 := by
  unfold pad
  simp only [List.getD_eq_getElem?_getD, List.getElem?_append]
  split
  · rfl
  · rw [List.getElem?_eq_none (l := l) (by omega), List.getElem?_replicate]
    split <;> rfl
theorem BytesOk.pad {l : List Nat} (h : BytesOk l) (n : Nat) : BytesOk (pad l n) := h.append (BytesOk.zeros _)
theorem getD_lt {l : List Nat} (h : BytesOk l) (i : Nat) : l.getD i 0 < 256 := by
  rw [List.getD_eq_getElem?_getD]
  cases hi : l[i]? with
  | none => decide
  | some x => exact h x (List.mem_of_getElem? hi)

/-- Block b is a writer in which the bytes l were put. -/
structure IsW (w : World) (b : Nat) (l : List Nat) : Prop where
  blk : ∃ cs, w.heap[b]? = some (.cells cs 65 (0, 0)) ∧ cs.size = 257 ∧ (∀ i, i < 256 → cs[i]? = some (.int .u8 (l.getD i 0 : Nat))) ∧ cs[256]? = some (.int .i64 (l.length : Nat))
  ok : BytesOk l
theorem IsW.upd {w w' : World} {b : Nat} {l : List Nat} {S : List Nat} (h : IsW w b l) (u : Upd S w w') (hs : b ∉ S) : IsW w' b l := by
  obtain ⟨⟨cs, hb, r⟩, ok⟩ := h; exact ⟨⟨cs, u.get hb hs, r⟩, ok⟩
theorem IsW.lt {w : World} {b : Nat} {l : List Nat} (h : IsW w b l) : b < w.heap.size := by
  obtain ⟨⟨cs, hb, _⟩, _⟩ := h; exact lt_of_block hb
theorem IsW.at {w : World} {b : Nat} {l : List Nat} (h : IsW w b l) : w.cell? ⟨b, 256, none⟩ = some (.int .i64 (l.length : Nat)) := by
  obtain ⟨⟨cs, hb, _, _, h0⟩, _⟩ := h; rw [(cells_of hb).1]; exact h0
theorem IsW.ci {w : World} {b : Nat} {l : List Nat} (h : IsW w b l) {i : Nat} (hi : i < 256) : w.cell? ⟨b, i, none⟩ = some (.int .u8 (l.getD i 0 : Nat)) := by
  obtain ⟨⟨cs, hb, _, h0, _⟩, _⟩ := h; rw [(cells_of hb).1]; exact h0 i hi
theorem IsW.fz {w : World} {b : Nat} {l : List Nat} (h : IsW w b l) (i : Nat) : w.frozen? ⟨b, i, none⟩ = false := by
  obtain ⟨⟨cs, hb, _⟩, _⟩ := h; exact (cells_of hb).2 i

/-- Half way through putting bytes p behind l: k of them lie there; the place has not moved. -/
structure IsWk (w : World) (b : Nat) (l p : List Nat) (k : Nat) : Prop where
  blk : ∃ cs, w.heap[b]? = some (.cells cs 65 (0, 0)) ∧ cs.size = 257 ∧ (∀ i, i < 256 → cs[i]? = some (.int .u8 ((l ++ p.take k).getD i 0 : Nat))) ∧ cs[256]? = some (.int .i64 (l.length : Nat))
theorem IsWk.drew {w : World} {b : Nat} {l p : List Nat} {k : Nat} (h : IsWk w b l p k) : IsWk w.drew b l p k := ⟨h.blk⟩
theorem IsW.drew {w : World} {b : Nat} {l : List Nat} (h : IsW w b l) : IsW w.drew b l := ⟨h.blk, h.ok⟩
theorem getD_put (l p : List Nat) (k : Nat) (hk : k < p.length) (i : Nat) : (l ++ p.take (k + 1)).getD i 0 = if i = l.length + k then p[k] else (l ++ p.take k).getD i 0 := by
  simp only [List.getD_eq_getElem?_getD, List.getElem?_append]
  by_cases h1 : i < l.length
  · rw [if_pos h1, if_neg (by omega), if_pos h1]
  · rw [if_neg h1, if_neg h1]
    by_cases h2 : i = l.length + k
    · subst h2
      rw [if_pos rfl, show l.length + k - l.length = k by omega, List.getElem?_take_of_lt (by omega), List.getElem?_eq_getElem hk]; rfl
    · rw [if_neg h2]
      by_cases h3 : i - l.length < k
      · rw [List.getElem?_take_of_lt (by omega), List.getElem?_take_of_lt h3]
      · rw [List.getElem?_eq_none (by rw [List.length_take]; omega), List.getElem?_eq_none (by rw [List.length_take]; omega)]
theorem IsWk.step {w : World} {b : Nat} {l p : List Nat} {k : Nat} (h : IsWk w b l p k) (hk : k < p.length) (hr : l.length + p.length ≤ 256) : IsWk (w.setCell ⟨b, l.length + k, none⟩ (.int .u8 (p[k] : Nat))) b l p (k + 1) := by
  obtain ⟨cs, hb, hs, hc, ha⟩ := h.blk
  refine ⟨_, heap_setCell_same w b _ cs _ _ hb, by simpa using hs, fun i hi => ?_, ?_⟩ <;> rw [Array.getElem?_setIfInBounds]
  · rw [getD_put l p k hk]
    by_cases e : i = l.length + k
    · subst e; rw [if_pos rfl, if_pos (by omega), if_pos rfl]
    · rw [if_neg (Ne.symm e), if_neg e]; exact hc i hi
  · rw [if_neg (by omega)]; exact ha
theorem IsWk.done {w : World} {b : Nat} {l p : List Nat} (h : IsWk w b l p p.length) (hl : BytesOk l) (hp : BytesOk p) : IsW (w.setCell ⟨b, 256, none⟩ (.int .i64 (((l.length : Nat) : Int) + (p.length : Nat)))) b (l ++ p) := by
  obtain ⟨cs, hb, hs, hc, ha⟩ := h.blk
  rw [List.take_length] at hc
  refine ⟨⟨_, heap_setCell_same w b 256 cs _ _ hb, by simpa using hs, fun i hi => ?_, ?_⟩, hl.append hp⟩ <;> rw [Array.getElem?_setIfInBounds]
  · rw [if_neg (by omega)]; exact hc i hi
  · rw [if_pos rfl, if_pos (by omega), List.length_append]; simp
theorem IsWk.at {w : World} {b : Nat} {l p : List Nat} {k : Nat} (h : IsWk w b l p k) : w.cell? ⟨b, 256, none⟩ = some (.int .i64 (l.length : Nat)) := by
  obtain ⟨cs, hb, _, _, h0⟩ := h.blk; rw [(cells_of hb).1]; exact h0
theorem IsWk.ci {w : World} {b : Nat} {l p : List Nat} {k : Nat} (h : IsWk w b l p k) {i : Nat} (hi : i < 256) : w.cell? ⟨b, i, none⟩ = some (.int .u8 ((l ++ p.take k).getD i 0 : Nat)) := by
  obtain ⟨cs, hb, _, h0, _⟩ := h.blk; rw [(cells_of hb).1]; exact h0 i hi
theorem IsWk.fz {w : World} {b : Nat} {l p : List Nat} {k : Nat} (h : IsWk w b l p k) (i : Nat) : w.frozen? ⟨b, i, none⟩ = false := by
  obtain ⟨cs, hb, _⟩ := h.blk; exact (cells_of hb).2 i
theorem IsW.begin {w : World} {b : Nat} {l : List Nat} (h : IsW w b l) (p : List Nat) : IsWk w b l p 0 := by
  obtain ⟨⟨cs, hb, hs, hc, ha⟩, _⟩ := h
  exact ⟨cs, hb, hs, by simpa using hc, ha⟩
theorem byte_of (n k i : Nat) (_hk : k ≤ 8) (_hi : i < k) : (n : Int) / 2 ^ (8 * (k - 1 - i)) % 256 = ((n / 256 ^ (k - 1 - i) % 256 : Nat) : Int) := by
  have : (2 : Nat) ^ (8 * (k - 1 - i)) = 256 ^ (k - 1 - i) := by rw [Nat.pow_mul]
  rw [← this]
  simp

set_option maxRecDepth 100000 in
set_option maxHeartbeats 1600000 in
theorem put_any {b n k : Nat} {l : List Nat} {w : World} (h : IsW w b l) (hk : k ≤ 8) (_hn : n < 9223372036854775808) (hr : l.length + k ≤ 256) :
    Calls Try.prog 40 #[pt b, .int .i64 n, .int .i64 k] w fun e w' => e = .returned (.tuple #[]) ∧ IsW w' b (l ++ be n k) ∧ Upd [b] w w' := by
  have hlen := be_len n k
  have hok := h.ok
  have HOk := Lib.hid hok
  have HL := Lib.hid hlen
  have H0 := Lib.hid (h.begin (be n k))
  clear h hok hlen
  go_enter Try.func40, Try.ntmps40
  go_wp2
  go_loopw [8] (fun i wr => ∃ j : Nat, j ≤ k ∧ i = .int .i64 j ∧ IsWk wr b l (be n k) j ∧ Upd [b] w wr) (fun i _ => k - (intOf i).toNat)
  case atStart => exact ⟨0, by omega, rfl, H0.out, Upd.refl _ _⟩
  case round =>
    obtain ⟨j, hj, rfl, hW, hU⟩ := hrel
    have HW := Lib.hid hW
    have HU := Lib.hid hU
    have ha := hW.at
    clear hU
    by_cases hlt : j < k
    · have hc := hW.ci (i := l.length + j) (by omega)
      have hz := hW.fz (l.length + j)
      clear hW
      go_wp2
      go_region
      go_wp2
      go_roundw
      case rel =>
        have hgp : j < (be n k).length := by rw [HL.out]; exact hlt
        have hge : (be n k)[j] = n / 256 ^ (k - 1 - j) % 256 := by
          have := be_get n k j hlt
          rw [List.getElem?_eq_getElem hgp] at this
          simpa using this
        have hst := HW.out.step hgp (by rw [HL.out]; exact hr)
        rw [hge] at hst
        have hb := byte_of n k j hk hlt
        rw [hb]
        exact ⟨j + 1, by omega, by go_num, hst.drew, (HU.out.setCell (.inl (by simp)) _).drew⟩
      case measure => simp [intOf]; omega
    · obtain rfl : j = k := by omega
      have hz := hW.fz 256
      clear hW
      go_wp2
      go_end0
      have hd : IsWk wr b l (be n j) (be n j).length := by rw [HL.out]; exact HW.out
      have hfin := hd.done HOk.out (BytesOk.be n j)
      rw [HL.out] at hfin
      exact ⟨rfl, hfin, HU.out.setCell (.inl (by simp)) _⟩
end Go.Proofs.Ytgmabhfffgnjjaa
namespace Go.Proofs.Ytgmabhfffgnjjaa
open Go.RowKit

def strBytes (s : ByteArray) : List Nat := s.data.toList.map UInt8.toNat
theorem strBytes_ok (s : ByteArray) : BytesOk (strBytes s) := fun x hx => by
  obtain ⟨b, _, rfl⟩ := List.mem_map.1 hx
  exact b.toNat_lt
theorem strBytes_len (s : ByteArray) : (strBytes s).length = s.size := by simp [strBytes]
theorem infoU8 : (Try.prog.info? 5).map (·.size) = some 1 := by kernel_rfl
def u8s (p : List Nat) : List Value := p.map fun x : Nat => Value.int .u8 (x : Int)
theorem u8s_len (p : List Nat) : (u8s p).length = p.length := by simp [u8s]
theorem u8s_get (p : List Nat) (i : Nat) : (u8s p)[i]? = p[i]?.map fun x : Nat => Value.int .u8 (x : Int) := by simp [u8s]
theorem u8s_one (p : List Nat) : ∀ v ∈ u8s p, v.oneCell' = true := fun v hv => by
  obtain ⟨x, _, rfl⟩ := List.mem_map.1 hv; rfl
theorem u8s_str (s : ByteArray) : u8s (strBytes s) = s.data.toList.map fun b => Value.int .u8 b.toNat := by simp [u8s, strBytes]
/-- A writer's cells with some bytes more laid behind those that were put. -/
theorem splice_put {cs : Array Value} {l p : List Nat} (hs : cs.size = 257) (hc : ∀ i, i < 256 → cs[i]? = some (.int .u8 (l.getD i 0 : Nat))) (ha : cs[256]? = some (.int .i64 (l.length : Nat))) (hr : l.length + p.length ≤ 256) :
    (splice cs l.length (u8s p)).size = 257 ∧ (∀ i, i < 256 → (splice cs l.length (u8s p))[i]? = some (.int .u8 ((l ++ p).getD i 0 : Nat))) ∧ (splice cs l.length (u8s p))[256]? = some (.int .i64 (l.length : Nat)) := by
  have hle : l.length + (u8s p).length ≤ cs.size := by rw [u8s_len]; omega
  refine ⟨by rw [splice_size _ _ _ hle, hs], fun i hi => ?_, ?_⟩ <;> rw [splice_get _ _ _ hle, u8s_len]
  · simp only [List.getD_eq_getElem?_getD, List.getElem?_append]
    by_cases h : l.length ≤ i ∧ i < l.length + p.length
    · rw [if_pos h, if_neg (by omega), u8s_get, List.getElem?_eq_getElem (by omega)]; rfl
    · rw [if_neg h, hc i hi, List.getD_eq_getElem?_getD]
      by_cases h2 : i < l.length
      · rw [if_pos h2]
      · rw [if_neg h2, List.getElem?_eq_none (by omega), List.getElem?_eq_none (by omega)]
  · rw [if_neg (by omega)]; exact ha
/-- The four bytes of a sum, the lowest first. -/
def le4 (s : Nat) : List Nat := [s % 256, s / 256 % 256, s / 65536 % 256, s / 16777216 % 256]
theorem le4_ok (s : Nat) : BytesOk (le4 s) := fun x hx => by
  simp only [le4, List.mem_cons, List.not_mem_nil, or_false] at hx
  omega
end Go.Proofs.Ytgmabhfffgnjjaa
