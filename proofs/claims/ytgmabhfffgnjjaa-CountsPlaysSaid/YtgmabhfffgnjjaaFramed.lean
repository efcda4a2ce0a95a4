/-
  PROVED HERE: a sector and a body come of a writer. Conditions: the writer's block is its own; the table may be used.
-/
import Derived.Test.YtgmabhfffgnjjaaWriterB
namespace Go.Proofs.Ytgmabhfffgnjjaa
open Go.RowKit

/-- Block b begins with the bytes l, which may be written. -/
structure IsBlk (w : World) (b : Nat) (l : List Nat) : Prop where
  blk : ∃ cs ty, w.heap[b]? = some (.cells cs ty (0, 0)) ∧ ∀ i (h : i < l.length), cs[i]? = some (.int .u8 (l[i] : Int))
  ok : BytesOk l
theorem IsBlk.upd {w w' : World} {b : Nat} {l : List Nat} {S : List Nat} (h : IsBlk w b l) (u : Upd S w w') (hs : b ∉ S) : IsBlk w' b l := by
  obtain ⟨⟨cs, ty, hb, r⟩, ok⟩ := h; exact ⟨⟨cs, ty, u.get hb hs, r⟩, ok⟩
theorem IsBlk.lt {w : World} {b : Nat} {l : List Nat} (h : IsBlk w b l) : b < w.heap.size := by
  obtain ⟨⟨cs, ty, hb, _⟩, _⟩ := h; exact lt_of_block hb
theorem IsBlk.bytes {w : World} {b : Nat} {l : List Nat} (h : IsBlk w b l) : IsBytes w (some ⟨b, 0, none⟩) l := by
  obtain ⟨⟨cs, ty, hb, r⟩, ok⟩ := h
  exact ⟨ok, fun i hi => ⟨b, 0, rfl, by rw [Nat.zero_add, (cells_of hb).1]; exact r i hi⟩⟩
theorem IsBlk.fz {w : World} {b : Nat} {l : List Nat} (h : IsBlk w b l) (i : Nat) : w.frozen? ⟨b, i, none⟩ = false := by
  obtain ⟨⟨cs, ty, hb, _⟩, _⟩ := h; exact (cells_of hb).2 i
theorem IsBytes.upd {w w' : World} {a : Option Addr} {l : List Nat} {S : List Nat} (h : IsBytes w a l) (u : Upd S w w') (hs : ∀ b o, a = some ⟨b, o, none⟩ → b ∉ S) : IsBytes w' a l :=
  ⟨h.1, fun i hi => by
    obtain ⟨b, o, ha, hc⟩ := h.2 i hi
    exact ⟨b, o, ha, by rw [← hc]; exact World.cell?_of_block (u.block b (World.block_lt_of_cell? _ _ hc) (hs b o ha))⟩⟩

/-- What was put, as a sector. -/
def frame (l : List Nat) : List Nat := pad l 252 ++ le4 (crc (pad l 252))
theorem frame_len {l : List Nat} (h : l.length ≤ 252) : (frame l).length = 256 := by simp [frame, pad_len h, le4]
theorem frame_ok {l : List Nat} (h : BytesOk l) : BytesOk (frame l) := (h.pad _).append (le4_ok _)
theorem getD_of {l : List Nat} {i : Nat} (h : i < l.length) : l[i] = l.getD i 0 := by simp [List.getD_eq_getElem?_getD, h]
theorem IsW.padded {w : World} {b : Nat} {l : List Nat} (h : IsW w b l) {n : Nat} (hl : l.length ≤ n) (hn : n ≤ 256) : IsBlk w b (pad l n) := by
  obtain ⟨⟨cs, hb, hs, hc, _⟩, ok⟩ := h
  refine ⟨⟨cs, _, hb, fun i hi => ?_⟩, ok.pad _⟩
  rw [getD_of hi, pad_getD]
  rw [pad_len hl] at hi
  exact hc i (by omega)
theorem splice_frame {cs : Array Value} {l p : List Nat} (hs : cs.size = 257) (hl : l.length ≤ 252) (hp : p.length = 4) (hc : ∀ i, i < 256 → cs[i]? = some (.int .u8 (l.getD i 0 : Nat))) :
    ∀ i (h : i < (pad l 252 ++ p).length), (splice cs 252 (u8s p))[i]? = some (.int .u8 ((pad l 252 ++ p)[i] : Int)) := by
  intro i hi
  have hpl := pad_len hl
  rw [List.length_append, hpl, hp] at hi
  rw [splice_get _ _ _ (by rw [u8s_len]; omega), u8s_len, hp]
  by_cases h : 252 ≤ i
  · rw [if_pos (by omega), u8s_get, List.getElem_append_right (by omega), List.getElem?_eq_getElem (by omega)]
    simp [hpl]
  · rw [if_neg (by omega), List.getElem_append_left (by omega), hc i (by omega), getD_of, pad_getD]
/-- What was put, as a body. -/
theorem body_any {b : Nat} {l : List Nat} {w : World} (h : IsW w b l) (hl : l.length ≤ 240) :
    Calls Try.prog 41 #[pt b] w fun e w' => w' = w ∧ e = .returned (.slice (some ⟨b, 0, none⟩) 240 240) ∧ IsBlk w' b (pad l 240) := by
  have hs1 := fun w => run_arr_to_max (P := Try.prog) w Try.underlying63 infoU8 b 0 .i64 .i64 240 240 (by decide) (by decide) (by decide) (by decide)
  simp only [show (240 : Int).toNat = 240 from rfl] at hs1
  have H := Lib.hid (h.padded hl (by decide))
  clear h hl
  go_enter Try.func41, Try.ntmps41
  go_wp2
  go_ret
  exact ⟨rfl, rfl, H.out⟩

theorem in_any (n most : Int) (w : World) : Calls Try.prog 39 #[.int .i64 n, .int .i64 most] w fun e w' => w' = w ∧ e = .returned (.bool (decide (0 ≤ n ∧ n ≤ most))) := by
  by_cases h1 : 0 ≤ n <;> by_cases h2 : n ≤ most <;>
  · go_enter Try.func39, Try.ntmps39
    go_wp2
    go_ret
    simp_all
end Go.Proofs.Ytgmabhfffgnjjaa
