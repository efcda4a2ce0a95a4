/-
  PROVED HERE: a step on both disks: a read. Conditions: those that each theorem names.
-/
import Derived.Test.YtpnpjffhkaejgaaDoesC
namespace Go.Proofs.Ytpnpjffhkaejgaa
open Go.RowKit

abbrev opCells (k a c b f : Int) (u : Bool) (p : Value) : Array Value := #[.int .i64 k, .int .i64 a, .int .i64 c, .int .i64 b, .int .i64 f, .bool u, p]
theorem op_cells7 {w : World} {g : Nat} {k a c b f : Int} {u : Bool} {p : Value} (h : w.heap[g]? = some (.cells (opCells k a c b f u p) 29 (0, 0))) :
    w.cell? ⟨g, 0, none⟩ = some (.int .i64 k) ∧ w.cell? ⟨g, 1, none⟩ = some (.int .i64 a) ∧ w.cell? ⟨g, 2, none⟩ = some (.int .i64 c) ∧ w.cell? ⟨g, 3, none⟩ = some (.int .i64 b) ∧ w.cell? ⟨g, 4, none⟩ = some (.int .i64 f) ∧ w.cell? ⟨g, 5, none⟩ = some (.bool u) ∧ w.cell? ⟨g, 6, none⟩ = some p := by
  obtain ⟨q, _⟩ := cells_of h
  exact ⟨q 0, q 1, q 2, q 3, q 4, q 5, q 6⟩
def DoesOut (w0 : World) (d r : Nat) (K : List (Nat × Obj)) (S : Dk) (e : Ending) (w' : World) : Prop := e = .returned (.bool true) ∧ Two w0 w' d r K S S
theorem read_le {S : Dk} (h : S.Ok) (p c : Int) : (S.read p c).1.1.length ≤ 1048576 := by
  unfold Dk.read
  split
  · rename_i ht
    obtain ⟨t1, t2, t3, t4⟩ := there_true ht
    split
    · simp
    · have := h.n2
      dsimp only
      unfold Dk.bytes
      rw [blocks_len fun i hi => (Sec.last_ok (h.sec _ (by omega))).1]
      omega
  · simp
set_option maxRecDepth 100000 in
set_option maxHeartbeats 3200000 in
theorem does_read {w0 w : World} {d r : Nat} {K : List (Nat × Obj)} {S : Dk} (h : Two w0 w d r K S S) (a c b f : Int) (u : Bool) (p : Value) :
    Calls Try.prog 19 #[.pointer (some ⟨d, 0, none⟩), .pointer (some ⟨r, 0, none⟩), .agg #[.int .i64 0, .int .i64 a, .int .i64 c, .int .i64 b, .int .i64 f, .bool u, p]] w (DoesOut w0 d r K (S.read a c).2) := by
  have HW := Lib.hid h
  have hb := h.keep ((Upd.refl [] w).alloc (.cells (opCells 0 a c b f u p) 29)) (Nat.le_refl _) (heap_alloc_new w _)
  have hrd := td_readK hb a c
  have hle := read_le hb.ok a c
  obtain ⟨l, e0, S', he⟩ : ∃ l e0 S', S.read a c = ((l, e0), S') := ⟨_, _, _, rfl⟩
  rw [he] at hrd hle ⊢
  dsimp only at hrd hle ⊢
  have HRD := Lib.hid hrd
  have HB := Lib.hid hb
  have HE := Lib.hid he
  have HS0 := Lib.hid h.size.size
  have HLE := Lib.hid hle
  obtain ⟨c0, c1, c2, c3, c4, c5, c6⟩ := op_cells7 (heap_alloc_new w (.cells (opCells 0 a c b f u p) 29))
  unfold opCells at c0 c1 c2 c3 c4 c5 c6
  clear h hb hrd he hle
  go_enter Try.func19, Try.ntmps19
  go_wp2_with fail
  (with_reducible refine HRD.out.mono ?_)
  rintro e w1 ⟨v1, K1, rfl, r1, k1, h1⟩
  have hrd := tr_readK h1 a c
  rw [HE.out] at hrd
  have HRD2 := Lib.hid hrd
  obtain ⟨a1, cap1, rfl, hs1⟩ : ∃ a1 cap1, v1 = .slice a1 l.length cap1 ∧ True := by obtain ⟨q1, q2, q3, _⟩ := r1.slice; exact ⟨q1, q2, q3, trivial⟩
  obtain ⟨c0', c1', c2', c3', c4', c5', c6'⟩ := op_cells7 (h1.get (List.mem_append_right K1 (List.mem_cons_self ..)))
  have R1 := Lib.hid r1
  have HK1 := Lib.hid k1
  have H1 := Lib.hid h1
  clear r1 k1 h1 hrd hs1 c0 c1 c2 c3 c4 c5 c6
  go_wp2_with fail
  (with_reducible refine HRD2.out.mono ?_)
  rintro e w2 ⟨v2, K2, rfl, r2, k2, h2⟩
  have r1 := HK1.out.row R1.out H1.out h2 fun p hp => List.mem_append_right _ (List.mem_append_left _ hp)
  obtain ⟨a2, cap2, rfl, hy2, _⟩ := r2.slice
  obtain ⟨a1', cap1', e1, hy1, _⟩ := r1.slice
  cases e1
  have HSA := Lib.hid (same_yes (cap := cap1) (cap' := cap2) hy1 hy2 rfl (by have := HLE.out; omega))
  have hlow := HB.out.low
  have HRT := Lib.hid (HK1.out.rowT (K := K) r1 h2 (fun p hp => List.mem_append_right _ (List.mem_append_left _ hp)) (fun p hp => ⟨List.mem_append_right _ (List.mem_append_right _ (List.mem_cons_of_mem _ hp)), hlow p (List.mem_cons_of_mem _ hp)⟩) (by have := HB.out.size.size; exact this) rfl)
  clear r1 r2 k2 h2 hy1 hy2 c0' c1' c2' c3' c4' c5' c6' hlow
  generalize l.length = n at *
  have hn63 : n ≤ 9223372036854775807 := by have := HLE.out; omega
  go_wp2_with (go_at_call 27; (with_reducible refine HSA.out.mono ?_); rintro e w3 ⟨rfl, u3⟩; have HR3 := Lib.hid (HRT.out.up u3); clear u3)
  go_loopw [12] (fun i wr => ∃ j : Nat, j ≤ n ∧ i = .int .i64 j ∧ RowT w0 wr d r K S' S' (.slice a1 n cap1) n) (fun i _ => n - (intOf i).toNat)
  case atStart => exact ⟨0, by omega, rfl, HR3.out⟩
  case round =>
    obtain ⟨j, hj, rfl, hU⟩ := hrel
    by_cases hlt : j < n
    · obtain ⟨g, cap, e1, ⟨y, hy⟩, hz, hset⟩ := hU.at hlt
      cases e1
      have HS := Lib.hid hset
      clear hU hset
      go_wp2
      go_roundw
      case rel => exact ⟨j + 1, by omega, by go_num, HS.out _⟩
      case measure => simp [intOf]; omega
    · obtain rfl : j = n := by omega
      have HU := Lib.hid hU
      clear hU
      go_wp2
      go_ret
      exact ⟨rfl, HU.out.two⟩
end Go.Proofs.Ytpnpjffhkaejgaa
