/-
  PROVED HERE: More and Sum of package crc return the sum of the bytes. Conditions: the table's block is its own; nobody holds its lock; the bytes do not lie in the table.
  PROVED HERE: numbers as bytes, the highest first, and back. Conditions: those that each theorem names.
  PROVED HERE: what package codec's writer does to its block: numbers and texts are put behind what was put; a sector and a body come of it. Conditions: the writer's block is its own; what is put has room.
  PROVED HERE: a text is put; a sector and a body come of a writer; the four bytes of a sum. Conditions: the writer's block is its own; what is put has room.
  PROVED HERE: a sector and a body come of a writer. Conditions: the writer's block is its own; the table may be used.
-/
import Derived.Test.YtpnpjffhkaejgaaGreatDoorTable
import Derived.WalkKit
import Derived.Laws.CopyOwn
namespace Go.Proofs.YtpnpjffhkaejgaaGreatDoor
open Go.RowKit

/-- A table that may be used: not made yet, or made. -/
def TabOk (w : World) (t : Nat) : Prop := (∃ f, IsTab w t 0 0 f) ∨ IsTab w t 1 0 tword
theorem TabOk.upd {w w' : World} {t : Nat} {S : List Nat} (h : TabOk w t) (u : Upd S w w') (hs : t ∉ S) : TabOk w' t := by
  rcases h with ⟨f, h⟩ | h
  · exact .inl ⟨f, h.upd u hs⟩
  · exact .inr (h.upd u hs)
theorem TabOk.lt {w : World} {t : Nat} (h : TabOk w t) : t < w.heap.size := by
  rcases h with ⟨f, h⟩ | h <;> exact h.lt

set_option maxRecDepth 100000 in
set_option maxHeartbeats 1600000 in
theorem slow_any {t : Nat} {f : Nat → Nat} {w : World} (h : IsTab w t 0 0 f) :
    Calls Tryz.prog 103 #[pt t, .func (.func 93) #[pt t] #[]] w fun e w' => e = .returned (.tuple #[]) ∧ IsTab w' t 1 0 tword ∧ Upd [t] w w' := by
  have h1 := h.set1 1
  have hl := run_call_load (P := Tryz.prog) Tryz.func105 (by kernel_rfl) (by kernel_rfl) (by kernel_rfl) .u32 (by kernel_rfl) (w := w.setCell ⟨t, 1, none⟩ (.int .i32 1)) (a := ⟨t, 0, none⟩) (x := 0) h1.c0
  have hnot : ∀ (x : Bool) (w : World), (Op.unary .not (.bool x)).run Tryz.prog w = .ok (.bool (!x)) w := fun _ _ => rfl
  have H := Lib.hid h
  have H1 := Lib.hid h1
  have hU : Upd [t] w (w.setCell ⟨t, 1, none⟩ (.int .i32 1)) := (Upd.refl _ _).setCell (.inl (by simp)) _
  have HU := Lib.hid hU
  clear h h1 hU
  go_enter_defers Tryz.func103, Tryz.ntmps103
  go_wp2_with (first | (go_at_call 106; refine (lock_free ⟨t, 1, none⟩ _ H.out.c1 (H.out.fz 1)).mono ?_; rintro e w' ⟨rfl, rfl⟩) | (go_at_call 102; go_in))
  refine (make_any H1.out).mono ?_
  rintro e w1 ⟨rfl, h2, u2⟩
  have H2 := Lib.hid h2
  have U2 := Lib.hid (HU.out.trans u2)
  clear h2 u2
  go_wp2
  refine leaves_cons (f := 108) (args := #[.pointer (some ⟨t, 0, none⟩), .bool true]) (by simp) (by simp [go_sem]) ?_
  refine (store_deferred ⟨t, 0, none⟩ (.int .u32 0) .returning _ H2.out.c0 (H2.out.fz 0)).mono ?_
  rintro e u' w'' ⟨rfl, rfl, rfl⟩
  have h3 : IsTab (w1.drew.setCell ⟨t, 0, none⟩ (.int .u32 1)) t 1 1 tword := IsTab.set0 (w := w1.drew) H2.out 1
  refine leaves_cons (f := 107) (args := #[.pointer (some ⟨t, 1, none⟩)]) (by simp [settle]) (by simp [go_sem]) ?_
  refine (unlock_deferred ⟨t, 1, none⟩ _ _ h3.c1 (h3.fz 1)).mono ?_
  rintro e u' w'' ⟨rfl, rfl, rfl⟩
  have hfin : IsTab ((w1.drew.setCell ⟨t, 0, none⟩ (.int .u32 1)).setCell ⟨t, 1, none⟩ (.int .i32 0)) t 1 0 tword := h3.set1 0
  have hu : Upd [t] w ((w1.drew.setCell ⟨t, 0, none⟩ (.int .u32 1)).setCell ⟨t, 1, none⟩ (.int .i32 0)) := (U2.out.drew.setCell (.inl (by simp)) _).setCell (.inl (by simp)) _
  simp [Leaves, settle, results, Tryz.results103]
  exact ⟨hfin, hu⟩

set_option maxRecDepth 100000 in
set_option maxHeartbeats 1600000 in
theorem do_any {t : Nat} {w : World} (h : TabOk w t) :
    Calls Tryz.prog 92 #[pt t, .func (.func 93) #[pt t] #[]] w fun e w' => e = .returned (.tuple #[]) ∧ IsTab w' t 1 0 tword ∧ Upd [t] w w' := by
  have hnot : ∀ (x : Bool) (w : World), (Op.unary .not (.bool x)).run Tryz.prog w = .ok (.bool (!x)) w := fun _ _ => rfl
  rcases h with ⟨f, h⟩ | h
  · have hl := run_call_load (P := Tryz.prog) Tryz.func105 (by kernel_rfl) (by kernel_rfl) (by kernel_rfl) .u32 (by kernel_rfl) h.c0
    have H := Lib.hid h
    clear h
    go_enter Tryz.func92, Tryz.ntmps92
    go_wp2_with (first | (go_at_call 103; refine (slow_any H.out).mono ?_; rintro e w1 ⟨rfl, h1, u1⟩; have H1 := Lib.hid h1; have U1 := Lib.hid u1; clear h1 u1) | (go_at_call 102; go_in))
    go_end0
    exact ⟨rfl, H1.out, U1.out⟩
  · have hl := run_call_load (P := Tryz.prog) Tryz.func105 (by kernel_rfl) (by kernel_rfl) (by kernel_rfl) .u32 (by kernel_rfl) h.c0
    have H := Lib.hid h
    clear h
    go_enter Tryz.func92, Tryz.ntmps92
    go_wp2
    go_end0
    exact ⟨rfl, H.out, Upd.refl _ _⟩

/-- The bytes that a slice reads as. -/
def IsBytes (w : World) (a : Option Addr) (l : List Nat) : Prop := (∀ b ∈ l, b < 256) ∧ ∀ i (h : i < l.length), ∃ b o, a = some ⟨b, o, none⟩ ∧ w.cell? ⟨b, o + i, none⟩ = some (.int .u8 (l[i] : Int))
theorem compl32 (c : Nat) (h : c < 4294967296) : (c ^^^ 4294967295 : Nat) = 4294967295 - c := by
  apply Nat.eq_of_testBit_eq
  intro i
  rw [Nat.testBit_xor, show 4294967295 - c = 2 ^ 32 - (c + 1) by omega, Nat.testBit_two_pow_sub_succ (show c < 2 ^ 32 from h), show (4294967295 : Nat) = 2 ^ 32 - 1 by decide, Nat.testBit_two_pow_sub_one]
  by_cases hi : i < 32
  · simp [hi]
  · simp [hi, Nat.testBit_lt_two_pow (Nat.lt_of_lt_of_le h (Nat.pow_le_pow_right (by decide : 0 < 2) (show 32 ≤ i by omega)))]
theorem more_word (c b : Nat) (h : c < 4294967296) (hb : b < 256) : bits BinOp.xor IntKind.u32 ((c : Int) / 256) ((tword ((c % 256) ^^^ b) : Nat) : Int) = (cbyte c b : Int) := by
  have hx : (c % 256) ^^^ b < 2 ^ 8 := Nat.xor_lt_two_pow (n := 8) (by omega) hb
  rw [cbyte_table c b hb, show (c : Int) / 256 = ((c / 256 : Nat) : Int) by simp, show tword ((c % 256) ^^^ b) = csteps 8 ((c % 256) ^^^ b) from rfl, u32_xor_nat _ _ (by omega) (csteps_lt 8 (by omega))]
theorem not_zero32 : bits BinOp.xor IntKind.u32 IntKind.u32.max 0 = 4294967295 := by decide
theorem max32 : IntKind.u32.max = ((4294967295 : Nat) : Int) := by decide
theorem not_word (c : Nat) (h : c < 4294967296) : Ending.returned (.int .u32 (bits BinOp.xor IntKind.u32 IntKind.u32.max (c : Int))) = Ending.returned (.int .u32 ((c ^^^ 4294967295 : Nat) : Int)) := by
  rw [max32, u32_xor_nat _ _ (by decide) h, Nat.xor_comm]
set_option maxRecDepth 100000 in
set_option maxHeartbeats 1600000 in
theorem more_any {t : Nat} {w : World} {a : Option Addr} {l : List Nat} {cap : Nat} (h : TabOk w t) (hb : IsBytes w a l) (hsep : ∀ b o, a = some ⟨b, o, none⟩ → b ≠ t) (hl : l.length ≤ 9223372036854775807) :
    Calls Tryz.prog 75 #[pt t, .int .u32 0, .slice a l.length cap] w fun e w' => e = .returned (.int .u32 (crc l)) ∧ IsTab w' t 1 0 tword ∧ Upd [t] w w' := by
  have H := Lib.hid h
  have HB := Lib.hid hb
  have HS := Lib.hid hsep
  clear h hb hsep
  go_enter Tryz.func75, Tryz.ntmps75
  go_wp2_with (go_at_call 92; refine (do_any H.out).mono ?_; rintro e w1 ⟨rfl, h1, u1⟩; have H1 := Lib.hid h1; have U1 := Lib.hid u1; clear h1 u1)
  go_loop [7, 20] (fun c i => ∃ k : Nat, k ≤ l.length ∧ i = .int .i64 k ∧ c = .int .u32 (cmore 4294967295 (l.take k))) (fun _ i => l.length - (intOf i).toNat)
  case atStart => exact ⟨0, by omega, rfl, by rw [not_zero32]; rfl⟩
  case round =>
    obtain ⟨k, hk, rfl, rfl⟩ := hrel
    by_cases hlt : k < l.length
    · obtain ⟨b, o, rfl, hc⟩ := HB.out.2 k hlt
      have hne := HS.out b o rfl
      have hb := HB.out.1 l[k] (List.getElem_mem hlt)
      have hcl : cmore 4294967295 (l.take k) < 4294967296 := cmore_lt (fun x hx => HB.out.1 x (List.mem_of_mem_take hx)) (by decide)
      have hc1 : w1.cell? ⟨b, o + k, none⟩ = some (.int .u8 (l[k] : Int)) := by
        rw [← hc]; exact World.cell?_of_block (U1.out.block b (World.block_lt_of_cell? _ _ hc) (by simpa using hne))
      have hstep : cmore 4294967295 (l.take (k + 1)) = cbyte (cmore 4294967295 (l.take k)) l[k] := by
        rw [List.take_succ_eq_append_getElem hlt, cmore_snoc]
      have hword := more_word _ _ hcl hb
      have hx : (cmore 4294967295 (l.take k)) % 256 ^^^ l[k] < 2 ^ 8 := Nat.xor_lt_two_pow (n := 8) (by omega) hb
      have hxi : bits BinOp.xor IntKind.u8 (((cmore 4294967295 (l.take k)) : Int) % 256) (l[k] : Int) = (((cmore 4294967295 (l.take k)) % 256 ^^^ l[k] : Nat) : Int) := by
        rw [show ((cmore 4294967295 (l.take k) : Nat) : Int) % 256 = ((cmore 4294967295 (l.take k) % 256 : Nat) : Int) by simp]
        exact u8_xor_nat _ _ (by omega) hb
      have hci := H1.out.ci (i := (cmore 4294967295 (l.take k)) % 256 ^^^ l[k]) (by omega)
      have HSt := Lib.hid hstep
      have HW := Lib.hid hword
      generalize cmore 4294967295 (l.take k) = c at *
      generalize l[k] = v at *
      clear hstep hword hc
      generalize hz : c % 256 ^^^ v = z at *
      have HZ := Lib.hid hz
      clear hz
      go_wp2
      go_round
      case rel => exact ⟨k + 1, by omega, by go_num, by rw [HSt.out, HW.out]⟩
      case measure => simp [intOf]; omega
    · obtain rfl : k = l.length := by omega
      go_wp2
      go_ret
      exact ⟨not_word _ (cmore_lt HB.out.1 (by decide)), H1.out, U1.out⟩
end Go.Proofs.YtpnpjffhkaejgaaGreatDoor
namespace Go.Proofs.YtpnpjffhkaejgaaGreatDoor
open Go.RowKit

/-- A number's k lowest bytes, the highest first. -/
def be (n : Nat) : Nat → List Nat
  | 0 => []
  | k + 1 => n / 256 ^ k % 256 :: be n k
theorem be_len (n k : Nat) : (be n k).length = k := by
  induction k with
  | zero => rfl
  | succ k ih => simp [be, ih]
theorem be_get (n k i : Nat) (h : i < k) : (be n k)[i]? = some (n / 256 ^ (k - 1 - i) % 256) := by
  induction k generalizing i with
  | zero => omega
  | succ k ih =>
    cases i with
    | zero => simp [be]
    | succ i =>
      simp only [be, List.getElem?_cons_succ]
      rw [ih i (by omega), show k + 1 - 1 - (i + 1) = k - 1 - i by omega]
theorem be_lt (n k : Nat) : ∀ b ∈ be n k, b < 256 := by
  induction k with
  | zero => simp [be]
  | succ k ih =>
    intro b hb
    simp only [be, List.mem_cons] at hb
    rcases hb with rfl | hb
    · exact Nat.mod_lt _ (by decide)
    · exact ih b hb
/-- The number of some bytes. -/
def num (l : List Nat) : Nat := l.foldl (fun n b => 256 * n + b) 0
theorem num_snoc (l : List Nat) (b : Nat) : num (l ++ [b]) = 256 * num l + b := by simp [num]
theorem num_foldl (l : List Nat) (a : Nat) : l.foldl (fun n b => 256 * n + b) a = 256 ^ l.length * a + num l := by
  induction l generalizing a with
  | nil => simp [num]
  | cons x l ih =>
    simp only [List.foldl_cons, num, List.length_cons]
    rw [ih, ih (256 * 0 + x), Nat.mul_add, ← Nat.mul_assoc, ← Nat.pow_succ]
    simp; omega
theorem num_append (a b : List Nat) : num (a ++ b) = 256 ^ b.length * num a + num b := by
  unfold num
  rw [List.foldl_append]
  exact num_foldl b _
theorem num_lt {l : List Nat} (h : ∀ b ∈ l, b < 256) : num l < 256 ^ l.length := by
  induction l with
  | nil => simp [num]
  | cons x l ih =>
    have hx := h x (by simp)
    have ih := ih fun b hb => h b (by simp [hb])
    have e : num (x :: l) = 256 ^ l.length * x + num l := by
      have := num_append [x] l
      simpa [num] using this
    rw [e, List.length_cons, Nat.pow_succ]
    have : 256 ^ l.length * x ≤ 256 ^ l.length * 255 := Nat.mul_le_mul_left _ (by omega)
    omega
theorem num_be (n k : Nat) : num (be n k) = n % 256 ^ k := by
  induction k with
  | zero => simp [be, num, Nat.mod_one]
  | succ k ih =>
    have e : num (be n (k + 1)) = 256 ^ (be n k).length * (n / 256 ^ k % 256) + num (be n k) := by
      have := num_append [n / 256 ^ k % 256] (be n k)
      simpa [num, be] using this
    rw [e, be_len, ih, Nat.pow_succ, Nat.mod_mul]
    omega
theorem num_be_of_lt {n k : Nat} (h : n < 256 ^ k) : num (be n k) = n := by rw [num_be, Nat.mod_eq_of_lt h]
theorem num_cons (x : Nat) (l : List Nat) : num (x :: l) = 256 ^ l.length * x + num l := by
  have := num_append [x] l
  simpa [num] using this
theorem be_num {l : List Nat} (h : ∀ b ∈ l, b < 256) : be (num l) l.length = l := by
  induction l with
  | nil => rfl
  | cons x l ih =>
    have hx := h x (by simp)
    have ih := ih fun b hb => h b (by simp [hb])
    have hl : num l < 256 ^ l.length := num_lt fun b hb => h b (List.mem_cons_of_mem _ hb)
    have hz : 0 < 256 ^ l.length := Nat.pow_pos (by decide)
    have e1 : (256 ^ l.length * x + num l) / 256 ^ l.length % 256 = x := by
      rw [Nat.mul_add_div hz, Nat.div_eq_of_lt hl, Nat.add_zero, Nat.mod_eq_of_lt hx]
    have e2 : ∀ k m n : Nat, be (256 ^ k * m + n) k = be n k := by
      intro k
      have hg : ∀ j m n : Nat, j ≤ k → be (256 ^ k * m + n) j = be n j := by
        intro j
        induction j with
        | zero => intros; rfl
        | succ j ihj =>
          intro m n hj
          simp only [be]
          rw [ihj m n (by omega)]
          congr 1
          obtain ⟨d, rfl⟩ : ∃ d, k = j + 1 + d := ⟨k - (j + 1), by omega⟩
          rw [show 256 ^ (j + 1 + d) * m + n = 256 ^ j * (256 * (256 ^ d * m)) + n by
            rw [Nat.pow_add, Nat.pow_succ]
            simp only [Nat.mul_assoc],
            Nat.mul_add_div (Nat.pow_pos (by decide)), Nat.mul_add_mod]
      intro m n
      exact hg k m n (Nat.le_refl _)
    rw [num_cons, List.length_cons]
    simp only [be]
    rw [e1, e2, ih]
/-- The value of a number of up to eight bytes, as Go's int has it. -/
def numi (l : List Nat) : Int := wrap64 (num l)
theorem numi_nil : numi [] = 0 := by simp [numi, num, wrap64]
theorem numi_eq {l : List Nat} (h : ∀ b ∈ l, b < 256) (hl : l.length ≤ 7) : numi l = num l := by
  have h1 := num_lt h
  have h2 : 256 ^ l.length ≤ 256 ^ 7 := Nat.pow_le_pow_right (by decide) hl
  unfold numi wrap64
  have : (256 : Nat) ^ 7 = 72057594037927936 := by decide
  omega
/-- One byte more, in Go's own steps. -/
theorem shift_or (m b : Nat) (hm : m < 72057594037927936) (hb : b < 256) : bits .or .i64 (wrap64 ((m : Int) * 256)) (b : Int) = wrap64 ((256 * m + b : Nat) : Int) := by
  have h1 : (BitVec.ofInt 64 (wrap64 ((m : Int) * 256))).toNat = 256 * m := by
    simp only [BitVec.toNat_ofInt, wrap64]; omega
  have h2 : (BitVec.ofInt 64 (b : Int)).toNat = b := by
    simp only [BitVec.toNat_ofInt]; omega
  show IntKind.i64.wrap (((BitVec.ofInt 64 (wrap64 ((m : Int) * 256)) ||| BitVec.ofInt 64 (b : Int)) : BitVec 64).toNat : Int) = _
  have h3 : 256 * m ||| b = 256 * m + b := by
    have := Nat.two_pow_add_eq_or_of_lt (i := 8) (show b < 2 ^ 8 from hb) m
    rw [show (256 : Nat) = 2 ^ 8 from rfl, this]
  rw [BitVec.toNat_or, h1, h2, h3, IntKind.wrap_i64]
  unfold wrap64
  omega
end Go.Proofs.YtpnpjffhkaejgaaGreatDoor
namespace Go.Proofs.YtpnpjffhkaejgaaGreatDoor
open Go.RowKit

def BytesOk (l : List Nat) : Prop := ∀ b ∈ l, b < 256
theorem BytesOk.append {a b : List Nat} (ha : BytesOk a) (hb : BytesOk b) : BytesOk (a ++ b) := fun x hx => by
  rcases List.mem_append.1 hx with h | h
  · exact ha x h
  · exact hb x h
theorem BytesOk.zeros (n : Nat) : BytesOk (List.replicate n 0) := fun x hx => by
  rw [List.eq_of_mem_replicate hx]; decide
theorem BytesOk.be (n k : Nat) : BytesOk (be n k) := be_lt n k
theorem BytesOk.nil : BytesOk [] := fun x hx => by cases hx
theorem BytesOk.take {l : List Nat} (h : BytesOk l) (n : Nat) : BytesOk (l.take n) := fun x hx => h x (List.mem_of_mem_take hx)
theorem BytesOk.drop {l : List Nat} (h : BytesOk l) (n : Nat) : BytesOk (l.drop n) := fun x hx => h x (List.mem_of_mem_drop hx)
/-- Noughts behind, up to n bytes. -/
def pad (l : List Nat) (n : Nat) : List Nat := l ++ List.replicate (n - l.length) 0
theorem pad_len {l : List Nat} {n : Nat} (h : l.length ≤ n) : (pad l n).length = n := by simp [pad]; omega
theorem pad_getD (l : List Nat) (n i : Nat) : (pad l n).getD i 0 = l.getD i 0 := by
  unfold pad
  simp only [List.getD_eq_getElem?_getD, List.getElem?_append]
  split
  · rfl
  · rw [List.getElem?_eq_none (l := l) (by omega), List.getElem?_replicate]
    split <;> rfl
theorem BytesOk.pad {l : List Nat} (h : BytesOk l) (n : Nat) : BytesOk (pad l n) := h.append (BytesOk.zeros _)
theorem getD_lt {l : List Nat} (h : BytesOk l) (i : Nat) : l.getD i 0 < 256 := by
  rw [List.getD_eq_getElem?_getD]
  cases hi : l[i]? with
  | none => decide
  | some x => exact h x (List.mem_of_getElem? hi)

/-- Block b is a writer in which the bytes l were put. -/
structure IsW (w : World) (b : Nat) (l : List Nat) : Prop where
  blk : ∃ cs, w.heap[b]? = some (.cells cs 89 (0, 0)) ∧ cs.size = 257 ∧ (∀ i, i < 256 → cs[i]? = some (.int .u8 (l.getD i 0 : Nat))) ∧ cs[256]? = some (.int .i64 (l.length : Nat))
  ok : BytesOk l
theorem IsW.upd {w w' : World} {b : Nat} {l : List Nat} {S : List Nat} (h : IsW w b l) (u : Upd S w w') (hs : b ∉ S) : IsW w' b l := by
  obtain ⟨⟨cs, hb, r⟩, ok⟩ := h; exact ⟨⟨cs, u.get hb hs, r⟩, ok⟩
theorem IsW.lt {w : World} {b : Nat} {l : List Nat} (h : IsW w b l) : b < w.heap.size := by
  obtain ⟨⟨cs, hb, _⟩, _⟩ := h; exact lt_of_block hb
theorem IsW.at {w : World} {b : Nat} {l : List Nat} (h : IsW w b l) : w.cell? ⟨b, 256, none⟩ = some (.int .i64 (l.length : Nat)) := by
  obtain ⟨⟨cs, hb, _, _, h0⟩, _⟩ := h; rw [(cells_of hb).1]; exact h0
theorem IsW.ci {w : World} {b : Nat} {l : List Nat} (h : IsW w b l) {i : Nat} (hi : i < 256) : w.cell? ⟨b, i, none⟩ = some (.int .u8 (l.getD i 0 : Nat)) := by
  obtain ⟨⟨cs, hb, _, h0, _⟩, _⟩ := h; rw [(cells_of hb).1]; exact h0 i hi
theorem IsW.fz {w : World} {b : Nat} {l : List Nat} (h : IsW w b l) (i : Nat) : w.frozen? ⟨b, i, none⟩ = false := by
  obtain ⟨⟨cs, hb, _⟩, _⟩ := h; exact (cells_of hb).2 i

/-- Half way through putting bytes p behind l: k of them lie there; the place has not moved. -/
structure IsWk (w : World) (b : Nat) (l p : List Nat) (k : Nat) : Prop where
  blk : ∃ cs, w.heap[b]? = some (.cells cs 89 (0, 0)) ∧ cs.size = 257 ∧ (∀ i, i < 256 → cs[i]? = some (.int .u8 ((l ++ p.take k).getD i 0 : Nat))) ∧ cs[256]? = some (.int .i64 (l.length : Nat))
theorem IsWk.drew {w : World} {b : Nat} {l p : List Nat} {k : Nat} (h : IsWk w b l p k) : IsWk w.drew b l p k := ⟨h.blk⟩
theorem IsW.drew {w : World} {b : Nat} {l : List Nat} (h : IsW w b l) : IsW w.drew b l := ⟨h.blk, h.ok⟩
theorem getD_put (l p : List Nat) (k : Nat) (hk : k < p.length) (i : Nat) : (l ++ p.take (k + 1)).getD i 0 = if i = l.length + k then p[k] else (l ++ p.take k).getD i 0 := by
  simp only [List.getD_eq_getElem?_getD, List.getElem?_append]
  by_cases h1 : i < l.length
  · rw [if_pos h1, if_neg (by omega), if_pos h1]
  · rw [if_neg h1, if_neg h1]
    by_cases h2 : i = l.length + k
    · subst h2
      rw [if_pos rfl, show l.length + k - l.length = k by omega, List.getElem?_take_of_lt (by omega), List.getElem?_eq_getElem hk]; rfl
    · rw [if_neg h2]
      by_cases h3 : i - l.length < k
      · rw [List.getElem?_take_of_lt (by omega), List.getElem?_take_of_lt h3]
      · rw [List.getElem?_eq_none (by rw [List.length_take]; omega), List.getElem?_eq_none (by rw [List.length_take]; omega)]
theorem IsWk.step {w : World} {b : Nat} {l p : List Nat} {k : Nat} (h : IsWk w b l p k) (hk : k < p.length) (hr : l.length + p.length ≤ 256) : IsWk (w.setCell ⟨b, l.length + k, none⟩ (.int .u8 (p[k] : Nat))) b l p (k + 1) := by
  obtain ⟨cs, hb, hs, hc, ha⟩ := h.blk
  refine ⟨_, heap_setCell_same w b _ cs _ _ hb, by simpa using hs, fun i hi => ?_, ?_⟩ <;> rw [Array.getElem?_setIfInBounds]
  · rw [getD_put l p k hk]
    by_cases e : i = l.length + k
    · subst e; rw [if_pos rfl, if_pos (by omega), if_pos rfl]
    · rw [if_neg (Ne.symm e), if_neg e]; exact hc i hi
  · rw [if_neg (by omega)]; exact ha
theorem IsWk.done {w : World} {b : Nat} {l p : List Nat} (h : IsWk w b l p p.length) (hl : BytesOk l) (hp : BytesOk p) : IsW (w.setCell ⟨b, 256, none⟩ (.int .i64 (((l.length : Nat) : Int) + (p.length : Nat)))) b (l ++ p) := by
  obtain ⟨cs, hb, hs, hc, ha⟩ := h.blk
  rw [List.take_length] at hc
  refine ⟨⟨_, heap_setCell_same w b 256 cs _ _ hb, by simpa using hs, fun i hi => ?_, ?_⟩, hl.append hp⟩ <;> rw [Array.getElem?_setIfInBounds]
  · rw [if_neg (by omega)]; exact hc i hi
  · rw [if_pos rfl, if_pos (by omega), List.length_append]; simp
theorem IsWk.at {w : World} {b : Nat} {l p : List Nat} {k : Nat} (h : IsWk w b l p k) : w.cell? ⟨b, 256, none⟩ = some (.int .i64 (l.length : Nat)) := by
  obtain ⟨cs, hb, _, _, h0⟩ := h.blk; rw [(cells_of hb).1]; exact h0
theorem IsWk.ci {w : World} {b : Nat} {l p : List Nat} {k : Nat} (h : IsWk w b l p k) {i : Nat} (hi : i < 256) : w.cell? ⟨b, i, none⟩ = some (.int .u8 ((l ++ p.take k).getD i 0 : Nat)) := by
  obtain ⟨cs, hb, _, h0, _⟩ := h.blk; rw [(cells_of hb).1]; exact h0 i hi
theorem IsWk.fz {w : World} {b : Nat} {l p : List Nat} {k : Nat} (h : IsWk w b l p k) (i : Nat) : w.frozen? ⟨b, i, none⟩ = false := by
  obtain ⟨cs, hb, _⟩ := h.blk; exact (cells_of hb).2 i
theorem IsW.begin {w : World} {b : Nat} {l : List Nat} (h : IsW w b l) (p : List Nat) : IsWk w b l p 0 := by
  obtain ⟨⟨cs, hb, hs, hc, ha⟩, _⟩ := h
  exact ⟨cs, hb, hs, by simpa using hc, ha⟩
theorem byte_of (n k i : Nat) (_hk : k ≤ 8) (_hi : i < k) : (n : Int) / 2 ^ (8 * (k - 1 - i)) % 256 = ((n / 256 ^ (k - 1 - i) % 256 : Nat) : Int) := by
  have : (2 : Nat) ^ (8 * (k - 1 - i)) = 256 ^ (k - 1 - i) := by rw [Nat.pow_mul]
  rw [← this]
  simp

set_option maxRecDepth 100000 in
set_option maxHeartbeats 1600000 in
theorem put_any {b n k : Nat} {l : List Nat} {w : World} (h : IsW w b l) (hk : k ≤ 8) (_hn : n < 9223372036854775808) (hr : l.length + k ≤ 256) :
    Calls Tryz.prog 33 #[pt b, .int .i64 n, .int .i64 k] w fun e w' => e = .returned (.tuple #[]) ∧ IsW w' b (l ++ be n k) ∧ Upd [b] w w' := by
  have hlen := be_len n k
  have hok := h.ok
  have HOk := Lib.hid hok
  have HL := Lib.hid hlen
  have H0 := Lib.hid (h.begin (be n k))
  clear h hok hlen
  go_enter Tryz.func33, Tryz.ntmps33
  go_wp2
  go_loopw [8] (fun i wr => ∃ j : Nat, j ≤ k ∧ i = .int .i64 j ∧ IsWk wr b l (be n k) j ∧ Upd [b] w wr) (fun i _ => k - (intOf i).toNat)
  case atStart => exact ⟨0, by omega, rfl, H0.out, Upd.refl _ _⟩
  case round =>
    obtain ⟨j, hj, rfl, hW, hU⟩ := hrel
    have HW := Lib.hid hW
    have HU := Lib.hid hU
    have ha := hW.at
    clear hU
    by_cases hlt : j < k
    · have hc := hW.ci (i := l.length + j) (by omega)
      have hz := hW.fz (l.length + j)
      clear hW
      go_wp2
      go_region
      go_wp2
      go_roundw
      case rel =>
        have hgp : j < (be n k).length := by rw [HL.out]; exact hlt
        have hge : (be n k)[j] = n / 256 ^ (k - 1 - j) % 256 := by
          have := be_get n k j hlt
          rw [List.getElem?_eq_getElem hgp] at this
          simpa using this
        have hst := HW.out.step hgp (by rw [HL.out]; exact hr)
        rw [hge] at hst
        have hb := byte_of n k j hk hlt
        rw [hb]
        exact ⟨j + 1, by omega, by go_num, hst.drew, (HU.out.setCell (.inl (by simp)) _).drew⟩
      case measure => simp [intOf]; omega
    · obtain rfl : j = k := by omega
      have hz := hW.fz 256
      clear hW
      go_wp2
      go_end0
      have hd : IsWk wr b l (be n j) (be n j).length := by rw [HL.out]; exact HW.out
      have hfin := hd.done HOk.out (BytesOk.be n j)
      rw [HL.out] at hfin
      exact ⟨rfl, hfin, HU.out.setCell (.inl (by simp)) _⟩
end Go.Proofs.YtpnpjffhkaejgaaGreatDoor
namespace Go.Proofs.YtpnpjffhkaejgaaGreatDoor
open Go.RowKit

def strBytes (s : ByteArray) : List Nat := s.data.toList.map UInt8.toNat
theorem strBytes_ok (s : ByteArray) : BytesOk (strBytes s) := fun x hx => by
  obtain ⟨b, _, rfl⟩ := List.mem_map.1 hx
  exact b.toNat_lt
theorem strBytes_len (s : ByteArray) : (strBytes s).length = s.size := by simp [strBytes]
theorem infoU8 : (Tryz.prog.info? 5).map (·.size) = some 1 := by kernel_rfl
def u8s (p : List Nat) : List Value := p.map fun x : Nat => Value.int .u8 (x : Int)
theorem u8s_len (p : List Nat) : (u8s p).length = p.length := by simp [u8s]
theorem u8s_get (p : List Nat) (i : Nat) : (u8s p)[i]? = p[i]?.map fun x : Nat => Value.int .u8 (x : Int) := by simp [u8s]
theorem u8s_one (p : List Nat) : ∀ v ∈ u8s p, v.oneCell' = true := fun v hv => by
  obtain ⟨x, _, rfl⟩ := List.mem_map.1 hv; rfl
theorem u8s_str (s : ByteArray) : u8s (strBytes s) = s.data.toList.map fun b => Value.int .u8 b.toNat := by simp [u8s, strBytes]
/-- A writer's cells with some bytes more laid behind those that were put. -/
theorem splice_put {cs : Array Value} {l p : List Nat} (hs : cs.size = 257) (hc : ∀ i, i < 256 → cs[i]? = some (.int .u8 (l.getD i 0 : Nat))) (ha : cs[256]? = some (.int .i64 (l.length : Nat))) (hr : l.length + p.length ≤ 256) :
    (splice cs l.length (u8s p)).size = 257 ∧ (∀ i, i < 256 → (splice cs l.length (u8s p))[i]? = some (.int .u8 ((l ++ p).getD i 0 : Nat))) ∧ (splice cs l.length (u8s p))[256]? = some (.int .i64 (l.length : Nat)) := by
  have hle : l.length + (u8s p).length ≤ cs.size := by rw [u8s_len]; omega
  refine ⟨by rw [splice_size _ _ _ hle, hs], fun i hi => ?_, ?_⟩ <;> rw [splice_get _ _ _ hle, u8s_len]
  · simp only [List.getD_eq_getElem?_getD, List.getElem?_append]
    by_cases h : l.length ≤ i ∧ i < l.length + p.length
    · rw [if_pos h, if_neg (by omega), u8s_get, List.getElem?_eq_getElem (by omega)]; rfl
    · rw [if_neg h, hc i hi, List.getD_eq_getElem?_getD]
      by_cases h2 : i < l.length
      · rw [if_pos h2]
      · rw [if_neg h2, List.getElem?_eq_none (by omega), List.getElem?_eq_none (by omega)]
  · rw [if_neg (by omega)]; exact ha
set_option maxRecDepth 100000 in
set_option maxHeartbeats 1600000 in
theorem text_any {b : Nat} {l : List Nat} {s : ByteArray} {w : World} (h : IsW w b l) (hr : l.length + s.size ≤ 256) (hr2 : l.length < 256) :
    Calls Tryz.prog 31 #[pt b, .string s] w fun e w' => e = .returned (.tuple #[]) ∧ IsW w' b (l ++ strBytes s) ∧ Upd [b] w w' := by
  obtain ⟨⟨cs, hb, hsz, hc, ha⟩, hok⟩ := h
  have hpl := strBytes_len s
  obtain ⟨hsz2, hc2, ha2⟩ := splice_put (p := strBytes s) hsz hc ha (by omega)
  have hat : w.cell? ⟨b, 256, none⟩ = some (.int .i64 (l.length : Nat)) := by rw [(cells_of hb).1]; exact ha
  obtain ⟨w2, hrun, hb2, hu2, _⟩ := copy_cells (P := Tryz.prog) w.drew 62 9 3 5 b l.length (256 - l.length) (256 - l.length) (.string s) cs _ (u8s (strBytes s)) Tryz.underlying62 infoU8 hb
    (.inl ⟨s, rfl, u8s_str s⟩) (by rw [u8s_len, hpl]; omega) (by rw [u8s_len, hpl]; omega) (u8s_one _)
  rw [u8s_len, hpl] at hrun
  have hat2 : w2.cell? ⟨b, 256, none⟩ = some (.int .i64 (l.length : Nat)) := by rw [(cells_of hb2).1]; exact ha2
  have hz2 := (cells_of hb2).2 256
  have HB2 := Lib.hid hb2
  have HU2 := Lib.hid (show Upd [b] w w2 from ⟨hu2.os, hu2.tape, hu2.output, hu2.size, hu2.block⟩)
  have HC2 := Lib.hid hc2
  have HSZ := Lib.hid hsz2
  have HPL := Lib.hid hpl
  have HA2 := Lib.hid ha2
  have hsl := fun w => run_arr_from (P := Tryz.prog) w Tryz.underlying87 infoU8 b 0 .i64 (l.length : Nat) (by omega) (by omega)
  simp only [Int.toNat_natCast, Nat.zero_add] at hsl
  clear hb hsz hc ha hsz2 hc2 ha2 hb2 hu2 hpl
  go_enter Tryz.func31, Tryz.ntmps31
  go_wp2
  go_region
  go_wp2
  go_end0
  have hu : Upd [b] w2 (w2.setCell ⟨b, 256, none⟩ (.int .i64 ((l.length : Int) + (s.size : Int)))) := (Upd.refl _ _).setCell (.inl (by simp)) _
  refine ⟨rfl, ⟨⟨_, heap_setCell_same w2 b 256 _ _ _ HB2.out, by simpa using HSZ.out, fun i hi => ?_, ?_⟩, hok.append (strBytes_ok s)⟩, HU2.out.trans hu⟩ <;> rw [Array.getElem?_setIfInBounds]
  · rw [if_neg (by omega)]; exact HC2.out i hi
  · rw [if_pos rfl, if_pos (by rw [HSZ.out]; decide), List.length_append, HPL.out]; simp

/-- The four bytes of a sum, the lowest first. -/
def le4 (s : Nat) : List Nat := [s % 256, s / 256 % 256, s / 65536 % 256, s / 16777216 % 256]
theorem le4_ok (s : Nat) : BytesOk (le4 s) := fun x hx => by
  simp only [le4, List.mem_cons, List.not_mem_nil, or_false] at hx
  omega
theorem build4 (a b c d : Int) : ∀ w, (Instr.build 115 #[(0, .int .u8 a), (1, .int .u8 b), (2, .int .u8 c), (3, .int .u8 d)]).run Tryz.prog w = .ok (.agg #[.int .u8 a, .int .u8 b, .int .u8 c, .int .u8 d]) w := fun w => by kernel_rfl
set_option maxRecDepth 100000 in
set_option maxHeartbeats 1600000 in
theorem tsum_any {t : Nat} {w : World} {a : Option Addr} {l : List Nat} {cap : Nat} (h : TabOk w t) (hb : IsBytes w a l) (hsep : ∀ b o, a = some ⟨b, o, none⟩ → b ≠ t) (hl : l.length ≤ 9223372036854775807) :
    Calls Tryz.prog 63 #[pt t, .slice a l.length cap] w fun e w' => e = .returned (.int .u32 (crc l)) ∧ IsTab w' t 1 0 tword ∧ Upd [t] w w' := by
  have H := Lib.hid h
  have HB := Lib.hid hb
  have HS := Lib.hid hsep
  clear h hb hsep
  go_enter Tryz.func63, Tryz.ntmps63
  go_wp2_with (go_at_call 75; refine (more_any H.out HB.out HS.out hl).mono ?_; rintro e w1 ⟨rfl, h1, u1⟩; have H1 := Lib.hid h1; have U1 := Lib.hid u1; clear h1 u1)
  go_ret
  exact ⟨rfl, H1.out, U1.out⟩
set_option maxRecDepth 100000 in
set_option maxHeartbeats 1600000 in
theorem sum_any {t : Nat} {w : World} {a : Option Addr} {l : List Nat} {cap : Nat} (h : TabOk w t) (hb : IsBytes w a l) (hsep : ∀ b o, a = some ⟨b, o, none⟩ → b ≠ t) (hl : l.length ≤ 9223372036854775807) :
    Calls Tryz.prog 55 #[pt t, .slice a l.length cap] w fun e w' => e = .returned (.agg (u8s (le4 (crc l))).toArray) ∧ IsTab w' t 1 0 tword ∧ Upd [t] w w' := by
  have hlt := h.lt
  have H : Hid (∀ o, TabOk (w.alloc o) t) := fun o => h.upd ((Upd.refl [] _).alloc o) (by simp)
  have HB : Hid (∀ o, IsBytes (w.alloc o) a l) := fun o => ⟨hb.1, fun i hi => by
    obtain ⟨b, o', ha, hc⟩ := hb.2 i hi
    exact ⟨b, o', ha, by rw [← hc]; exact World.cell?_alloc_lt _ _ _ (World.block_lt_of_cell? _ _ hc)⟩⟩
  have HS := Lib.hid hsep
  clear h hb hsep
  have hx0 := fun o => heap_alloc_new w o
  have HX := Lib.hid hx0
  clear hx0
  go_enter Tryz.func55, Tryz.ntmps55
  go_wp2_with fail
  refine (tsum_any (H.out _) (HB.out _) HS.out hl).mono ?_
  rintro e w1 ⟨rfl, h1, u1⟩
  have hx := u1.get (HX.out _) (by simp; omega)
  have H1 := Lib.hid h1
  have U1 := Lib.hid (((Upd.refl [t] w).alloc _).trans u1)
  have hsz := u1.size
  have hcr : crc l < 4294967296 := crc_lt (HB.out (.map #[] 0)).1
  obtain ⟨k1, k2⟩ := cells_of hx
  have k10 := k1 0; have k11 := k1 1; have k12 := k1 2; have k13 := k1 3
  have k20 := k2 0; have k21 := k2 1; have k22 := k2 2; have k23 := k2 3
  simp at k10 k11 k12 k13
  have HXB := Lib.hid hx
  have HCR := Lib.hid hcr
  clear h1 u1 hx k1 k2 hcr
  generalize hcc : crc l = c at *
  have HCC := Lib.hid hcc
  clear hcc
  go_wp2
  have g0 := heap_setCell_same w1 w.heap.size 0 _ _ (.int .u8 ((c : Int) % 256)) HXB.out
  have g1 := heap_setCell_same _ w.heap.size 1 _ _ (.int .u8 ((c : Int) / 256 % 256)) g0
  have g2 := heap_setCell_same _ w.heap.size 2 _ _ (.int .u8 ((c : Int) / 65536 % 256)) g1
  have g3 := heap_setCell_same _ w.heap.size 3 _ _ (.int .u8 ((c : Int) / 16777216 % 256)) g2
  have hu : Upd [t] w ((((w1.setCell ⟨w.heap.size, 0, none⟩ (.int .u8 ((c : Int) % 256))).setCell ⟨w.heap.size, 1, none⟩ (.int .u8 ((c : Int) / 256 % 256))).setCell ⟨w.heap.size, 2, none⟩ (.int .u8 ((c : Int) / 65536 % 256))).setCell ⟨w.heap.size, 3, none⟩ (.int .u8 ((c : Int) / 16777216 % 256))) :=
    (((U1.out.setCell (.inr (Nat.le_refl _)) _).setCell (.inr (Nat.le_refl _)) _).setCell (.inr (Nat.le_refl _)) _).setCell (.inr (Nat.le_refl _)) _
  have hu1 : Upd [w.heap.size] w1 ((((w1.setCell ⟨w.heap.size, 0, none⟩ (.int .u8 ((c : Int) % 256))).setCell ⟨w.heap.size, 1, none⟩ (.int .u8 ((c : Int) / 256 % 256))).setCell ⟨w.heap.size, 2, none⟩ (.int .u8 ((c : Int) / 65536 % 256))).setCell ⟨w.heap.size, 3, none⟩ (.int .u8 ((c : Int) / 16777216 % 256))) :=
    ((((Upd.refl _ _).setCell (.inl (by simp)) _).setCell (.inl (by simp)) _).setCell (.inl (by simp)) _).setCell (.inl (by simp)) _
  refine bodyPost_ret (v := .agg #[.int .u8 ((c : Int) % 256), .int .u8 ((c : Int) / 256 % 256), .int .u8 ((c : Int) / 65536 % 256), .int .u8 ((c : Int) / 16777216 % 256)])
    (results_cell_row Tryz.results55 _ _ w.heap.size 115 _ (0, 0) _ rfl g3 Tryz.underlying115 rfl (by kernel_rfl)) rfl ⟨?_, H1.out.upd hu1 (by simp; omega), hu⟩
  rw [HCC.out]
  simp [u8s, le4]
end Go.Proofs.YtpnpjffhkaejgaaGreatDoor
namespace Go.Proofs.YtpnpjffhkaejgaaGreatDoor
open Go.RowKit

/-- Block b begins with the bytes l, which may be written. -/
structure IsBlk (w : World) (b : Nat) (l : List Nat) : Prop where
  blk : ∃ cs ty, w.heap[b]? = some (.cells cs ty (0, 0)) ∧ ∀ i (h : i < l.length), cs[i]? = some (.int .u8 (l[i] : Int))
  ok : BytesOk l
theorem IsBlk.upd {w w' : World} {b : Nat} {l : List Nat} {S : List Nat} (h : IsBlk w b l) (u : Upd S w w') (hs : b ∉ S) : IsBlk w' b l := by
  obtain ⟨⟨cs, ty, hb, r⟩, ok⟩ := h; exact ⟨⟨cs, ty, u.get hb hs, r⟩, ok⟩
theorem IsBlk.lt {w : World} {b : Nat} {l : List Nat} (h : IsBlk w b l) : b < w.heap.size := by
  obtain ⟨⟨cs, ty, hb, _⟩, _⟩ := h; exact lt_of_block hb
theorem IsBlk.bytes {w : World} {b : Nat} {l : List Nat} (h : IsBlk w b l) : IsBytes w (some ⟨b, 0, none⟩) l := by
  obtain ⟨⟨cs, ty, hb, r⟩, ok⟩ := h
  exact ⟨ok, fun i hi => ⟨b, 0, rfl, by rw [Nat.zero_add, (cells_of hb).1]; exact r i hi⟩⟩
theorem IsBlk.fz {w : World} {b : Nat} {l : List Nat} (h : IsBlk w b l) (i : Nat) : w.frozen? ⟨b, i, none⟩ = false := by
  obtain ⟨⟨cs, ty, hb, _⟩, _⟩ := h; exact (cells_of hb).2 i
theorem IsBytes.upd {w w' : World} {a : Option Addr} {l : List Nat} {S : List Nat} (h : IsBytes w a l) (u : Upd S w w') (hs : ∀ b o, a = some ⟨b, o, none⟩ → b ∉ S) : IsBytes w' a l :=
  ⟨h.1, fun i hi => by
    obtain ⟨b, o, ha, hc⟩ := h.2 i hi
    exact ⟨b, o, ha, by rw [← hc]; exact World.cell?_of_block (u.block b (World.block_lt_of_cell? _ _ hc) (hs b o ha))⟩⟩

/-- What was put, as a sector. -/
def frame (l : List Nat) : List Nat := pad l 252 ++ le4 (crc (pad l 252))
theorem frame_len {l : List Nat} (h : l.length ≤ 252) : (frame l).length = 256 := by simp [frame, pad_len h, le4]
theorem frame_ok {l : List Nat} (h : BytesOk l) : BytesOk (frame l) := (h.pad _).append (le4_ok _)
theorem getD_of {l : List Nat} {i : Nat} (h : i < l.length) : l[i] = l.getD i 0 := by simp [List.getD_eq_getElem?_getD, h]
theorem infoA4 : (Tryz.prog.info? 115).map (·.size) = some 4 := by kernel_rfl
theorem IsW.padded {w : World} {b : Nat} {l : List Nat} (h : IsW w b l) {n : Nat} (hl : l.length ≤ n) (hn : n ≤ 256) : IsBlk w b (pad l n) := by
  obtain ⟨⟨cs, hb, hs, hc, _⟩, ok⟩ := h
  refine ⟨⟨cs, _, hb, fun i hi => ?_⟩, ok.pad _⟩
  rw [getD_of hi, pad_getD]
  rw [pad_len hl] at hi
  exact hc i (by omega)
theorem splice_frame {cs : Array Value} {l p : List Nat} (hs : cs.size = 257) (hl : l.length ≤ 252) (hp : p.length = 4) (hc : ∀ i, i < 256 → cs[i]? = some (.int .u8 (l.getD i 0 : Nat))) :
    ∀ i (h : i < (pad l 252 ++ p).length), (splice cs 252 (u8s p))[i]? = some (.int .u8 ((pad l 252 ++ p)[i] : Int)) := by
  intro i hi
  have hpl := pad_len hl
  rw [List.length_append, hpl, hp] at hi
  rw [splice_get _ _ _ (by rw [u8s_len]; omega), u8s_len, hp]
  by_cases h : 252 ≤ i
  · rw [if_pos (by omega), u8s_get, List.getElem_append_right (by omega), List.getElem?_eq_getElem (by omega)]
    simp [hpl]
  · rw [if_neg (by omega), List.getElem_append_left (by omega), hc i (by omega), getD_of, pad_getD]
theorem store4 (w : World) (s : Nat) : (storeCells ⟨w.heap.size, 0, none⟩ (u8s (le4 s))).run Tryz.prog (w.alloc (.cells #[.int .u8 0, .int .u8 0, .int .u8 0, .int .u8 0] 115)) =
    .ok () ((w.alloc (.cells #[.int .u8 0, .int .u8 0, .int .u8 0, .int .u8 0] 115)).setRow w.heap.size (u8s (le4 s)).toArray) := by
  have h := run_storeCells_at (P := Tryz.prog) w.heap.size 0 115 (u8s (le4 s)) 0 #[.int .u8 0, .int .u8 0, .int .u8 0, .int .u8 0] (w.alloc (.cells #[.int .u8 0, .int .u8 0, .int .u8 0, .int .u8 0] 115)) (heap_alloc_new _ _) (by simp [u8s_len, le4]) (u8s_one _)
  rw [Nat.add_zero] at h
  rw [h]
  simp [u8s, le4]
set_option maxRecDepth 100000 in
set_option maxHeartbeats 1600000 in
theorem framed_any {b t : Nat} {l : List Nat} {w : World} (h : IsW w b l) (hl : l.length ≤ 252) (ht : TabOk w t) (hne : b ≠ t) :
    Calls Tryz.prog 34 #[pt b, pt t] w fun e w' => e = .returned (.slice (some ⟨b, 0, none⟩) 256 256) ∧ IsBlk w' b (frame l) ∧ IsTab w' t 1 0 tword ∧ Upd [b, t] w w' := by
  have hsum := sum_any (cap := 256) ht (h.padded hl (by omega)).bytes (by rintro b' o ⟨⟩; exact hne) (by rw [pad_len hl]; omega)
  rw [pad_len hl] at hsum
  have hs1 := fun w => run_arr_to (P := Tryz.prog) w Tryz.underlying87 infoU8 b 0 .i64 252 (by decide) (by decide) (by decide)
  have hs2 := fun w => run_arr_from (P := Tryz.prog) w Tryz.underlying87 infoU8 b 0 .i64 252 (by decide) (by decide)
  have hs3 := fun w => run_arr_all (P := Tryz.prog) w Tryz.underlying87 infoU8 b 0 (by decide)
  have hs4 := fun w g => run_arr_all (P := Tryz.prog) w Tryz.underlying115 infoU8 g 0 (by decide)
  simp only [show (252 : Int).toNat = 252 from rfl, Nat.zero_add, show 256 - 252 = 4 from rfl] at hs1 hs2 hs3 hs4
  have hst := fun w => store4 w (crc (pad l 252))
  have hlt := h.lt
  have H := Lib.hid h
  have HT := Lib.hid ht.lt
  have HNE := Lib.hid hne
  have HLT := Lib.hid hlt
  have HL := Lib.hid hl
  have HSUM := Lib.hid hsum
  clear h hl ht hsum hne hlt
  go_enter Tryz.func34, Tryz.ntmps34
  go_wp2_with fail
  refine HSUM.out.mono ?_
  rintro e w1 ⟨rfl, h1, u1⟩
  have H1 := Lib.hid h1
  have U1 := Lib.hid u1
  clear h1 u1
  go_wp2
  have hbt : b ∉ [t] := by simpa using HNE.out
  obtain ⟨cs, hb, hs, hc, ha⟩ := (H.out.upd U1.out hbt).blk
  have hsz := U1.out.size
  have hlt1 : b < w1.heap.size := Nat.lt_of_lt_of_le HLT.out hsz
  have hok : BytesOk (pad l 252) := H.out.ok.pad _
  have uA : Upd [] w1 ((w1.alloc (.cells #[.int .u8 0, .int .u8 0, .int .u8 0, .int .u8 0] 115)).setRow w1.heap.size (u8s (le4 (crc (pad l 252)))).toArray) := ((Upd.refl _ _).alloc _).setRow (.inr (Nat.le_refl _)) _
  have hg : ((w1.alloc (.cells #[.int .u8 0, .int .u8 0, .int .u8 0, .int .u8 0] 115)).setRow w1.heap.size (u8s (le4 (crc (pad l 252)))).toArray).heap[w1.heap.size]? = some (.cells (u8s (le4 (crc (pad l 252)))).toArray 115 (0, 0)) := setRow_heap _ _ _ _ _ _ (heap_alloc_new _ _)
  have hbA := uA.get hb (by simp)
  generalize hwA : ((w1.alloc (.cells #[.int .u8 0, .int .u8 0, .int .u8 0, .int .u8 0] 115)).setRow w1.heap.size (u8s (le4 (crc (pad l 252)))).toArray) = wA at *
  obtain ⟨w2, hrun, hb2, hu2, hz2⟩ := copy_cells (P := Tryz.prog) wA.drew 62 62 3 5 b 252 4 4 (.slice (some ⟨w1.heap.size, 0, none⟩) 4 4) cs _ (u8s (le4 (crc (pad l 252)))) Tryz.underlying62 infoU8 hbA
    (.inr ⟨⟨w1.heap.size, 0, none⟩, 4, by rw [u8s_len]; rfl, fun j v hj => by rw [add_off, Nat.zero_add, (cells_of (w := wA.drew) hg).1]; simpa using hj⟩) (by rw [u8s_len]; exact Nat.le_refl _) (by rw [u8s_len, hs]; show 252 + 4 ≤ 257; decide) (u8s_one _)
  rw [u8s_len] at hrun
  have HWA := Lib.hid hwA
  have HB2 := Lib.hid hb2
  have HS := Lib.hid (splice_frame (p := le4 (crc (pad l 252))) hs HL.out (by simp [le4]) hc)
  have HU := Lib.hid (show Upd [b, t] w w2 from ((U1.out.mono (by simp)).trans (uA.mono (by simp))).drew.trans (hu2.mono (by simp)))
  have HTW := Lib.hid ((H1.out.upd uA (by simp)).upd (show Upd [b] wA w2 from ⟨hu2.os, hu2.tape, hu2.output, hu2.size, hu2.block⟩) (by simpa using Ne.symm HNE.out))
  have HOK := Lib.hid (hok.append (le4_ok (crc (pad l 252))))
  clear hb hs hc ha hsz hlt1 hok uA hg hbA hwA hb2 hu2 hz2 hbt
  go_region
  go_wp2
  go_ret
  exact ⟨rfl, ⟨⟨_, _, HB2.out, HS.out⟩, HOK.out⟩, HTW.out, HU.out⟩

theorem in_any (n most : Int) (w : World) : Calls Tryz.prog 32 #[.int .i64 n, .int .i64 most] w fun e w' => w' = w ∧ e = .returned (.bool (decide (0 ≤ n ∧ n ≤ most))) := by
  by_cases h1 : 0 ≤ n <;> by_cases h2 : n ≤ most <;>
  · go_enter Tryz.func32, Tryz.ntmps32
    go_wp2
    go_ret
    simp_all
end Go.Proofs.YtpnpjffhkaejgaaGreatDoor
