/-
  PROVED HERE: More and Sum of package crc return the sum of the bytes. Conditions: the table's block is its own; nobody holds its lock; the bytes do not lie in the table.
-/
import Derived.Test.YtpnpjffhkaejgaaDoorTable
namespace Go.Proofs.YtpnpjffhkaejgaaDoor
open Go.RowKit

/-- A table that may be used: not made yet, or made. -/
def TabOk (w : World) (t : Nat) : Prop := (∃ f, IsTab w t 0 0 f) ∨ IsTab w t 1 0 tword
theorem TabOk.upd {w w' : World} {t : Nat} {S : List Nat} (h : TabOk w t) (u : Upd S w w') (hs : t ∉ S) : TabOk w' t := by
  rcases h with ⟨f, h⟩ | h
  · exact .inl ⟨f, h.upd u hs⟩
  · exact .inr (h.upd u hs)
theorem TabOk.lt {w : World} {t : Nat} (h : TabOk w t) : t < w.heap.size := by
  rcases h with ⟨f, h⟩ | h <;> exact h.lt

set_option maxRecDepth 100000 in
set_option maxHeartbeats 1600000 in
theorem slow_any {t : Nat} {f : Nat → Nat} {w : World} (h : IsTab w t 0 0 f) :
    Calls Tryd.prog 89 #[pt t, .func (.func 79) #[pt t] #[]] w fun e w' => e = .returned (.tuple #[]) ∧ IsTab w' t 1 0 tword ∧ Upd [t] w w' := by
  have h1 := h.set1 1
  have hl := run_call_load (P := Tryd.prog) Tryd.func91 (by kernel_rfl) (by kernel_rfl) (by kernel_rfl) .u32 (by kernel_rfl) (w := w.setCell ⟨t, 1, none⟩ (.int .i32 1)) (a := ⟨t, 0, none⟩) (x := 0) h1.c0
  have hnot : ∀ (x : Bool) (w : World), (Op.unary .not (.bool x)).run Tryd.prog w = .ok (.bool (!x)) w := fun _ _ => rfl
  have H := Lib.hid h
  have H1 := Lib.hid h1
  have hU : Upd [t] w (w.setCell ⟨t, 1, none⟩ (.int .i32 1)) := (Upd.refl _ _).setCell (.inl (by simp)) _
  have HU := Lib.hid hU
  clear h h1 hU
  go_enter_defers Tryd.func89, Tryd.ntmps89
  go_wp2_with (first | (go_at_call 92; refine (lock_free ⟨t, 1, none⟩ _ H.out.c1 (H.out.fz 1)).mono ?_; rintro e w' ⟨rfl, rfl⟩) | (go_at_call 88; go_in))
  refine (make_any H1.out).mono ?_
  rintro e w1 ⟨rfl, h2, u2⟩
  have H2 := Lib.hid h2
  have U2 := Lib.hid (HU.out.trans u2)
  clear h2 u2
  go_wp2
  refine leaves_cons (f := 94) (args := #[.pointer (some ⟨t, 0, none⟩), .bool true]) (by simp) (by simp [go_sem]) ?_
  refine (store_deferred ⟨t, 0, none⟩ (.int .u32 0) .returning _ H2.out.c0 (H2.out.fz 0)).mono ?_
  rintro e u' w'' ⟨rfl, rfl, rfl⟩
  have h3 : IsTab (w1.drew.setCell ⟨t, 0, none⟩ (.int .u32 1)) t 1 1 tword := IsTab.set0 (w := w1.drew) H2.out 1
  refine leaves_cons (f := 93) (args := #[.pointer (some ⟨t, 1, none⟩)]) (by simp [settle]) (by simp [go_sem]) ?_
  refine (unlock_deferred ⟨t, 1, none⟩ _ _ h3.c1 (h3.fz 1)).mono ?_
  rintro e u' w'' ⟨rfl, rfl, rfl⟩
  have hfin : IsTab ((w1.drew.setCell ⟨t, 0, none⟩ (.int .u32 1)).setCell ⟨t, 1, none⟩ (.int .i32 0)) t 1 0 tword := h3.set1 0
  have hu : Upd [t] w ((w1.drew.setCell ⟨t, 0, none⟩ (.int .u32 1)).setCell ⟨t, 1, none⟩ (.int .i32 0)) := (U2.out.drew.setCell (.inl (by simp)) _).setCell (.inl (by simp)) _
  simp [Leaves, settle, results, Tryd.results89]
  exact ⟨hfin, hu⟩

set_option maxRecDepth 100000 in
set_option maxHeartbeats 1600000 in
theorem do_any {t : Nat} {w : World} (h : TabOk w t) :
    Calls Tryd.prog 78 #[pt t, .func (.func 79) #[pt t] #[]] w fun e w' => e = .returned (.tuple #[]) ∧ IsTab w' t 1 0 tword ∧ Upd [t] w w' := by
  have hnot : ∀ (x : Bool) (w : World), (Op.unary .not (.bool x)).run Tryd.prog w = .ok (.bool (!x)) w := fun _ _ => rfl
  rcases h with ⟨f, h⟩ | h
  · have hl := run_call_load (P := Tryd.prog) Tryd.func91 (by kernel_rfl) (by kernel_rfl) (by kernel_rfl) .u32 (by kernel_rfl) h.c0
    have H := Lib.hid h
    clear h
    go_enter Tryd.func78, Tryd.ntmps78
    go_wp2_with (first | (go_at_call 89; refine (slow_any H.out).mono ?_; rintro e w1 ⟨rfl, h1, u1⟩; have H1 := Lib.hid h1; have U1 := Lib.hid u1; clear h1 u1) | (go_at_call 88; go_in))
    go_end0
    exact ⟨rfl, H1.out, U1.out⟩
  · have hl := run_call_load (P := Tryd.prog) Tryd.func91 (by kernel_rfl) (by kernel_rfl) (by kernel_rfl) .u32 (by kernel_rfl) h.c0
    have H := Lib.hid h
    clear h
    go_enter Tryd.func78, Tryd.ntmps78
    go_wp2
    go_end0
    exact ⟨rfl, H.out, Upd.refl _ _⟩

/-- The bytes that a slice reads as. -/
def IsBytes (w : World) (a : Option Addr) (l : List Nat) : Prop := (∀ b ∈ l, b < 256) ∧ ∀ i (h : i < l.length), ∃ b o, a = some ⟨b, o, none⟩ ∧ w.cell? ⟨b, o + i, none⟩ = some (.int .u8 (l[i] : Int))
theorem compl32 (c : Nat) (h : c < 4294967296) : (c ^^^ 4294967295 : Nat) = 4294967295 - c := by
  apply Nat.eq_of_testBit_eq
  intro i
  rw [Nat.testBit_xor, show 4294967295 - c = 2 ^ 32 - (c + 1) by omega, Nat.testBit_two_pow_sub_succ (show c < 2 ^ 32 from h), show (4294967295 : Nat) = 2 ^ 32 - 1 by decide, Nat.testBit_two_pow_sub_one]
  by_cases hi : i < 32
  · simp [hi]
  · simp [hi, Nat.testBit_lt_two_pow (Nat.lt_of_lt_of_le h (Nat.pow_le_pow_right (by decide : 0 < 2) (show 32 ≤ i by omega)))]
theorem more_word (c b : Nat) (h : c < 4294967296) (hb : b < 256) : bits BinOp.xor IntKind.u32 ((c : Int) / 256) ((tword ((c % 256) ^^^ b) : Nat) : Int) = (cbyte c b : Int) := by
  have hx : (c % 256) ^^^ b < 2 ^ 8 := Nat.xor_lt_two_pow (n := 8) (by omega) hb
  rw [cbyte_table c b hb, show (c : Int) / 256 = ((c / 256 : Nat) : Int) by simp, show tword ((c % 256) ^^^ b) = csteps 8 ((c % 256) ^^^ b) from rfl, u32_xor_nat _ _ (by omega) (csteps_lt 8 (by omega))]
theorem not_zero32 : bits BinOp.xor IntKind.u32 IntKind.u32.max 0 = 4294967295 := by decide
theorem max32 : IntKind.u32.max = ((4294967295 : Nat) : Int) := by decide
theorem not_word (c : Nat) (h : c < 4294967296) : Ending.returned (.int .u32 (bits BinOp.xor IntKind.u32 IntKind.u32.max (c : Int))) = Ending.returned (.int .u32 ((c ^^^ 4294967295 : Nat) : Int)) := by
  rw [max32, u32_xor_nat _ _ (by decide) h, Nat.xor_comm]
set_option maxRecDepth 100000 in
set_option maxHeartbeats 1600000 in
theorem more_any {t : Nat} {w : World} {a : Option Addr} {l : List Nat} {cap : Nat} (h : TabOk w t) (hb : IsBytes w a l) (hsep : ∀ b o, a = some ⟨b, o, none⟩ → b ≠ t) (hl : l.length ≤ 9223372036854775807) :
    Calls Tryd.prog 62 #[pt t, .int .u32 0, .slice a l.length cap] w fun e w' => e = .returned (.int .u32 (crc l)) ∧ IsTab w' t 1 0 tword ∧ Upd [t] w w' := by
  have H := Lib.hid h
  have HB := Lib.hid hb
  have HS := Lib.hid hsep
  clear h hb hsep
  go_enter Tryd.func62, Tryd.ntmps62
  go_wp2_with (go_at_call 78; refine (do_any H.out).mono ?_; rintro e w1 ⟨rfl, h1, u1⟩; have H1 := Lib.hid h1; have U1 := Lib.hid u1; clear h1 u1)
  go_loop [7, 20] (fun c i => ∃ k : Nat, k ≤ l.length ∧ i = .int .i64 k ∧ c = .int .u32 (cmore 4294967295 (l.take k))) (fun _ i => l.length - (intOf i).toNat)
  case atStart => exact ⟨0, by omega, rfl, by rw [not_zero32]; rfl⟩
  case round =>
    obtain ⟨k, hk, rfl, rfl⟩ := hrel
    by_cases hlt : k < l.length
    · obtain ⟨b, o, rfl, hc⟩ := HB.out.2 k hlt
      have hne := HS.out b o rfl
      have hb := HB.out.1 l[k] (List.getElem_mem hlt)
      have hcl : cmore 4294967295 (l.take k) < 4294967296 := cmore_lt (fun x hx => HB.out.1 x (List.mem_of_mem_take hx)) (by decide)
      have hc1 : w1.cell? ⟨b, o + k, none⟩ = some (.int .u8 (l[k] : Int)) := by
        rw [← hc]; exact World.cell?_of_block (U1.out.block b (World.block_lt_of_cell? _ _ hc) (by simpa using hne))
      have hstep : cmore 4294967295 (l.take (k + 1)) = cbyte (cmore 4294967295 (l.take k)) l[k] := by
        rw [List.take_succ_eq_append_getElem hlt, cmore_snoc]
      have hword := more_word _ _ hcl hb
      have hx : (cmore 4294967295 (l.take k)) % 256 ^^^ l[k] < 2 ^ 8 := Nat.xor_lt_two_pow (n := 8) (by omega) hb
      have hxi : bits BinOp.xor IntKind.u8 (((cmore 4294967295 (l.take k)) : Int) % 256) (l[k] : Int) = (((cmore 4294967295 (l.take k)) % 256 ^^^ l[k] : Nat) : Int) := by
        rw [show ((cmore 4294967295 (l.take k) : Nat) : Int) % 256 = ((cmore 4294967295 (l.take k) % 256 : Nat) : Int) by simp]
        exact u8_xor_nat _ _ (by omega) hb
      have hci := H1.out.ci (i := (cmore 4294967295 (l.take k)) % 256 ^^^ l[k]) (by omega)
      have HSt := Lib.hid hstep
      have HW := Lib.hid hword
      generalize cmore 4294967295 (l.take k) = c at *
      generalize l[k] = v at *
      clear hstep hword hc
      generalize hz : c % 256 ^^^ v = z at *
      have HZ := Lib.hid hz
      clear hz
      go_wp2
      go_round
      case rel => exact ⟨k + 1, by omega, by go_num, by rw [HSt.out, HW.out]⟩
      case measure => simp [intOf]; omega
    · obtain rfl : k = l.length := by omega
      go_wp2
      go_ret
      exact ⟨not_word _ (cmore_lt HB.out.1 (by decide)), H1.out, U1.out⟩
end Go.Proofs.YtpnpjffhkaejgaaDoor
