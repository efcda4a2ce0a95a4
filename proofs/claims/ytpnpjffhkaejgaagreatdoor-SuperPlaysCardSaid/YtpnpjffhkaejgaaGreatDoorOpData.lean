/-
  PROVED HERE: what a step writes (Op.data). Conditions: those that each theorem names.
-/
import Derived.Test.YtpnpjffhkaejgaaGreatDoorBytes
import Derived.Carry
namespace Go.Proofs.YtpnpjffhkaejgaaGreatDoor
open Go.RowKit

theorem wpList_push1 {w : World} {ops : Array Oper} {rest : List Oper} {o : Oper} {a : Act} {Q : Exit → Act → World → Prop} (hgd : o.guard = none) (s x : Operand)
    (ho : o.op = .call { callee := .builtin .append, args := #[s, x], argTypes := #[62, 62] }) {B : Nat} {v : Value} {l : List Nat} (hs : a.eval s = v) (hown : IsRow w B v l)
    (g : Nat) (c : Nat) (n : Nat) (hn : n < 256) (hx : a.eval x = .slice (some ⟨g, 0, none⟩) 1 c) (hc : w.cell? ⟨g, 0, none⟩ = some (.int .u8 (n : Nat))) (hr : l.length ≤ 100000000000) (hB : B ≤ w.heap.size)
    (h : ∀ v' w', IsRow w' B v' (l ++ [n]) → Mine v w v' w' → wpList Tryz.prog ops Q rest (a.put o.dst v') w') : wpList Tryz.prog ops Q (o :: rest) a w := by
  obtain ⟨i0, hi, hz0, hz1, hz2⟩ := info_parts infoByte
  refine wpList_append_blk w hgd s x 62 ho B 5 i0 _ 1 1 Tryz.underlying62 hi hz0 hz1 hz2 rfl (by decide) v _ _ hs hown.1 ⟨g, 0, none⟩ 1 c [.int .u8 (n : Nat)] hx rfl ?_ ?_ (by unfold maxLen; omega) (by omega) hB fun v' w' h1 h2 => h v' w' ⟨?_, ?_⟩ h2
  · intro j u hj
    cases j with
    | zero => rw [add_off, hc]; simpa using hj
    | succ j => simp at hj
  · simp [Value.oneCell']
  · rw [List.length_append, show u8s (l ++ [n]) = u8s l ++ [.int .u8 (n : Nat)] by simp [u8s]]
    exact h1
  · exact hown.2.append fun b hb => by rw [List.mem_singleton.1 hb]; exact hn
def opCount (count : Int) : Int := if count < 0 ∨ 20 < count then 0 else count
def opLen (count bytes : Int) : Nat := (256 * opCount count + bytes.tmod 256).toNat
def opByte (fill : Int) (i : Nat) : Nat := ((fill + ((i / 256 : Nat) : Int)) % 256).toNat
def opData (count bytes fill : Int) : List Nat := (List.range (opLen count bytes)).map (opByte fill)
theorem opByte_lt (fill : Int) (i : Nat) : opByte fill i < 256 := by unfold opByte; omega
theorem opData_len (count bytes fill : Int) : (opData count bytes fill).length = opLen count bytes := by simp [opData]
theorem opData_ok (count bytes fill : Int) : BytesOk (opData count bytes fill) := fun x hx => by
  obtain ⟨i, _, rfl⟩ := List.mem_map.1 hx
  exact opByte_lt fill i
theorem opLen_le (count bytes : Int) : opLen count bytes ≤ 5375 := by
  unfold opLen opCount
  have h1 := Int.tmod_lt_of_pos bytes (show (0 : Int) < 256 by decide)
  split <;> omega
theorem wrap_byte (f : Int) (q : Nat) : wrap64 (f + (q : Int) / 256) % 256 = (opByte f q : Nat) := by
  unfold opByte wrap64
  rw [show ((q / 256 : Nat) : Int) = (q : Int) / 256 by omega]
  generalize f + (q : Int) / 256 = x
  simp
  omega
theorem tmod_bounds (b : Int) : -256 < b.tmod 256 ∧ b.tmod 256 < 256 := by
  have h1 := Int.tmod_lt_of_pos b (show (0 : Int) < 256 by decide)
  have h2 := Int.tmod_lt_of_pos (-b) (show (0 : Int) < 256 by decide)
  rw [Int.neg_tmod] at h2
  omega
def opV (k a c b f : Int) (u : Bool) (p : Value) : Value := .agg #[.int .i64 k, .int .i64 a, .int .i64 c, .int .i64 b, .int .i64 f, .bool u, p]
end Go.Proofs.YtpnpjffhkaejgaaGreatDoor
