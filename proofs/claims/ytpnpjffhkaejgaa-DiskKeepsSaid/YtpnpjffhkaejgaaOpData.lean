/-
  PROVED HERE: what a step writes (Op.data). Conditions: those that each theorem names.
-/
import Derived.Test.YtpnpjffhkaejgaaBytes
import Derived.Carry
namespace Go.Proofs.Ytpnpjffhkaejgaa
open Go.RowKit

theorem wpList_push1 {w : World} {ops : Array Oper} {rest : List Oper} {o : Oper} {a : Act} {Q : Exit → Act → World → Prop} (hgd : o.guard = none) (s x : Operand)
    (ho : o.op = .call { callee := .builtin .append, args := #[s, x], argTypes := #[31, 31] }) {B : Nat} {v : Value} {l : List Nat} (hs : a.eval s = v) (hown : IsRow w B v l)
    (g : Nat) (c : Nat) (n : Nat) (hn : n < 256) (hx : a.eval x = .slice (some ⟨g, 0, none⟩) 1 c) (hc : w.cell? ⟨g, 0, none⟩ = some (.int .u8 (n : Nat))) (hr : l.length ≤ 100000000000) (hB : B ≤ w.heap.size)
    (h : ∀ v' w', IsRow w' B v' (l ++ [n]) → Mine v w v' w' → wpList Try.prog ops Q rest (a.put o.dst v') w') : wpList Try.prog ops Q (o :: rest) a w := by
  obtain ⟨i0, hi, hz0, hz1, hz2⟩ := info_parts infoByte
  refine wpList_append_blk w hgd s x 31 ho B 5 i0 _ 1 1 Try.underlying31 hi hz0 hz1 hz2 rfl (by decide) v _ _ hs hown.1 ⟨g, 0, none⟩ 1 c [.int .u8 (n : Nat)] hx rfl ?_ ?_ (by unfold maxLen; omega) (by omega) hB fun v' w' h1 h2 => h v' w' ⟨?_, ?_⟩ h2
  · intro j u hj
    cases j with
    | zero => rw [add_off, hc]; simpa using hj
    | succ j => simp at hj
  · simp [Value.oneCell']
  · rw [List.length_append, show u8s (l ++ [n]) = u8s l ++ [.int .u8 (n : Nat)] by simp [u8s]]
    exact h1
  · exact hown.2.append fun b hb => by rw [List.mem_singleton.1 hb]; exact hn
def opCount (count : Int) : Int := if count < 0 ∨ 20 < count then 0 else count
def opLen (count bytes : Int) : Nat := (256 * opCount count + bytes.tmod 256).toNat
def opByte (fill : Int) (i : Nat) : Nat := ((fill + ((i / 256 : Nat) : Int)) % 256).toNat
def opData (count bytes fill : Int) : List Nat := (List.range (opLen count bytes)).map (opByte fill)
theorem opByte_lt (fill : Int) (i : Nat) : opByte fill i < 256 := by unfold opByte; omega
theorem opData_len (count bytes fill : Int) : (opData count bytes fill).length = opLen count bytes := by simp [opData]
theorem opData_ok (count bytes fill : Int) : BytesOk (opData count bytes fill) := fun x hx => by
  obtain ⟨i, _, rfl⟩ := List.mem_map.1 hx
  exact opByte_lt fill i
theorem opLen_le (count bytes : Int) : opLen count bytes ≤ 5375 := by
  unfold opLen opCount
  have h1 := Int.tmod_lt_of_pos bytes (show (0 : Int) < 256 by decide)
  split <;> omega
theorem wrap_byte (f : Int) (q : Nat) : wrap64 (f + (q : Int) / 256) % 256 = (opByte f q : Nat) := by
  unfold opByte wrap64
  rw [show ((q / 256 : Nat) : Int) = (q : Int) / 256 by omega]
  generalize f + (q : Int) / 256 = x
  simp
  omega
theorem tmod_bounds (b : Int) : -256 < b.tmod 256 ∧ b.tmod 256 < 256 := by
  have h1 := Int.tmod_lt_of_pos b (show (0 : Int) < 256 by decide)
  have h2 := Int.tmod_lt_of_pos (-b) (show (0 : Int) < 256 by decide)
  rw [Int.neg_tmod] at h2
  omega
def opV (k a c b f : Int) (u : Bool) (p : Value) : Value := .agg #[.int .i64 k, .int .i64 a, .int .i64 c, .int .i64 b, .int .i64 f, .bool u, p]
set_option maxRecDepth 100000 in
set_option maxHeartbeats 1600000 in
theorem data_any {w : World} (k a c b f : Int) (u : Bool) (p : Value) :
    Calls Try.prog 14 #[.agg #[.int .i64 k, .int .i64 a, .int .i64 c, .int .i64 b, .int .i64 f, .bool u, p]] w fun e w' => CloneRow w.heap.size (opData c b f) e w' ∧ Upd [] w w' := by
  obtain ⟨t1, t2⟩ := tmod_bounds b
  have HL := Lib.hid (opLen_le c b)
  have hm : (c < 0 ∧ ((opLen c b : Nat) : Int) = max 0 (256 * 0 + b.tmod 256)) ∨ (0 ≤ c ∧ 20 < c ∧ ((opLen c b : Nat) : Int) = max 0 (256 * 0 + b.tmod 256)) ∨ (0 ≤ c ∧ c ≤ 20 ∧ ((opLen c b : Nat) : Int) = max 0 (256 * c + b.tmod 256)) := by
    unfold opLen opCount
    by_cases h1 : c < 0
    · left; rw [if_pos (.inl h1)]; omega
    · by_cases h2 : 20 < c
      · right; left; rw [if_pos (.inr h2)]; omega
      · right; right; rw [if_neg (by omega)]; omega
  generalize hb : b.tmod 256 = r at *
  obtain ⟨m, hM⟩ : ∃ m, opLen c b = m := ⟨_, rfl⟩
  have HM := Lib.hid hM
  rw [hM] at hm HL
  clear hM
  rcases hm with ⟨h1, hm⟩ | ⟨h1, h2, hm⟩ | ⟨h1, h2, hm⟩
  all_goals
    go_enter Try.func14, Try.ntmps14
    go_wp2
    go_loopw [5, 6] (fun v i wr => ∃ q : Nat, q ≤ m ∧ i = .int .i64 q ∧ IsRow wr (w.heap.size + 1) v ((opData c b f).take q) ∧ Upd [] (w.alloc (.cells #[.int .i64 k, .int .i64 a, .int .i64 c, .int .i64 b, .int .i64 f, .bool u, p] 29)) wr) (fun _ i _ => m - (RowKit.intOf i).toNat)
    case atStart => exact ⟨0, by omega, rfl, IsRow.nil _ _, Upd.refl _ _⟩
    case round =>
      obtain ⟨q, hq, rfl, hV, hU⟩ := hrel
      have HV := Lib.hid hV
      have HU := Lib.hid hU
      have hcf := cells_of (hU.get (heap_alloc_new w (.cells #[.int .i64 k, .int .i64 a, .int .i64 c, .int .i64 b, .int .i64 f, .bool u, p] 29)) (by simp))
      have hc4 := hcf.1 4
      simp only [List.getElem?_toArray, List.getElem?_cons_zero, List.getElem?_cons_succ] at hc4
      have hsz := hU.size
      rw [World.size_alloc] at hsz
      have hx8 : wrap64 (f + (q : Int) / 256) % 256 = (opByte f q : Nat) := wrap_byte f q
      have HT := Lib.hid (show q < m → (opData c b f).take (q + 1) = (opData c b f).take q ++ [opByte f q] from fun hlt => by
        have hl : q < (opData c b f).length := by rw [opData_len, HM.out]; exact hlt
        rw [List.take_succ_eq_append_getElem hl]
        simp [opData])
      have HLN := Lib.hid (show ((opData c b f).take q).length ≤ 100000000000 by rw [List.length_take, opData_len, HM.out]; have := HL.out; omega)
      clear hV hU hcf
      by_cases hlt : q < m
      · go_wp2_with (at_builtin; refine wpList_push1 rfl (.tmp 26) (.tmp 33) rfl rfl (HV.out.upd ((Upd.refl [] _).alloc _) (by simp)) wr.heap.size 1 (opByte f q) (opByte_lt f q) rfl (news_at _ _ _ 0 _ (by rw [← hx8]; rfl)) HLN.out (by simp; omega) ?_; intro v' w3 hn3 hx3; have HN3 := Lib.hid hn3; have HX3 := Lib.hid hx3; clear hn3 hx3)
        go_roundw
        case rel => exact ⟨q + 1, by omega, by go_num, by rw [HT.out hlt]; exact HN3.out, (HU.out.alloc _).step HX3.out.upd fun x hx => .inr (by have := HV.out.low x hx; rw [World.size_alloc]; exact this)⟩
        case measure => simp [RowKit.intOf]; omega
      · go_wp2
        go_ret
        refine ⟨⟨_, rfl, ?_⟩, ((Upd.refl [] w).alloc _).trans HU.out⟩
        have hv := HV.out.base (Nat.le_succ w.heap.size)
        rwa [List.take_of_length_le (by rw [opData_len, HM.out]; omega)] at hv
end Go.Proofs.Ytpnpjffhkaejgaa
