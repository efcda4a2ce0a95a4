/-
  PROVED HERE: plain laws: what turning bits does to the sum of bytes; a sector that was sound, with up to 32 bits side by side turned, is not sound. Conditions: those that each theorem names; no program's text is used.
-/
import Derived.Test.YtkahpkmofeglgaaDoorPageH
import Derived.Test.YtkahpkmofeglgaaDoorHeadGet
namespace Go.Proofs.YtkahpkmofeglgaaDoor
open Go.RowKit

theorem csteps_add (a b c : Nat) : csteps (a + b) c = csteps b (csteps a c) := by
  induction a generalizing c with
  | zero => rw [Nat.zero_add]; rfl
  | succ a ih => rw [Nat.succ_add]; show csteps (a + b) (cstep c) = _; rw [ih]; rfl
theorem xor_zero_eq {a b : Nat} (h : a ^^^ b = 0) : a = b := by
  have : a ^^^ b ^^^ b = b := by rw [h, Nat.zero_xor]
  rwa [Nat.xor_assoc, Nat.xor_self, Nat.xor_zero] at this
theorem cstep_zero {x : Nat} (hx : x < 4294967296) (h : cstep x = 0) : x = 0 := by
  unfold cstep at h
  have h2 := xor_zero_eq h
  unfold poly at h2
  rcases Nat.mod_two_eq_zero_or_one x with e | e <;> rw [e] at h2 <;> omega
theorem csteps_zero (k : Nat) {x : Nat} (hx : x < 4294967296) (h : csteps k x = 0) : x = 0 := by
  induction k generalizing x with
  | zero => exact h
  | succ k ih => exact cstep_zero hx (ih (cstep_lt hx) h)
/-- The number that bytes are, the lowest first. -/
def leNum : List Nat → Nat
  | [] => 0
  | b :: l => b + 256 * leNum l
theorem add_xor {b : Nat} (hb : b < 256) (m : Nat) : b + 256 * m = b ^^^ (2 ^ 8 * m) := by
  apply Nat.eq_of_testBit_eq
  intro i
  rw [Nat.testBit_xor, Nat.add_comm, show 256 * m = 2 ^ 8 * m from rfl, Nat.testBit_two_pow_mul_add m (show b < 2 ^ 8 from hb), Nat.testBit_two_pow_mul]
  by_cases hi : i < 8
  · simp [hi, show ¬ (i ≥ 8) by omega]
  · rw [if_neg hi, Nat.testBit_lt_two_pow (x := b) (Nat.lt_of_lt_of_le (show b < 2 ^ 8 from hb) (Nat.pow_le_pow_right (by decide) (by omega)))]
    simp [show i ≥ 8 by omega]
theorem cmore_le {l : List Nat} (hl : ∀ b ∈ l, b < 256) (c : Nat) : cmore c l = csteps (8 * l.length) (c ^^^ leNum l) := by
  induction l generalizing c with
  | nil => simp [cmore, csteps, leNum]
  | cons b l ih =>
    show cmore (cbyte c b) l = _
    rw [ih (fun x hx => hl x (by simp [hx])), List.length_cons, show 8 * (l.length + 1) = 8 + 8 * l.length by omega, csteps_add]
    congr 1
    rw [show leNum (b :: l) = b ^^^ (2 ^ 8 * leNum l) from add_xor (hl b (by simp)) _, ← Nat.xor_assoc, csteps_xor, csteps_pow]
    rfl
theorem leNum_le4 {s : Nat} (h : s < 4294967296) : leNum (le4 s) = s := by
  simp only [le4, leNum]; omega
theorem cmore_append (c : Nat) (a b : List Nat) : cmore c (a ++ b) = cmore (cmore c a) b := by simp [cmore]
theorem sound_res {l word : List Nat} (hl : BytesOk l) (hs : soundL l word = true) : cmore 4294967295 l = csteps 32 4294967295 := by
  unfold soundL at hs
  simp only [decide_eq_true_eq] at hs
  obtain ⟨h1, h2, _⟩ := hs
  have e : cmore 4294967295 l = cmore (cmore 4294967295 (l.take 252)) (l.drop 252) := by rw [← cmore_append, List.take_append_drop]
  have hlt : crc (l.take 252) < 4294967296 := crc_lt (BytesOk.take hl 252)
  rw [e, h2, cmore_le (le4_ok _), leNum_le4 hlt]
  unfold crc
  rw [← Nat.xor_assoc, Nat.xor_self, Nat.zero_xor]
  rfl
theorem burst_zero {l l' word word' : List Nat} (hl : BytesOk l) (hl' : BytesOk l') (hs : soundL l word = true) (hs' : soundL l' word' = true) {bit C : Nat} (hC : C < 4294967296) (hb : bit ≤ 2048) (hx : leNum l' = leNum l ^^^ (2 ^ bit * C)) : C = 0 := by
  have e1 := sound_res hl hs
  have e2 := sound_res hl' hs'
  have n1 : l.length = 256 := by unfold soundL at hs; simp only [decide_eq_true_eq] at hs; exact hs.1
  have n2 : l'.length = 256 := by unfold soundL at hs'; simp only [decide_eq_true_eq] at hs'; exact hs'.1
  rw [cmore_le hl, n1] at e1
  rw [cmore_le hl', n2, hx, ← Nat.xor_assoc, csteps_xor, e1] at e2
  have e3 : csteps (8 * 256) (2 ^ bit * C) = 0 := by
    have : csteps 32 4294967295 ^^^ (csteps 32 4294967295 ^^^ csteps (8 * 256) (2 ^ bit * C)) = csteps 32 4294967295 ^^^ csteps 32 4294967295 := by rw [e2]
    rwa [← Nat.xor_assoc, Nat.xor_self, Nat.zero_xor] at this
  rw [show 8 * 256 = bit + (2048 - bit) by omega, csteps_add, csteps_pow] at e3
  exact csteps_zero _ hC e3
/-- One bit turned. -/
def flip (l : List Nat) (n : Nat) : List Nat := l.set (n / 8) (l.getD (n / 8) 0 ^^^ 2 ^ (n % 8))
theorem flip_len (l : List Nat) (n : Nat) : (flip l n).length = l.length := by unfold flip; rw [List.length_set]
theorem xor_byte {b : Nat} (hb : b < 256) {k : Nat} (hk : k < 8) : b ^^^ 2 ^ k < 256 :=
  Nat.xor_lt_two_pow (n := 8) hb (Nat.pow_lt_pow_right (by decide) hk)
theorem flip_ok {l : List Nat} (hl : BytesOk l) (n : Nat) (hn : n / 8 < l.length) : BytesOk (flip l n) := by
  intro x hx
  unfold flip at hx
  rcases List.mem_or_eq_of_mem_set hx with h | h
  · exact hl x h
  · rw [h]
    refine xor_byte ?_ (Nat.mod_lt _ (by decide))
    rw [List.getD_eq_getElem?_getD, List.getElem?_eq_getElem hn]
    exact hl _ (List.getElem_mem hn)
theorem pow_xor (k a b : Nat) : 2 ^ k * (a ^^^ b) = 2 ^ k * a ^^^ 2 ^ k * b := by
  apply Nat.eq_of_testBit_eq
  intro i
  rw [Nat.testBit_xor, Nat.testBit_two_pow_mul, Nat.testBit_two_pow_mul, Nat.testBit_two_pow_mul, Nat.testBit_xor]
  by_cases h : i ≥ k <;> simp [h]
theorem leNum_flip {l : List Nat} (hl : BytesOk l) (n : Nat) (hn : n / 8 < l.length) : leNum (flip l n) = leNum l ^^^ 2 ^ n := by
  induction l generalizing n with
  | nil => simp at hn
  | cons b l ih =>
    have hb : b < 256 := hl b (by simp)
    rcases Nat.lt_or_ge n 8 with h | h
    · have e : flip (b :: l) n = (b ^^^ 2 ^ n) :: l := by
        unfold flip
        rw [show n / 8 = 0 by omega, show n % 8 = n by omega]; rfl
      rw [e]
      show (b ^^^ 2 ^ n) + 256 * leNum l = (b + 256 * leNum l) ^^^ 2 ^ n
      rw [add_xor (xor_byte hb h), add_xor hb, Nat.xor_assoc, Nat.xor_comm (2 ^ n), ← Nat.xor_assoc]
    · have e : flip (b :: l) n = b :: flip l (n - 8) := by
        unfold flip
        rw [show n / 8 = (n - 8) / 8 + 1 by omega, show n % 8 = (n - 8) % 8 by omega]; rfl
      rw [e]
      show b + 256 * leNum (flip l (n - 8)) = (b + 256 * leNum l) ^^^ 2 ^ n
      rw [ih (fun x hx => hl x (by simp [hx])) (n - 8) (by simp at hn; omega), add_xor hb, add_xor hb, pow_xor, ← Nat.pow_add, show 8 + (n - 8) = n by omega, Nat.xor_assoc]
/-- What the statement does: so many of 32 bits from a bit on are turned; were some? -/
def spoil (l : List Nat) (bit change : Nat) : Nat → List Nat × Bool
  | 0 => (l, false)
  | k + 1 => if bit + k < 8 * l.length ∧ change / 2 ^ k % 2 = 1 then (flip (spoil l bit change k).1 (bit + k), true) else spoil l bit change k
theorem spoil_is {l : List Nat} (hl : BytesOk l) (bit change k : Nat) : (spoil l bit change k).1.length = l.length ∧ BytesOk (spoil l bit change k).1 ∧ ∃ C, C < 2 ^ k ∧ leNum (spoil l bit change k).1 = leNum l ^^^ (2 ^ bit * C) ∧ ((spoil l bit change k).2 = true → C ≠ 0) := by
  induction k with
  | zero => exact ⟨rfl, hl, 0, by decide, by simp [spoil], by simp [spoil]⟩
  | succ k ih =>
    obtain ⟨h1, h2, C, h3, h4, h5⟩ := ih
    unfold spoil
    by_cases hc : bit + k < 8 * l.length ∧ change / 2 ^ k % 2 = 1
    · rw [if_pos hc]
      have hn : (bit + k) / 8 < (spoil l bit change k).1.length := by rw [h1]; omega
      refine ⟨by rw [flip_len, h1], flip_ok h2 _ hn, C ^^^ 2 ^ k, Nat.xor_lt_two_pow (Nat.lt_trans h3 (Nat.pow_lt_pow_right (by decide) (by omega))) (Nat.pow_lt_pow_right (by decide) (by omega)), ?_, fun _ he => ?_⟩
      · rw [leNum_flip h2 _ hn, h4, pow_xor, ← Nat.pow_add, Nat.xor_assoc]
      · have := xor_zero_eq he
        omega
    · rw [if_neg hc]
      exact ⟨h1, h2, C, Nat.lt_trans h3 (Nat.pow_lt_pow_right (by decide) (by omega)), h4, h5⟩
theorem spoil_unsound {l word word' : List Nat} (hl : BytesOk l) (hs : soundL l word = true) {bit change : Nat} (hb : bit ≤ 2048) (ht : (spoil l bit change 32).2 = true) : soundL (spoil l bit change 32).1 word' = false := by
  obtain ⟨_, h2, C, h3, h4, h5⟩ := spoil_is hl bit change 32
  cases h : soundL (spoil l bit change 32).1 word'
  · rfl
  · exact absurd (burst_zero hl h2 hs h (by simpa using h3) hb h4) (h5 ht)
/-- A sector that bears a page is not all noughts, whatever 32 bits of it were turned. -/
theorem page_sums : ∀ k, k < 6 → k ≠ 0 → crc ([80, 80, 65, 71, k] ++ List.replicate 247 0) ≠ 0 := by decide +kernel
theorem leNum_zero {l : List Nat} (h : leNum l = 0) : l = List.replicate l.length 0 := by
  induction l with
  | nil => rfl
  | cons b l ih =>
    have h' : b + 256 * leNum l = 0 := h
    have hb : b = 0 := by omega
    rw [List.length_cons, List.replicate_succ, ← ih (by omega), hb]
theorem leNum_reps (n : Nat) : leNum (List.replicate n 0) = 0 := by
  induction n with
  | zero => rfl
  | succ n ih => rw [List.replicate_succ]; show 0 + 256 * leNum _ = 0; rw [ih]
theorem page_not_zero {x : Img} (ho : okImg x = true) (hbo : BytesOk x.body) (bit change : Nat) : ¬ (spoil (frame (pageBytes x)) bit change 32).1 = zero256 := by
  intro he
  obtain ⟨h1, h2, _, _, h5⟩ := okImg_parts ho
  have hok := frame_ok (pageBytes_ok hbo)
  obtain ⟨_, _, C, hC, hN, _⟩ := spoil_is hok bit change 32
  rw [he, show leNum zero256 = 0 from leNum_reps 256] at hN
  have hN2 : leNum (frame (pageBytes x)) = 2 ^ bit * C := xor_zero_eq hN.symm
  have hlen : (frame (pageBytes x)).length = 256 := frame_len (by rw [pageBytes_len, h5]; decide)
  have hkl : x.kind.toNat < 6 := by omega
  have hk0 : x.kind.toNat ≠ 0 := by omega
  have hf : frame (pageBytes x) = [80, 80, 65, 71, x.kind.toNat] ++ (frame (pageBytes x)).drop 5 := by
    have e : (frame (pageBytes x)).take 5 = [80, 80, 65, 71, x.kind.toNat] := by
      obtain ⟨q, hq⟩ := frame_split (pageBytes x)
      rw [hq]
      unfold pageBytes
      have e1 : be x.kind.toNat 1 = [x.kind.toNat] := by
        simp [be]; omega
      rw [e1]
      rfl
    rw [← e, List.take_append_drop]
  generalize hr : (frame (pageBytes x)).drop 5 = r at hf
  have hrl : r.length = 251 := by rw [← hr, List.length_drop, hlen]
  have hn : leNum (frame (pageBytes x)) = 80 + 256 * (80 + 256 * (65 + 256 * (71 + 256 * (x.kind.toNat + 256 * leNum r)))) := by rw [hf]; rfl
  have hbit : bit ≤ 4 := by
    rcases Nat.lt_or_ge 4 bit with h | h
    · exfalso
      have : 2 ^ bit * C = 32 * (2 ^ (bit - 5) * C) := by rw [← Nat.mul_assoc, show 32 = 2 ^ 5 from rfl, ← Nat.pow_add, show 5 + (bit - 5) = bit by omega]
      omega
    · exact h
  have hsm : 2 ^ bit * C < 16 * 4294967296 := by
    have h16 : 2 ^ bit ≤ 2 ^ 4 := Nat.pow_le_pow_right (by decide) hbit
    have hC' : C < 4294967296 := by simpa using hC
    calc 2 ^ bit * C ≤ 2 ^ 4 * C := Nat.mul_le_mul_right _ h16
      _ < 16 * 4294967296 := by omega
  have hr0 : leNum r = 0 := by omega
  have hrr := leNum_zero hr0
  rw [hrl] at hrr
  have hiff := (frame_iff (m := pageBytes x) (l := frame (pageBytes x)) (by rw [pageBytes_len, h5]; decide)).1 rfl
  have hd := hiff.2.1
  rw [hf, hrr] at hd
  have ht : ([80, 80, 65, 71, x.kind.toNat] ++ List.replicate 251 0).take 252 = [80, 80, 65, 71, x.kind.toNat] ++ List.replicate 247 0 := by
    rw [List.take_append, List.take_of_length_le (by simp only [List.length_cons, List.length_nil]; decide), List.take_replicate, show min (252 - [80, 80, 65, 71, x.kind.toNat].length) 251 = 247 from rfl]
  have hdd : ([80, 80, 65, 71, x.kind.toNat] ++ List.replicate 251 0).drop 252 = List.replicate 4 0 := by
    rw [List.drop_append, List.drop_of_length_le (by simp only [List.length_cons, List.length_nil]; decide), List.drop_replicate, List.nil_append, show 251 - (252 - [80, 80, 65, 71, x.kind.toNat].length) = 4 from rfl]
  rw [ht, hdd] at hd
  have hlt : crc ([80, 80, 65, 71, x.kind.toNat] ++ List.replicate 247 0) < 4294967296 := crc_lt (fun b hb => by
    rcases List.mem_append.1 hb with h | h
    · simp at h; omega
    · have := List.eq_of_mem_replicate h; omega)
  have := congrArg leNum hd
  rw [leNum_reps, leNum_le4 hlt] at this
  exact page_sums _ hkl hk0 this.symm
end Go.Proofs.YtkahpkmofeglgaaDoor
