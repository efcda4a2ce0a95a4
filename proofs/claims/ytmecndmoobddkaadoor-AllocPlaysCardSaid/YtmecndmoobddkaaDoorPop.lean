/-
  PROVED HERE: the arithmetic of a population count by masks and sums over 64 bits: it counts the bits that are set. Condition: the number is below 2^64.
-/
import Derived.WalkKit
namespace Go.Proofs.YtmecndmoobddkaaDoor
/-- How many of the bits below k are set. -/
def cnt (x : Nat) : Nat → Nat
  | 0 => 0
  | k + 1 => cnt x k + (if x.testBit k then 1 else 0)
theorem cnt_le (x k : Nat) : cnt x k ≤ k := by
  induction k with
  | zero => exact Nat.le_refl _
  | succ k ih => unfold cnt; split <;> omega
theorem cnt_congr (x y k : Nat) (h : ∀ i, i < k → x.testBit i = y.testBit i) : cnt x k = cnt y k := by
  induction k with
  | zero => rfl
  | succ k ih => unfold cnt; rw [ih fun i hi => h i (by omega), h k (by omega)]
theorem cnt_add (x a b : Nat) : cnt x (a + b) = cnt x a + cnt (x / 2 ^ a) b := by
  induction b with
  | zero => rfl
  | succ b ih =>
    rw [← Nat.add_assoc]
    show cnt x (a + b) + _ = cnt x a + (cnt (x / 2 ^ a) b + _)
    rw [ih, Nat.testBit_div_two_pow, Nat.add_comm b a]
    omega
/-- Bytes, the lowest first. -/
def val : List Nat → Nat
  | [] => 0
  | b :: l => b + 256 * val l
theorem join_and (b m h M : Nat) (hb : b < 256) (hm : m < 256) : (b + 256 * h) &&& (m + 256 * M) = (b &&& m) + 256 * (h &&& M) := by
  have e1 : b + 256 * h = 2 ^ 8 * h + b := by omega
  have e2 : m + 256 * M = 2 ^ 8 * M + m := by omega
  have hlt : b &&& m < 2 ^ 8 := Nat.and_lt_two_pow _ (by omega)
  have e3 : (b &&& m) + 256 * (h &&& M) = 2 ^ 8 * (h &&& M) + (b &&& m) := by omega
  rw [e1, e2, e3]
  apply Nat.eq_of_testBit_eq
  intro i
  rw [Nat.testBit_and, Nat.testBit_two_pow_mul_add h (by omega), Nat.testBit_two_pow_mul_add M (by omega), Nat.testBit_two_pow_mul_add _ hlt]
  split <;> simp [Nat.testBit_and]
def mask (m : Nat) : Nat → Nat
  | 0 => 0
  | k + 1 => m + 256 * mask m k
theorem mask55 : mask 85 8 = 6148914691236517205 := by simp [mask]
theorem mask33 : mask 51 8 = 3689348814741910323 := by simp [mask]
theorem mask0f : mask 15 8 = 1085102592571150095 := by simp [mask]
theorem maskff : mask 255 8 = 18446744073709551615 := by simp [mask]
theorem mask44 : mask 68 8 = 4919131752989213764 := by simp [mask]
theorem val_le (m : Nat) (l : List Nat) (h : ∀ b ∈ l, b ≤ m) : val l ≤ mask m l.length := by
  induction l with
  | nil => exact Nat.le_refl _
  | cons b l ih =>
    have hb := h b (by simp)
    have ih := ih fun x hx => h x (by simp [hx])
    simp only [val, mask, List.length_cons]
    omega
theorem div_bytes (m a b : Nat) (h : a < m) (h0 : 0 < m) : (a + m * b) / m = b := by
  rw [Nat.add_mul_div_left _ _ h0, Nat.div_eq_of_lt h, Nat.zero_add]
theorem low55 : ∀ b : Fin 256, ∀ c : Fin 2, (b.val / 2 + 128 * c.val) &&& 85 = (b.val / 2) &&& 85 := by decide +kernel
theorem low33 : ∀ b : Fin 256, ∀ c : Fin 4, (b.val / 4 + 64 * c.val) &&& 51 = (b.val / 4) &&& 51 := by decide +kernel
theorem le55 : ∀ b : Fin 256, ((b.val / 2) &&& 85) + (b.val &&& 85) ≤ 170 := by decide +kernel
theorem le33 : ∀ b : Fin 256, ((b.val / 4) &&& 51) + (b.val &&& 51) ≤ 102 := by decide +kernel
def f1 (b : Nat) : Nat := ((b / 2) &&& 85) + (b &&& 85)
def f2 (b : Nat) : Nat := ((b / 4) &&& 51) + (b &&& 51)
def f3 (b : Nat) : Nat := (b / 16 + b % 16)
theorem step1 (l : List Nat) (h : ∀ b ∈ l, b < 256) : ((val l / 2) &&& mask 85 l.length) + (val l &&& mask 85 l.length) = val (l.map f1) := by
  induction l with
  | nil => rfl
  | cons b l ih =>
    have hb := h b (by simp)
    have ih := ih fun x hx => h x (by simp [hx])
    simp only [val, mask, List.map_cons, List.length_cons]
    have e : (b + 256 * val l) / 2 = (b / 2 + 128 * (val l % 2)) + 256 * (val l / 2) := by omega
    rw [e, join_and _ _ _ _ (by omega) (by omega), join_and _ _ _ _ hb (by omega), low55 ⟨b, hb⟩ ⟨val l % 2, by omega⟩, ← ih]
    simp only [f1]; omega
theorem step2 (l : List Nat) (h : ∀ b ∈ l, b < 256) : ((val l / 4) &&& mask 51 l.length) + (val l &&& mask 51 l.length) = val (l.map f2) := by
  induction l with
  | nil => rfl
  | cons b l ih =>
    have hb := h b (by simp)
    have ih := ih fun x hx => h x (by simp [hx])
    simp only [val, mask, List.map_cons, List.length_cons]
    have e : (b + 256 * val l) / 4 = (b / 4 + 64 * (val l % 4)) + 256 * (val l / 4) := by omega
    rw [e, join_and _ _ _ _ (by omega) (by omega), join_and _ _ _ _ hb (by omega), low33 ⟨b, hb⟩ ⟨val l % 4, by omega⟩, ← ih]
    simp only [f2]; omega
theorem and15 (x : Nat) : x &&& 15 = x % 16 := Nat.and_two_pow_sub_one_eq_mod x 4
/-- Where every nibble is 4 at most. -/
theorem step3 (l : List Nat) (h : ∀ b ∈ l, b / 16 ≤ 4 ∧ b % 16 ≤ 4) : (val l / 16 + val l) &&& mask 15 l.length = val (l.map f3) := by
  induction l with
  | nil => rfl
  | cons b l ih =>
    have hb := h b (by simp)
    have ih := ih fun x hx => h x (by simp [hx])
    have hn : val l % 16 ≤ 4 := by
      cases l with
      | nil => simp [val]
      | cons c l => have := h c (by simp); simp only [val]; omega
    simp only [val, mask, List.map_cons, List.length_cons]
    have e : (b + 256 * val l) / 16 + (b + 256 * val l) = (b / 16 + 16 * (val l % 16) + b) + 256 * (val l / 16 + val l) := by omega
    rw [e, join_and _ _ _ _ (by omega) (by omega), ih, and15]
    simp only [f3]; omega
theorem byte_pop : ∀ b : Fin 256, f3 (f2 (f1 b.val)) = cnt b.val 8 ∧ f2 (f1 b.val) / 16 ≤ 4 ∧ f2 (f1 b.val) % 16 ≤ 4 ∧ f1 b.val < 256 ∧ f2 (f1 b.val) < 256 := by decide +kernel
/-- The eight bytes of a number. -/
def bytes8 (x : Nat) : List Nat := [x % 256, x / 256 % 256, x / 65536 % 256, x / 16777216 % 256, x / 4294967296 % 256, x / 1099511627776 % 256, x / 281474976710656 % 256, x / 72057594037927936 % 256]
theorem val_bytes8 (x : Nat) (h : x < 18446744073709551616) : val (bytes8 x) = x := by simp only [bytes8, val]; omega
theorem bytes8_lt (x b : Nat) (h : b ∈ bytes8 x) : b < 256 := by
  simp only [bytes8, List.mem_cons, List.not_mem_nil, or_false] at h
  omega
theorem cnt_bytes8 (x : Nat) : cnt x 64 = ((bytes8 x).map fun b => cnt b 8).sum := by
  have hm : ∀ y : Nat, cnt (y % 256) 8 = cnt y 8 := fun y => cnt_congr _ _ _ fun i hi => by
    rw [show 256 = 2 ^ 8 from rfl, Nat.testBit_mod_two_pow]; simp [hi]
  simp only [bytes8, List.map_cons, List.map_nil, List.sum_cons, List.sum_nil, hm]
  rw [show 64 = 8 + 56 from rfl, cnt_add, show 56 = 8 + 48 from rfl, cnt_add, show 48 = 8 + 40 from rfl, cnt_add, show 40 = 8 + 32 from rfl, cnt_add, show 32 = 8 + 24 from rfl, cnt_add,
    show 24 = 8 + 16 from rfl, cnt_add, show 16 = 8 + 8 from rfl, cnt_add]
  simp only [Nat.div_div_eq_div_mul]
  simp only [Nat.reducePow, Nat.reduceMul, Nat.add_zero]
def popA (x : Nat) : Nat := ((x / 2) &&& 6148914691236517205) + (x &&& 6148914691236517205)
def popB (x : Nat) : Nat := ((x / 4) &&& 3689348814741910323) + (x &&& 3689348814741910323)
def popC (x : Nat) : Nat := (x / 16 + x) &&& 1085102592571150095
/-- The whole road, and that no sum on it goes round. -/
theorem pop_road (x : Nat) (h : x < 18446744073709551616) :
    popA x < 18446744073709551616 ∧ popB (popA x) < 18446744073709551616 ∧ popB (popA x) / 16 + popB (popA x) < 18446744073709551616 ∧
    popC (popB (popA x)) < 18446744073709551616 ∧
    ∀ a b c, a = (popC (popB (popA x)) + popC (popB (popA x)) / 256) % 18446744073709551616 → b = (a + a / 65536) % 18446744073709551616 → c = (b + b / 4294967296) % 18446744073709551616 → c % 128 = cnt x 64 := by
  have hA : popA x = val ((bytes8 x).map f1) := by
    have := step1 (bytes8 x) (bytes8_lt x)
    rw [val_bytes8 x h, show (bytes8 x).length = 8 from rfl, mask55] at this; exact this
  have hl1 : ∀ b ∈ (bytes8 x).map f1, b < 256 := by
    intro b hb
    obtain ⟨c, hc, rfl⟩ := List.mem_map.1 hb
    exact (byte_pop ⟨c, bytes8_lt x c hc⟩).2.2.2.1
  have hB : popB (popA x) = val (((bytes8 x).map f1).map f2) := by
    have := step2 ((bytes8 x).map f1) hl1
    rw [← hA, List.length_map, show (bytes8 x).length = 8 from rfl, mask33] at this; exact this
  have hC : popC (popB (popA x)) = val ((((bytes8 x).map f1).map f2).map f3) := by
    have := step3 (((bytes8 x).map f1).map f2) (by
      intro b hb
      obtain ⟨c, hc, rfl⟩ := List.mem_map.1 hb
      obtain ⟨d, hd, rfl⟩ := List.mem_map.1 hc
      have := byte_pop ⟨d, bytes8_lt x d hd⟩
      exact ⟨this.2.1, this.2.2.1⟩)
    rw [← hB, List.length_map, List.length_map, show (bytes8 x).length = 8 from rfl, mask0f] at this; exact this
  have hl2 : ∀ b ∈ ((bytes8 x).map f1).map f2, b / 16 ≤ 4 ∧ b % 16 ≤ 4 := by
    intro b hb
    obtain ⟨c, hc, rfl⟩ := List.mem_map.1 hb
    obtain ⟨d, hd, rfl⟩ := List.mem_map.1 hc
    have := byte_pop ⟨d, bytes8_lt x d hd⟩
    exact ⟨this.2.1, this.2.2.1⟩
  have hp : (((bytes8 x).map f1).map f2).map f3 = (bytes8 x).map fun b => cnt b 8 := by
    rw [List.map_map, List.map_map]
    apply List.map_congr_left
    intro b hb
    exact (byte_pop ⟨b, bytes8_lt x b hb⟩).1
  have hcnt := cnt_bytes8 x
  rw [hp] at hC
  have hA2 : popA x < 18446744073709551616 := by
    rw [hA]
    have := val_le 255 ((bytes8 x).map f1) fun b hb => by have := hl1 b hb; omega
    rw [List.length_map, show (bytes8 x).length = 8 from rfl, maskff] at this
    omega
  have hB2 : popB (popA x) / 16 + popB (popA x) < 18446744073709551616 := by
    rw [hB]
    have := val_le 68 (((bytes8 x).map f1).map f2) fun b hb => by have := hl2 b hb; omega
    rw [List.length_map, List.length_map, show (bytes8 x).length = 8 from rfl, mask44] at this
    omega
  refine ⟨hA2, by omega, hB2, ?_⟩
  rw [hC, hcnt]
  have k0 := fun y : Nat => cnt_le y 8
  simp only [bytes8, List.map_cons, List.map_nil, val, List.sum_cons, List.sum_nil]
  have h0 := k0 (x % 256); have h1 := k0 (x / 256 % 256); have h2 := k0 (x / 65536 % 256); have h3 := k0 (x / 16777216 % 256)
  have h4 := k0 (x / 4294967296 % 256); have h5 := k0 (x / 1099511627776 % 256); have h6 := k0 (x / 281474976710656 % 256); have h7 := k0 (x / 72057594037927936 % 256)
  clear hcnt hC hp hl1 hl2 hA hB hA2 hB2 k0 h
  generalize cnt (x % 256) 8 = p0 at *
  generalize cnt (x / 256 % 256) 8 = p1 at *
  generalize cnt (x / 65536 % 256) 8 = p2 at *
  generalize cnt (x / 16777216 % 256) 8 = p3 at *
  generalize cnt (x / 4294967296 % 256) 8 = p4 at *
  generalize cnt (x / 1099511627776 % 256) 8 = p5 at *
  generalize cnt (x / 281474976710656 % 256) 8 = p6 at *
  generalize cnt (x / 72057594037927936 % 256) 8 = p7 at *
  have q1 : (p0 + 256 * (p1 + 256 * (p2 + 256 * (p3 + 256 * (p4 + 256 * (p5 + 256 * (p6 + 256 * (p7 + 256 * 0)))))))) / 256 = p1 + 256 * (p2 + 256 * (p3 + 256 * (p4 + 256 * (p5 + 256 * (p6 + 256 * p7))))) := div_bytes 256 p0 _ (by omega) (by omega)
  rw [q1]
  clear q1
  refine ⟨by omega, fun a b c ha hb hc => ?_⟩
  rw [Nat.mod_eq_of_lt (by omega)] at ha
  have q2 : a / 65536 = (p2 + p3) + 256 * ((p3 + p4) + 256 * ((p4 + p5) + 256 * ((p5 + p6) + 256 * ((p6 + p7) + 256 * p7)))) := by
    rw [show a = ((p0 + p1) + 256 * (p1 + p2)) + 65536 * ((p2 + p3) + 256 * ((p3 + p4) + 256 * ((p4 + p5) + 256 * ((p5 + p6) + 256 * ((p6 + p7) + 256 * p7))))) by omega]
    exact div_bytes 65536 _ _ (by omega) (by omega)
  rw [q2, Nat.mod_eq_of_lt (by omega)] at hb
  clear q2
  have q3 : b / 4294967296 = (p4 + p5 + p6 + p7) + 256 * ((p5 + p6 + p7) + 256 * ((p6 + p7) + 256 * p7)) := by
    rw [show b = ((p0 + p1 + p2 + p3) + 256 * ((p1 + p2 + p3 + p4) + 256 * ((p2 + p3 + p4 + p5) + 256 * (p3 + p4 + p5 + p6)))) + 4294967296 * ((p4 + p5 + p6 + p7) + 256 * ((p5 + p6 + p7) + 256 * ((p6 + p7) + 256 * p7))) by omega]
    exact div_bytes 4294967296 _ _ (by omega) (by omega)
  rw [q3, Nat.mod_eq_of_lt (by omega)] at hc
  clear q3
  rw [show c = (p0 + p1 + p2 + p3 + p4 + p5 + p6 + p7) + 128 * (2 * ((p1 + p2 + p3 + p4 + p5 + p6 + p7) + 256 * ((p2 + p3 + p4 + p5 + p6 + p7) + 256 * ((p3 + p4 + p5 + p6 + p7) + 256 * ((p4 + p5 + p6 + p7) + 256 * ((p5 + p6 + p7) + 256 * ((p6 + p7) + 256 * p7))))))) by omega,
    Nat.add_mul_mod_self_left, Nat.mod_eq_of_lt (by omega)]
  omega
end Go.Proofs.YtmecndmoobddkaaDoor
