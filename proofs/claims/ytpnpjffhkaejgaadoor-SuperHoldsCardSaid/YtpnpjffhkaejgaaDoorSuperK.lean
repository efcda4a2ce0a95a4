/-
  PROVED HERE: plain laws: a sector that was sound, with one byte of it changed, is not sound. Conditions: those that each theorem names; no program's text is used.
  PROVED HERE: the plain law of superblocks that are saved one behind the other: which one is loaded, and which one when the last one is spoilt. Conditions: those that each theorem names.
  PROVED HERE: superblocks that are kept in a row of their own beside a disk; a save on a calm disk. Conditions: those that each theorem names.
  PROVED HERE: SuperHolds returns true whatever it is given. Conditions: those that each theorem names.
-/
import Derived.Test.YtpnpjffhkaejgaaDoorSuperRec
import Derived.Test.YtpnpjffhkaejgaaDoorSuperH
import Derived.Laws.BitsAllLaws
namespace Go.Proofs.YtpnpjffhkaejgaaDoor
open Go.RowKit

theorem csteps_add (a b c : Nat) : csteps (a + b) c = csteps b (csteps a c) := by
  induction a generalizing c with
  | zero => rw [Nat.zero_add]; rfl
  | succ a ih => rw [Nat.succ_add]; show csteps (a + b) (cstep c) = _; rw [ih]; rfl
theorem xor_zero_eq {a b : Nat} (h : a ^^^ b = 0) : a = b := by
  have : a ^^^ b ^^^ b = b := by rw [h, Nat.zero_xor]
  rwa [Nat.xor_assoc, Nat.xor_self, Nat.xor_zero] at this
theorem cstep_zero {x : Nat} (hx : x < 4294967296) (h : cstep x = 0) : x = 0 := by
  unfold cstep at h
  have h2 := xor_zero_eq h
  unfold poly at h2
  rcases Nat.mod_two_eq_zero_or_one x with e | e <;> rw [e] at h2 <;> omega
theorem csteps_zero (k : Nat) {x : Nat} (hx : x < 4294967296) (h : csteps k x = 0) : x = 0 := by
  induction k generalizing x with
  | zero => exact h
  | succ k ih => exact cstep_zero hx (ih (cstep_lt hx) h)
/-- The number that bytes are, the lowest first. -/
def leNum : List Nat → Nat
  | [] => 0
  | b :: l => b + 256 * leNum l
theorem add_xor {b : Nat} (hb : b < 256) (m : Nat) : b + 256 * m = b ^^^ (2 ^ 8 * m) := by
  apply Nat.eq_of_testBit_eq
  intro i
  rw [Nat.testBit_xor, Nat.add_comm, show 256 * m = 2 ^ 8 * m from rfl, Nat.testBit_two_pow_mul_add m (show b < 2 ^ 8 from hb), Nat.testBit_two_pow_mul]
  by_cases hi : i < 8
  · simp [hi, show ¬ (i ≥ 8) by omega]
  · rw [if_neg hi, Nat.testBit_lt_two_pow (x := b) (Nat.lt_of_lt_of_le (show b < 2 ^ 8 from hb) (Nat.pow_le_pow_right (by decide) (by omega)))]
    simp [show i ≥ 8 by omega]
theorem cmore_le {l : List Nat} (hl : ∀ b ∈ l, b < 256) (c : Nat) : cmore c l = csteps (8 * l.length) (c ^^^ leNum l) := by
  induction l generalizing c with
  | nil => simp [cmore, csteps, leNum]
  | cons b l ih =>
    show cmore (cbyte c b) l = _
    rw [ih (fun x hx => hl x (by simp [hx])), List.length_cons, show 8 * (l.length + 1) = 8 + 8 * l.length by omega, csteps_add]
    congr 1
    rw [show leNum (b :: l) = b ^^^ (2 ^ 8 * leNum l) from add_xor (hl b (by simp)) _, ← Nat.xor_assoc, csteps_xor, csteps_pow]
    rfl
theorem leNum_le4 {s : Nat} (h : s < 4294967296) : leNum (le4 s) = s := by
  simp only [le4, leNum]; omega
theorem cmore_append (c : Nat) (a b : List Nat) : cmore c (a ++ b) = cmore (cmore c a) b := by simp [cmore]
theorem sound_res {l word : List Nat} (hl : BytesOk l) (hs : soundL l word = true) : cmore 4294967295 l = csteps 32 4294967295 := by
  unfold soundL at hs
  simp only [decide_eq_true_eq] at hs
  obtain ⟨h1, h2, _⟩ := hs
  have e : cmore 4294967295 l = cmore (cmore 4294967295 (l.take 252)) (l.drop 252) := by rw [← cmore_append, List.take_append_drop]
  have hlt : crc (l.take 252) < 4294967296 := crc_lt (BytesOk.take hl 252)
  rw [e, h2, cmore_le (le4_ok _), leNum_le4 hlt]
  unfold crc
  rw [← Nat.xor_assoc, Nat.xor_self, Nat.zero_xor]
  rfl
theorem burst_zero {l l' word word' : List Nat} (hl : BytesOk l) (hl' : BytesOk l') (hs : soundL l word = true) (hs' : soundL l' word' = true) {bit C : Nat} (hC : C < 4294967296) (hb : bit ≤ 2048) (hx : leNum l' = leNum l ^^^ (2 ^ bit * C)) : C = 0 := by
  have e1 := sound_res hl hs
  have e2 := sound_res hl' hs'
  have n1 : l.length = 256 := by unfold soundL at hs; simp only [decide_eq_true_eq] at hs; exact hs.1
  have n2 : l'.length = 256 := by unfold soundL at hs'; simp only [decide_eq_true_eq] at hs'; exact hs'.1
  rw [cmore_le hl, n1] at e1
  rw [cmore_le hl', n2, hx, ← Nat.xor_assoc, csteps_xor, e1] at e2
  have e3 : csteps (8 * 256) (2 ^ bit * C) = 0 := by
    have : csteps 32 4294967295 ^^^ (csteps 32 4294967295 ^^^ csteps (8 * 256) (2 ^ bit * C)) = csteps 32 4294967295 ^^^ csteps 32 4294967295 := by rw [e2]
    rwa [← Nat.xor_assoc, Nat.xor_self, Nat.zero_xor] at this
  rw [show 8 * 256 = bit + (2048 - bit) by omega, csteps_add, csteps_pow] at e3
  exact csteps_zero _ hC e3
theorem pow_xor (k a b : Nat) : 2 ^ k * (a ^^^ b) = 2 ^ k * a ^^^ 2 ^ k * b := by
  apply Nat.eq_of_testBit_eq
  intro i
  rw [Nat.testBit_xor, Nat.testBit_two_pow_mul, Nat.testBit_two_pow_mul, Nat.testBit_two_pow_mul, Nat.testBit_xor]
  by_cases h : i ≥ k <;> simp [h]
theorem xor_lt {a c : Nat} (ha : a < 256) (hc : c < 256) : a ^^^ c < 256 := Nat.xor_lt_two_pow (n := 8) ha hc
theorem leNum_xor {l : List Nat} (hl : BytesOk l) (k c : Nat) (hk : k < l.length) (hc : c < 256) : leNum (l.set k (l.getD k 0 ^^^ c)) = leNum l ^^^ (2 ^ (8 * k) * c) := by
  induction l generalizing k with
  | nil => simp at hk
  | cons b l ih =>
    have hb : b < 256 := hl b (by simp)
    cases k with
    | zero =>
      show (b ^^^ c) + 256 * leNum l = (b + 256 * leNum l) ^^^ (2 ^ 0 * c)
      rw [add_xor (xor_lt hb hc), add_xor hb, Nat.pow_zero, Nat.one_mul, Nat.xor_assoc, Nat.xor_comm c, ← Nat.xor_assoc]
    | succ k =>
      show b + 256 * leNum (l.set k (l.getD k 0 ^^^ c)) = (b + 256 * leNum l) ^^^ (2 ^ (8 * (k + 1)) * c)
      rw [ih (fun x hx => hl x (by simp [hx])) k (by simpa using hk), add_xor hb, add_xor hb, pow_xor, ← Nat.mul_assoc, ← Nat.pow_add, show 8 + 8 * k = 8 * (k + 1) by omega, Nat.xor_assoc]
theorem set_ok {l : List Nat} (hl : BytesOk l) (k x : Nat) (hx : x < 256) : BytesOk (l.set k x) := fun y hy => by
  rcases List.mem_or_eq_of_mem_set hy with h | h
  · exact hl y h
  · rw [h]; exact hx
/-- A record of which one byte was changed is none. -/
theorem spoilt_none {l : List Nat} {s : List Int} (hl : BytesOk l) (hs : getSuper l = some s) (k c : Nat) (hk : k < 256) (hc : c < 256) (h0 : c ≠ 0) : getSuper (l.set k (l.getD k 0 ^^^ c)) = none := by
  have h1 : soundL l [80, 83, 85, 80] = true := by
    unfold getSuper at hs
    split at hs
    · rename_i h
      exact (Bool.and_eq_true_iff.1 (Bool.and_eq_true_iff.1 h).1).1
    · cases hs
  have hlen : l.length = 256 := by unfold soundL at h1; simp only [decide_eq_true_eq] at h1; exact h1.1
  have hb : l.getD k 0 < 256 := by
    rw [List.getD_eq_getElem?_getD, List.getElem?_eq_getElem (by omega)]
    exact hl _ (List.getElem_mem _)
  cases h2 : soundL (l.set k (l.getD k 0 ^^^ c)) [80, 83, 85, 80]
  · unfold getSuper
    rw [h2]
    rfl
  · exact absurd (burst_zero hl (set_ok hl k _ (xor_lt hb hc)) h1 h2 (bit := 8 * k) (by omega) (by omega) (leNum_xor hl k c (by omega) hc)) h0
end Go.Proofs.YtpnpjffhkaejgaaDoor
namespace Go.Proofs.YtpnpjffhkaejgaaDoor
open Go.RowKit

/-- A superblock that may lie on n sectors. -/
def GoodS (n : Nat) (s : List Int) : Prop := s.length = 7 ∧ okSuper s = true ∧ fitsOn (s.getD 2 0) (s.getD 3 0) (s.getD 4 0) (s.getD 5 0) n = true
def gen (s : List Int) : Int := s.getD 0 0
def fr (s : List Int) : List Nat := frame (superBytes s)
theorem GoodS.range {n : Nat} {s : List Int} (h : GoodS n s) : 0 ≤ gen s ∧ gen s ≤ 1099511627776 := by
  obtain ⟨y0, y1, y2, y3, y4, y5, y6, rfl⟩ := list7 h.1
  exact (okSuper_7 h.2.1).1
theorem GoodS.get {n : Nat} {s : List Int} (h : GoodS n s) : getSuper (fr s) = some s := getSuper_put h.1 h.2.1
theorem fr_len {n : Nat} {s : List Int} (h : GoodS n s) : (fr s).length = 256 := frame_len (by rw [superBytes_len, h.1]; decide)
theorem fr_ok (s : List Int) : BytesOk (fr s) := frame_ok (superBytes_ok s)
/-- A sector's superblock is taken. -/
theorem pick_take {n : Nat} {b s : List Int} {i : Int} (h : GoodS n s) (hi : gen s % 2 = i) (hb : b.getD 0 0 < gen s) : pickS n b i (fr s) = s := by
  unfold pickS
  rw [h.get]
  dsimp only
  rw [if_pos]
  rw [h.2.2, Bool.true_and, Bool.and_eq_true, decide_eq_true_iff, decide_eq_true_iff]
  exact ⟨hi, hb⟩
/-- It is not newer, and is passed over. -/
theorem pick_pass {n : Nat} {b s : List Int} {i : Int} (h : GoodS n s) (hb : ¬ b.getD 0 0 < gen s) : pickS n b i (fr s) = b := by
  unfold pickS
  rw [h.get]
  dsimp only
  rw [if_neg]
  intro e
  rw [Bool.and_eq_true, Bool.and_eq_true, decide_eq_true_iff, decide_eq_true_iff] at e
  exact hb e.2.2
theorem loadO_none {n : Nat} {a b : List Nat} (ha : getSuper a = none) (hb : getSuper b = none) : loadO n a b = (superNone, 14) := by
  unfold loadO
  rw [pickS_none ha, pickS_none hb]
  rfl
theorem loadO_pos {n : Nat} {a b : List Nat} {s : List Int} (h : GoodS n s) (e : pickS n (pickS n bad7 0 a) 1 b = s) : loadO n a b = (s, 0) := by
  unfold loadO
  rw [e, if_neg]
  have := h.range.1
  show ¬ gen s < 0
  omega
theorem bad_lt {n : Nat} {s : List Int} (h : GoodS n s) : bad7.getD 0 0 < gen s := by
  have := h.range.1
  show (-1 : Int) < gen s
  omega
/-- The two sectors by parity. -/
def two (f : Nat → List Nat) (p : Nat) : List Nat := f (p % 2)
/-- One superblock, at its place; no other one. -/
theorem loadO_one {n : Nat} {f : Nat → List Nat} {s : List Int} (h : GoodS n s) (h1 : f (gen s % 2).toNat = fr s) (h2 : getSuper (f (1 - (gen s % 2).toNat)) = none) : loadO n (f 0) (f 1) = (s, 0) := by
  have hp : gen s % 2 = 0 ∨ gen s % 2 = 1 := by omega
  rcases hp with e | e
  · rw [e] at h1 h2
    have a1 : f 0 = fr s := h1
    have a2 : getSuper (f 1) = none := h2
    exact loadO_pos h (by rw [pickS_none a2, a1]; exact pick_take h e (bad_lt h))
  · rw [e] at h1 h2
    have a1 : f 1 = fr s := h1
    have a2 : getSuper (f 0) = none := h2
    exact loadO_pos h (by rw [pickS_none a2, a1]; exact pick_take h e (bad_lt h))
/-- Two superblocks, of which s is the newer one by one. -/
theorem loadO_two {n : Nat} {f : Nat → List Nat} {s r : List Int} (h : GoodS n s) (hr : GoodS n r) (hg : gen r + 1 = gen s) (h1 : f (gen s % 2).toNat = fr s) (h2 : f (gen r % 2).toNat = fr r) : loadO n (f 0) (f 1) = (s, 0) := by
  have hp : gen s % 2 = 0 ∧ gen r % 2 = 1 ∨ gen s % 2 = 1 ∧ gen r % 2 = 0 := by omega
  rcases hp with ⟨e, e'⟩ | ⟨e, e'⟩
  · rw [e] at h1
    rw [e'] at h2
    have a1 : f 0 = fr s := h1
    have a2 : f 1 = fr r := h2
    refine loadO_pos h ?_
    rw [a1, a2, pick_take h e (bad_lt h)]
    exact pick_pass hr (by show ¬ gen s < gen r; omega)
  · rw [e] at h1
    rw [e'] at h2
    have a1 : f 1 = fr s := h1
    have a2 : f 0 = fr r := h2
    refine loadO_pos h ?_
    rw [a1, a2, pick_take hr e' (bad_lt hr)]
    exact pick_take h e (by show gen r < gen s; omega)
/-- What the sectors hold when sv were saved, one behind the other. -/
structure Held (n : Nat) (f : Nat → List Nat) (sv : List (List Int)) : Prop where
  good : ∀ s ∈ sv, GoodS n s
  emp : sv = [] → getSuper (f 0) = none ∧ getSuper (f 1) = none
  last : ∀ p a, sv = p ++ [a] → f (gen a % 2).toNat = fr a
  only : ∀ a, sv = [a] → getSuper (f (1 - (gen a % 2).toNat)) = none
  prev : ∀ p b a, sv = p ++ [b, a] → gen b + 1 = gen a ∧ f (gen b % 2).toNat = fr b
theorem held_nil {n : Nat} {f : Nat → List Nat} (h0 : getSuper (f 0) = none) (h1 : getSuper (f 1) = none) : Held n f [] :=
  ⟨by simp, fun _ => ⟨h0, h1⟩, fun p a e => by simp at e, fun a e => by simp at e, fun p b a e => by simp at e⟩
/-- One more is saved. -/
theorem Held.snoc {n : Nat} {f : Nat → List Nat} {sv : List (List Int)} {s : List Int} (h : Held n f sv) (hs : GoodS n s) (hg : ∀ p a, sv = p ++ [a] → gen a + 1 = gen s) : Held n (fun i => if i = (gen s % 2).toNat then fr s else f i) (sv ++ [s]) := by
  refine ⟨fun x hx => ?_, fun e => by simp at e, fun p a e => ?_, fun a e => ?_, fun p b a e => ?_⟩
  · rcases List.mem_append.1 hx with hx | hx
    · exact h.good x hx
    · rw [List.mem_singleton.1 hx]; exact hs
  · obtain ⟨_, e2⟩ := List.append_inj' e rfl
    cases e2
    exact if_pos rfl
  · have : sv = [] := by
      have := congrArg List.length e
      simp at this
      exact this
    subst this
    obtain rfl : s = a := by simpa using e
    show getSuper (if 1 - (gen s % 2).toNat = (gen s % 2).toNat then fr s else f (1 - (gen s % 2).toNat)) = none
    rw [if_neg (by omega)]
    obtain ⟨n0, n1⟩ := h.emp rfl
    have hp : (gen s % 2).toNat = 0 ∨ (gen s % 2).toNat = 1 := by omega
    rcases hp with e | e
    · rw [e]; exact n1
    · rw [e]; exact n0
  · have e' : sv ++ [s] = (p ++ [b]) ++ [a] := by rw [e]; simp
    obtain ⟨e1, e2⟩ := List.append_inj' e' rfl
    cases e2
    have hb := hg p b e1
    refine ⟨hb, ?_⟩
    show (if (gen b % 2).toNat = (gen s % 2).toNat then fr s else f (gen b % 2).toNat) = fr b
    rw [if_neg (by omega)]
    exact h.last p b e1
/-- What is loaded. -/
theorem Held.load {n : Nat} {f : Nat → List Nat} {sv : List (List Int)} (h : Held n f sv) : (sv = [] ∧ loadO n (f 0) (f 1) = (superNone, 14)) ∨ ∃ p a, sv = p ++ [a] ∧ GoodS n a ∧ f (gen a % 2).toNat = fr a ∧ loadO n (f 0) (f 1) = (a, 0) := by
  rcases List.eq_nil_or_concat sv with e | ⟨p, a, e⟩
  · obtain ⟨h0, h1⟩ := h.emp e
    exact .inl ⟨e, loadO_none h0 h1⟩
  · rw [List.concat_eq_append] at e
    have ha := h.good a (by rw [e]; simp)
    have hl := h.last p a e
    refine .inr ⟨p, a, e, ha, hl, ?_⟩
    rcases List.eq_nil_or_concat p with ep | ⟨q, b, ep⟩
    · subst ep
      exact loadO_one ha hl (h.only a e)
    · rw [List.concat_eq_append] at ep
      subst ep
      have e' : sv = q ++ [b, a] := by rw [e]; simp
      obtain ⟨h1, h2⟩ := h.prev q b a e'
      exact loadO_two ha (h.good b (by rw [e']; simp)) h1 hl h2
/-- The last one is spoilt. -/
theorem Held.spoilt {n : Nat} {f g : Nat → List Nat} {p : List (List Int)} {a : List Int} (h : Held n f (p ++ [a])) (hn : getSuper (g (gen a % 2).toNat) = none) (hs : ∀ i, i ≠ (gen a % 2).toNat → g i = f i) : (p = [] ∧ loadO n (g 0) (g 1) = (superNone, 14)) ∨ ∃ q b, p = q ++ [b] ∧ GoodS n b ∧ loadO n (g 0) (g 1) = (b, 0) := by
  rcases List.eq_nil_or_concat p with e | ⟨q, b, e⟩
  · subst e
    refine .inl ⟨rfl, ?_⟩
    have h1 := h.only a rfl
    have hp : (gen a % 2).toNat = 0 ∨ (gen a % 2).toNat = 1 := by omega
    rcases hp with e | e
    · rw [e] at hn h1 hs
      exact loadO_none hn (by rw [hs 1 (by decide)]; exact h1)
    · rw [e] at hn h1 hs
      exact loadO_none (by rw [hs 0 (by decide)]; exact h1) hn
  · rw [List.concat_eq_append] at e
    subst e
    obtain ⟨h1, h2⟩ := h.prev q b a (by simp)
    have hb := h.good b (by simp)
    refine .inr ⟨q, b, rfl, hb, loadO_one hb (by rw [hs _ (by omega)]; exact h2) ?_⟩
    have : 1 - (gen b % 2).toNat = (gen a % 2).toNat := by omega
    rw [this]
    exact hn
end Go.Proofs.YtpnpjffhkaejgaaDoor
namespace Go.Proofs.YtpnpjffhkaejgaaDoor
open Go.RowKit

def supsCells (sv : List (List Int)) : List Value := sv.flatMap i64s
theorem supsCells_snoc (sv : List (List Int)) (s : List Int) : supsCells (sv ++ [s]) = supsCells sv ++ i64s s := by simp [supsCells]
theorem supsCells_get (sv : List (List Int)) (h : ∀ s ∈ sv, s.length = 7) : ∀ i, i < sv.length → ∀ j, j < 7 → (supsCells sv)[i * 7 + j]? = some (.int .i64 ((sv.getD i []).getD j 0)) := by
  induction sv with
  | nil => intro i hi; simp at hi
  | cons s r ih =>
    intro i hi j hj
    have hs : s.length = 7 := h s (by simp)
    have e : supsCells (s :: r) = i64s s ++ supsCells r := by simp [supsCells]
    have hl : (i64s s).length = 7 := by unfold i64s; rw [List.length_map, hs]
    rw [e]
    cases i with
    | zero =>
      rw [Nat.zero_mul, Nat.zero_add, List.getElem?_append_left (by omega)]
      unfold i64s
      rw [List.getElem?_map, List.getElem?_eq_getElem (by omega), List.getD_cons_zero, List.getD_eq_getElem?_getD, List.getElem?_eq_getElem (by omega)]
      rfl
    | succ i =>
      rw [List.getElem?_append_right (by omega), hl, show (i + 1) * 7 + j - 7 = i * 7 + j by omega, List.getD_cons_succ]
      exact ih (fun x hx => h x (by simp [hx])) i (by simpa using hi) j hj
theorem ownsRow_same {w w' : World} {B : Nat} {e : TypeId} {z n : Nat} {v : Value} {xs : List Value} (h : w.ownsRow B e z v n xs) (hs : ∀ x ∈ v.ownBlock.toList, w'.heap[x]? = w.heap[x]?) : w'.ownsRow B e z v n xs := by
  obtain ⟨hl, ⟨rfl, rfl⟩ | ⟨g, cap, cur, rfl, hg, hb, r⟩⟩ := h
  · exact ⟨hl, .inl ⟨rfl, rfl⟩⟩
  · exact ⟨hl, .inr ⟨g, cap, cur, rfl, hg, by rw [hs g (by simp [Value.ownBlock])]; exact hb, r⟩⟩
theorem LawT.reown {w wr w' : World} {d t g' : Nat} {F : Nat → Prop} {T : List (Nat × Obj)} {S : Dk} {L : List Nat} {o' : Obj} (h : LawT w wr d t F T S) (u : Upd L wr w') (hL : ∀ x ∈ L, ∃ o, (x, o) ∈ T) (hlow : ∀ x ∈ L, w.heap.size ≤ x) (hg : g' ∈ L ∨ wr.heap.size ≤ g') (ho : w'.heap[g']? = some o') : LawT w w' d t F [(g', o')] S := by
  obtain ⟨o1, h1, h2, h3, h4⟩ := h
  have hF : ∀ x ∈ L, ¬ F x ∧ x ≠ t := fun x hx => by
    obtain ⟨o, ho⟩ := hL x hx
    exact ⟨(h1.2.2.1 _ (List.mem_cons_of_mem _ ho)).1, h4 _ ho⟩
  have htL : t ∉ L := fun e => (hF t e).2 rfl
  have htt := h1.2.2.1 _ (List.mem_cons_self ..)
  have hgF : ¬ F g' ∧ g' ≠ t := by
    rcases hg with e | e
    · exact hF _ e
    · exact ⟨fun q => by have := h1.1.old _ q; omega, by have := h2.lt; omega⟩
  refine ⟨o1, ⟨h1.1.up u fun x hx => (hF x hx).1, h1.2.1, fun p hp => ?_, h1.2.2.2.step u fun x hx => .inr (hlow x hx)⟩, h2.upd u htL, h3, fun p hp => ?_⟩
  · rcases List.mem_cons.1 hp with rfl | hp
    · exact ⟨htt.1, u.get htt.2 htL⟩
    · rw [List.mem_singleton.1 hp]
      exact ⟨hgF.1, ho⟩
  · rw [List.mem_singleton.1 hp]
    exact hgF.2
/-- A law under way that keeps a row of superblocks. -/
def SvAt (w wr : World) (d t : Nat) (F : Nat → Prop) (v : Value) (sv : List (List Int)) (S : Dk) : Prop := ∃ T, LawT w wr d t F T S ∧ wr.ownsRow w.heap.size 23 7 v sv.length (supsCells sv) ∧ ∀ x ∈ v.ownBlock.toList, ∃ o, (x, o) ∈ T
theorem SvAt.law {w wr : World} {d t : Nat} {F : Nat → Prop} {v : Value} {sv : List (List Int)} {S : Dk} (h : SvAt w wr d t F v sv S) : ∃ T, LawT w wr d t F T S ∧ ∀ {w' : World} {F' : Nat → Prop} {S' : Dk}, LawT w w' d t F' T S' → SvAt w w' d t F' v sv S' := by
  obtain ⟨T, h1, h2, h3⟩ := h
  exact ⟨T, h1, fun {w' F' S'} h' => ⟨T, h', ownsRow_same h2 fun x hx => by
    obtain ⟨o, ho⟩ := h3 x hx
    rw [h'.get ho, h1.get ho], h3⟩⟩
theorem SvAt.up {w wr w' : World} {d t : Nat} {F : Nat → Prop} {v : Value} {sv : List (List Int)} {S : Dk} (h : SvAt w wr d t F v sv S) (u : Upd [] wr w') : SvAt w w' d t F v sv S := by
  obtain ⟨T, h1, h2⟩ := h.law
  exact h2 (h1.up u)
theorem SvAt.all {w wr : World} {d t : Nat} {F : Nat → Prop} {v : Value} {sv : List (List Int)} {S : Dk} (h : SvAt w wr d t F v sv S) : Upd [] w wr := by
  obtain ⟨T, h1, _⟩ := h
  exact h1.all
theorem infoSup : (Tryd.prog.info? 23).map (fun i => (i.zero, i.size, i.bytes)) = some (some (.agg #[.int .i64 0, .int .i64 0, .int .i64 0, .int .i64 0, .int .i64 0, .int .i64 0, .int .i64 0]), 7, 56) := by kernel_rfl
/-- One superblock more in the row. -/
theorem run_append_sup {w wr : World} {d t : Nat} {F : Nat → Prop} {v : Value} {sv : List (List Int)} {S : Dk} (h : SvAt w wr d t F v sv S) (s0 s1 s2 s3 s4 s5 s6 : Int) {g : Nat} (hg : wr.heap[g]? = some (.cells (supC s0 s1 s2 s3 s4 s5 s6) 23 (0, 0))) (hl : sv.length ≤ 2513169434900) (ty : TypeId) :
    ∃ av nv cv w', (Builtin.append_ #[28, 28] ty #[v, .slice (some ⟨g, 0, none⟩) 1 1]).run Tryd.prog wr = .ok (.slice av nv cv) w' ∧ SvAt w w' d t F (.slice av nv cv) (sv ++ [[s0, s1, s2, s3, s4, s5, s6]]) S := by
  obtain ⟨T, h1, h2, h3⟩ := h
  obtain ⟨i0, hi, hz0, hz1, hz2⟩ := info_parts infoSup
  have hB := h1.all.size
  obtain ⟨v', w', hrun, r1, r2⟩ := run_append_blk (P := Tryd.prog) wr w.heap.size 28 ty 23 i0 _ 7 56 Tryd.underlying28 hi hz0 hz1 hz2 rfl (by decide) v _ _ h2 ⟨g, 0, none⟩ 1 1 (i64s [s0, s1, s2, s3, s4, s5, s6]) rfl
    (fun j u hj => by
      rw [Addr.add_lit, Nat.zero_add, (cells_of hg).1, ← Array.getElem?_toList]
      exact hj) (by simp [i64s, Value.oneCell']) (by unfold maxLen; omega) (by omega) hB
  rw [← supsCells_snoc] at r1
  have hsl : ∃ g' nv cv, v' = .slice (some ⟨g', 0, none⟩) nv cv := by
    obtain ⟨hl', ⟨rfl, e⟩ | ⟨g', cap, cur, rfl, _⟩⟩ := r1
    · omega
    · exact ⟨_, _, _, rfl⟩
  obtain ⟨g', nv, cv, rfl⟩ := hsl
  have hgm : g' ∈ (Value.slice (some ⟨g', 0, none⟩) nv cv).ownBlock.toList := by simp [Value.ownBlock]
  have hlt : g' < w'.heap.size := by
    obtain ⟨_, ⟨e, _⟩ | ⟨g2, cap, cur, e, _, hb, _⟩⟩ := r1
    · cases e
    · cases e; exact lt_of_block hb
  have hlow : ∀ x ∈ v.ownBlock.toList, w.heap.size ≤ x := ownsRow_block h2
  refine ⟨_, _, _, w', hrun, [(g', w'.heap[g']'hlt)], h1.reown r2.upd h3 hlow (r2.blk g' hgm) (Array.getElem?_eq_getElem hlt), by rw [List.length_append]; exact r1, fun x hx => ⟨_, by
    obtain rfl : x = g' := by simpa [Value.ownBlock] using hx
    exact List.mem_singleton.2 rfl⟩⟩
theorem wpList_run_append {P : Program} {ops : Array Oper} {rest : List Oper} {o : Oper} {a : Act} {w w' : World} {Q : Exit → Act → World → Prop} (hgd : o.guard = none) (s x : Operand) {ts : Array TypeId} (ho : o.op = .call { callee := .builtin .append, args := #[s, x], argTypes := ts }) {vs vx v' : Value} (hs : a.eval s = vs) (hx : a.eval x = vx)
    (hrun : (Builtin.append_ ts o.type #[vs, vx]).run P w = .ok v' w') (h : wpList P ops Q rest (a.put o.dst v') w') : wpList P ops Q (o :: rest) a w :=
  wpList_plain hgd fun K hK => by
    unfold Oper.wp execOp
    simp [ho, resolve, invoke, builtin, hs, hx, hrun, Result.andThen]
    exact hK _ _ h
theorem Calm.write1 {N : Nat} {S : Dk} (h : Calm N S) {p : Nat} (hp : p < N) {l : List Nat} (hl : l.length = 256) : ∃ S', S.write p l true = (0, S') ∧ Calm N S' ∧ ∀ i, (S'.sec i).last = if i = p then l else (S.sec i).last := by
  have hw := write_one (S := S) (p := p) (by rw [h.n]; exact hp) hl true
  have hh : (S.hit 2 || S.down) = false := by unfold Dk.hit Dk.down; rw [h.fall, h.left]; decide
  rw [hh, if_neg (by decide)] at hw
  refine ⟨_, hw, ⟨h.n, fun k => (h.tick 2).fall k, ?_, fun i => ?_⟩, fun i => ?_⟩
  · show S.left.map (· - 1) = none
    rw [h.left]
    rfl
  · show ((putV (S.tick 2) true p l).sec i).ver = []
    by_cases e : i = p
    · subst e; rw [putV_true]
    · rw [putV_sec e]; exact h.ver i
  · show ((putV (S.tick 2) true p l).sec i).last = _
    by_cases e : i = p
    · subst e; rw [putV_true, if_pos rfl]; rfl
    · rw [putV_sec e, if_neg e]; rfl
theorem bytes_set {w : World} {g k x : Nat} {cur : Array Value} {l : List Nat} (hb : w.heap[g]? = some (.cells cur 5 (0, 0))) (h : IsBytes w (some ⟨g, 0, none⟩) l) (hx : x < 256) : IsBytes (w.setCell ⟨g, k, none⟩ (.int .u8 (x : Nat))) (some ⟨g, 0, none⟩) (l.set k x) := by
  refine ⟨set_ok h.1 k x hx, fun i hi => ⟨g, 0, rfl, ?_⟩⟩
  have hi' : i < l.length := by simpa using hi
  have h1 := h.at i hi'
  rw [Nat.zero_add] at h1 ⊢
  rw [(cells_of hb).1] at h1
  rw [(cells_of (heap_setCell_same w g k _ _ (.int .u8 (x : Nat)) hb)).1, Array.getElem?_setIfInBounds]
  have hc : i < cur.size := by
    by_cases q : i < cur.size
    · exact q
    · rw [Array.getElem?_eq_none (by omega)] at h1; cases h1
  by_cases e : k = i
  · subst e
    rw [if_pos rfl, if_pos hc, List.getElem_set_self]
  · rw [if_neg e, h1, List.getElem_set_ne e, List.getD_eq_getElem?_getD, List.getElem?_eq_getElem hi']
    rfl
theorem Calm.saved {N : Nat} {S : Dk} (h : Calm N S) (h2 : 2 ≤ N) {x0 x1 x2 x3 x4 x5 x6 : Int} (ho : okCheck x0 x1 x2 x3 x4 x5 x6 N = true) : (S.save x0 x1 x2 x3 x4 x5 x6).1 = 0 ∧ (fun i => ((S.save x0 x1 x2 x3 x4 x5 x6).2.sec i).last) = fun i => if i = (gen [x0, x1, x2, x3, x4, x5, x6] % 2).toNat then fr [x0, x1, x2, x3, x4, x5, x6] else (S.sec i).last := by
  have hk : okSuper [x0, x1, x2, x3, x4, x5, x6] = true := by
    unfold okCheck at ho
    exact (Bool.and_eq_true_iff.1 ho).1
  obtain ⟨r0, _⟩ := okSuper_7 hk
  obtain ⟨p, hp⟩ := Int.eq_ofNat_of_zero_le (show 0 ≤ x0 % 2 by omega)
  have hgen : (gen [x0, x1, x2, x3, x4, x5, x6] % 2).toNat = p := by show (x0 % 2).toNat = p; rw [hp]; rfl
  have hw := write_one (S := S) (p := p) (by rw [h.n]; omega) (l := fr [x0, x1, x2, x3, x4, x5, x6]) (frame_len (by rw [superBytes_len]; simp)) true
  have hh : (S.hit 2 || S.down) = false := by unfold Dk.hit Dk.down; rw [h.fall, h.left]; decide
  rw [hh, if_neg (by decide)] at hw
  have hs : S.save x0 x1 x2 x3 x4 x5 x6 = (0, (putV (S.tick 2) true p (fr [x0, x1, x2, x3, x4, x5, x6])).did) := by
    unfold Dk.save
    rw [h.n, ho, if_pos rfl, hp]
    exact hw
  rw [hs, hgen]
  refine ⟨rfl, funext fun i => ?_⟩
  show ((putV (S.tick 2) true p (fr [x0, x1, x2, x3, x4, x5, x6])).sec i).last = _
  by_cases e : i = p
  · subst e
    rw [putV_true, if_pos rfl]
    rfl
  · rw [putV_sec e, if_neg e]
    rfl
end Go.Proofs.YtpnpjffhkaejgaaDoor
namespace Go.Proofs.YtpnpjffhkaejgaaDoor
open Go.RowKit

/-- The loop's state: so many superblocks were saved, the last one with the number g - 1. -/
def HoldAt (w : World) (d t : Nat) (j : Nat) (v : Value) (g : Int) (wr : World) : Prop := ∃ F S sv, Calm 4096 S ∧ SvAt w wr d t F v sv S ∧ Held 4096 (fun i => (S.sec i).last) sv ∧ sv.length ≤ j ∧ (∀ p a, sv = p ++ [a] → gen a + 1 = g) ∧ 0 ≤ g ∧ g ≤ 1099511627777
theorem okCheck_gen {x0 x1 x2 x3 x4 x5 x6 n : Int} (h : okCheck x0 x1 x2 x3 x4 x5 x6 n = true) : GoodS n.toNat [x0, x1, x2, x3, x4, x5, x6] ∨ n < 0 := by
  by_cases hn : n < 0
  · exact .inr hn
  · refine .inl ?_
    unfold okCheck at h
    obtain ⟨h1, h2⟩ := Bool.and_eq_true_iff.1 h
    refine ⟨rfl, h1, ?_⟩
    rw [show ((n.toNat : Nat) : Int) = n by omega]
    exact h2
theorem slice_of_row {w : World} {B n : Nat} {e : TypeId} {z : Nat} {v : Value} {xs : List Value} (h : w.ownsRow B e z v n xs) : ∃ a c, v = .slice a n c := by
  obtain ⟨_, ⟨rfl, rfl⟩ | ⟨g, cap, cur, rfl, _⟩⟩ := h
  · exact ⟨_, _, rfl⟩
  · exact ⟨_, _, rfl⟩
theorem Calm.crash {N : Nat} {S : Dk} (h : Calm N S) (picks : List Int) : Calm N (S.crash picks) := ⟨h.n, fun _ => rfl, rfl, fun _ => rfl⟩
theorem Calm.load {S : Dk} (h : Calm 4096 S) : S.load = (loadO 4096 (S.sec 0).last (S.sec 1).last, (S.tick 1).tick 1) := by
  rw [load_of (by rw [h.n]; decide) (h.fall 1), h.n]
  rfl
theorem SvAt.cell {w wr : World} {d t : Nat} {F : Nat → Prop} {v : Value} {sv : List (List Int)} {S : Dk} (h : SvAt w wr d t F v sv S) (h7 : ∀ s ∈ sv, s.length = 7) (h0 : sv ≠ []) : ∃ g c, v = .slice (some ⟨g, 0, none⟩) sv.length c ∧ ∀ W, Upd [] wr W → ∀ i, i < sv.length → ∀ j, j < 7 → W.cell? ⟨g, i * 7 + j, none⟩ = some (.int .i64 ((sv.getD i []).getD j 0)) := by
  obtain ⟨T, h1, ⟨hl, ⟨rfl, e⟩ | ⟨g, cap, cur, rfl, hg, hb, hc, hm, hs, ht⟩⟩, h3⟩ := h
  · exact absurd (List.eq_nil_of_length_eq_zero e) h0
  · refine ⟨g, cap, rfl, fun W u i hi j hj => ?_⟩
    rw [(cells_of (u.get hb (by simp))).1]
    have e := supsCells_get sv h7 i hi j hj
    rw [← ht, List.getElem?_take_of_lt (by omega), Array.getElem?_toList] at e
    exact e
set_option maxRecDepth 100000 in
set_option maxHeartbeats 6400000 in
theorem holds_loop {w : World} {A : Option Addr} {n cap : Nat} {l : List (List Int)} (h : IsSups w A l) (hn : l.length = n) (hl : n ≤ 2513169434900) (fm at_ ch : Int) {pa : Option Addr} {m pc : Nat} {picks : List Int} (hp : PicksW w pa m picks) :
    Calls Tryd.prog 4 #[.slice A n cap, .int .i64 fm, .slice pa m pc, .int .i64 at_, .int .i64 ch] w fun e w' => e = .returned (.bool true) ∧ Upd [] w w' := by
  have H := Lib.hid h
  have HN := Lib.hid hn
  have HP := Lib.hid hp
  have HL := Lib.hid hl
  have HKN := Lib.hid known4_any
  have HNEW := Lib.hid (fun W => (show Calls Tryd.prog 10 #[.int .i64 4096] W fun e w' => NewX W.heap.size 4096 e w' ∧ Upd [] W w' from x_new 4096 (by decide) (by decide)))
  have HTAB := Lib.hid new_any
  clear h hn hp
  go_enter Tryd.func4, Tryd.ntmps4
  go_wp2_with fail
  (with_reducible refine (HTAB.out _).mono ?_)
  rintro e w1 ⟨t, rfl, ht, ht1, u1⟩
  have HT1 := Lib.hid ht1
  have HTT := Lib.hid ht
  have U1 := Lib.hid u1
  clear ht ht1 u1
  unfold pt
  go_wp2_with fail
  (with_reducible refine (HNEW.out _).mono ?_)
  rintro e w2 ⟨⟨d, F, rfl, hd, hF⟩, u2⟩
  have hL := law_start HT1.out HTT.out U1.out hd hF u2
  have HL0 := Lib.hid hL
  clear hd hF u2 hL
  have hr1 : -549755813887 ≤ fm.tmod 549755813888 := by
    have := Int.tmod_lt_of_pos (-fm) (show (0 : Int) < 549755813888 by decide)
    rw [Int.neg_tmod] at this
    omega
  have hr2 : fm.tmod 549755813888 ≤ 549755813887 := by
    have := Int.tmod_lt_of_pos fm (show (0 : Int) < 549755813888 by decide)
    omega
  go_wp2_with fail
  (with_reducible refine (HKN.out _).mono ?_)
  rintro e w3 ⟨rfl, u3⟩
  have hst : ∀ g : Int, 0 ≤ g → g ≤ 1099511627777 → HoldAt w d t 0 (.slice none 0 0) g w3 := fun g hg0 hg1 => ⟨_, _, [], calm_new 4096, ⟨_, HL0.out.up u3, World.ownsRow_nil _ _ _ _, by simp [Value.ownBlock]⟩, held_nil getSuper_zeros getSuper_zeros, Nat.le_refl _, fun p a e => by simp at e, hg0, hg1⟩
  have HST := Lib.hid hst
  clear hst u3
  have hr : fm.tmod 549755813888 < 0 ∨ 0 ≤ fm.tmod 549755813888 := by omega
  rcases hr with hr | hr
  all_goals
    go_wp2_with fail
    go_loopw [14, 15, 16] (fun v g i wr => ∃ j : Nat, j ≤ n ∧ i = .int .i64 j ∧ ∃ gg : Int, g = .int .i64 gg ∧ HoldAt w d t j v gg wr) (fun _ _ i _ => n - (intOf i).toNat)
    case atStart => exact ⟨0, by omega, rfl, _, rfl, HST.out _ (by omega) (by omega)⟩
    case round =>
      obtain ⟨j, hj, rfl, gg, rfl, F1, S, sv, hC, hV, hH, hlen, hgen, hg0, hg1⟩ := hrel
      by_cases hlt : j < n
      · have hjl : j < l.length := by have := HN.out; omega
        obtain ⟨g, o, rfl, h7, hc⟩ := (H.out.up hV.all) j hjl
        generalize l[j] = s at *
        obtain ⟨s0, s1, s2, s3, s4, s5, s6, rfl⟩ := list7 h7
        have q0 := hc 0 (by decide); have q1 := hc 1 (by decide); have q2 := hc 2 (by decide); have q3 := hc 3 (by decide); have q4 := hc 4 (by decide); have q5 := hc 5 (by decide); have q6 := hc 6 (by decide)
        simp only [List.getD_cons_zero, List.getD_cons_succ, Nat.add_zero] at q0 q1 q2 q3 q4 q5 q6
        obtain ⟨T, hT, hcl⟩ := hV.law
        have hT1 := hT.keep ((Upd.refl [] _).alloc (.cells (supC gg s1 s2 s3 s4 s5 s6) 23)) (Nat.le_refl _) (heap_alloc_new _ _)
        have HCK := Lib.hid (check_any (w := wr.alloc (.cells (supC gg s1 s2 s3 s4 s5 s6) 23)) gg s1 s2 s3 s4 s5 s6 4096 (by decide))
        have HT1' := Lib.hid hT1
        have HC1 := Lib.hid hC
        have HV1 := Lib.hid hV
        have HH1 := Lib.hid hH
        have HLEN := Lib.hid hlen
        have HGEN := Lib.hid hgen
        cases hk : okCheck gg s1 s2 s3 s4 s5 s6 4096
        · rw [hk] at HCK
          unfold errOf at HCK
          clear hk hT hT1 hcl hC hV hH hlen hgen hc h7
          go_wp2_with fail
          (with_reducible refine HCK.out.mono ?_)
          rintro e w5 ⟨rfl, u5⟩
          have U5 := Lib.hid (((Upd.refl [] _).alloc (.cells (supC gg s1 s2 s3 s4 s5 s6) 23)).trans u5)
          clear u5 q0 q1 q2 q3 q4 q5 q6
          go_wp2
          go_roundw
          case rel => exact ⟨j + 1, by omega, by go_num, gg, rfl, _, _, sv, HC1.out, HV1.out.up U5.out, HH1.out, Nat.le_succ_of_le HLEN.out, HGEN.out, hg0, hg1⟩
          case measure => simp [intOf]; omega
        · rw [hk] at HCK
          unfold errOf at HCK
          have hgood : GoodS 4096 [gg, s1, s2, s3, s4, s5, s6] := by
            rcases okCheck_gen hk with h | h
            · exact h
            · exact absurd h (by decide)
          obtain ⟨e0, hsec⟩ := hC.saved (by decide) hk
          have hC2 := hC.save gg s1 s2 s3 s4 s5 s6
          have hH2 := hH.snoc hgood hgen
          rw [← hsec] at hH2
          have HH2 := Lib.hid hH2
          have HC2 := Lib.hid hC2
          have HE0 := Lib.hid e0
          have HCL := Lib.hid (fun w' F' S' (h' : LawT w w' d t F' T S') => hcl h')
          have HGG := Lib.hid hgood.range
          clear hk hT hT1 hcl hC hH hlen hgen hc h7 hgood hsec hC2 hH2 e0
          go_wp2_with fail
          (with_reducible refine HCK.out.mono ?_)
          rintro e w5 ⟨rfl, u5⟩
          have hT5 := HT1'.out.up u5
          have hsv := save_any hT5 gg s1 s2 s3 s4 s5 s6 (fun i _ => by rw [HC1.out.ver i]; exact Nat.zero_le _)
          rw [HE0.out] at hsv
          unfold pt at hsv
          obtain ⟨c0, c1, c2, c3, c4, c5, c6⟩ := sup_cells (hT5.get (List.mem_cons_self ..))
          have HSV := Lib.hid hsv
          clear hsv hT5 u5 q0 q1 q2 q3 q4 q5 q6
          go_wp2_with fail
          (with_reducible refine HSV.out.mono ?_)
          rintro e w6 ⟨rfl, F6, h6⟩
          have hV6 := HCL.out _ _ _ (h6.drop fun p hp => List.mem_cons_of_mem _ hp)
          have hV7 := hV6.up ((Upd.refl [] _).alloc (.cells (supC gg s1 s2 s3 s4 s5 s6) 23))
          obtain ⟨av, nv, cv, w8, hrun, hV8⟩ := run_append_sup hV7 gg s1 s2 s3 s4 s5 s6 (heap_alloc_new w6 _) (by have := HLEN.out; have := HL.out; omega) 28
          clear c0 c1 c2 c3 c4 c5 c6
          obtain ⟨c0, c1, c2, c3, c4, c5, c6⟩ := sup_cells (h6.get (List.mem_cons_self ..))
          have HRUN := Lib.hid hrun
          have HV8 := Lib.hid hV8
          clear hV6 hV7 hrun hV8 h6 hV
          go_wp2_with (at_builtin; refine wpList_run_append rfl (.tmp 71) (.tmp 73) rfl rfl rfl HRUN.out ?_)
          go_roundw
          case rel =>
            refine ⟨j + 1, by omega, by go_num, gg + 1, rfl, _, _, _, HC2.out, HV8.out, HH2.out, ?_, fun p a e => ?_, by omega, by have := HGG.out.2; show gg + 1 ≤ _; have : gg ≤ 1099511627776 := this; omega⟩
            · rw [List.length_append]; exact Nat.succ_le_succ HLEN.out
            · obtain ⟨_, e2⟩ := List.append_inj' e rfl
              cases e2
              rfl
          case measure => simp [intOf]; omega
      · obtain ⟨T, hT, hcl⟩ := hV.law
        have huw := hV.all
        have hpk := HP.out
        have hcr := lt_crash (pc := pc) hT (hpk.1.upd huw (by simp)) (fun b o e h0 hf => by
          have q1 := hpk.2.2.2 (by rw [← hpk.2.1]; exact h0) b o e
          have q2 := hT.low b hf
          omega) (by rw [hpk.2.1]; exact hpk.2.2.1) (fun i _ => by rw [hC.ver i]; exact Nat.zero_le _) hpk.2.1.symm
        have HCR := Lib.hid hcr
        have HCL := Lib.hid (fun w' F' S' (h' : LawT w w' d t F' T S') => hcl h')
        have HC1 := Lib.hid hC
        have HH1 := Lib.hid hH
        have hsr := slice_of_row hV.choose_spec.2.1
        obtain ⟨av, cv, ev⟩ := hsr
        subst ev
        have HV := Lib.hid hV
        have HJ := Lib.hid hlen
        clear hcr huw hpk hT hcl hC hH hV hgen hlen
        go_wp2_with fail
        (with_reducible refine HCR.out.mono ?_)
        rintro e w7 ⟨rfl, h7⟩
        have hld := load_any h7
        have hC7 := HC1.out.crash picks
        have hlo := hC7.load
        rw [crash_last HC1.out.ver, crash_last HC1.out.ver] at hlo
        rcases HH1.out.load with ⟨hnil, hlo2⟩ | ⟨p, a, hsv, hga, hfa, hlo2⟩
        · rw [hlo2] at hlo
          rw [hlo] at hld
          unfold LoadOut pt at hld
          dsimp only at hld
          simp only [superV, superNone, i64s, List.map_cons, List.map_nil] at hld
          subst hnil
          have HLD := Lib.hid hld
          clear hld hlo hlo2 h7 hC7
          simp only [List.length_nil]
          go_wp2_with fail
          (with_reducible refine HLD.out.mono ?_)
          rintro e w8 ⟨rfl, h8⟩
          have U8 := Lib.hid (h8.up ((Upd.refl [] _).alloc (.cells (supC 0 0 0 0 0 0 0) 23))).all
          clear h8
          go_wp2
          go_ret
          exact ⟨rfl, U8.out⟩
        · obtain ⟨y0, y1, y2, y3, y4, y5, y6, rfl⟩ := list7 hga.1
          rw [hlo2] at hlo
          rw [hlo] at hld
          unfold LoadOut pt at hld
          dsimp only at hld
          simp only [superV, i64s, List.map_cons, List.map_nil] at hld
          subst hsv
          have hC8 := (hC7.tick 1).tick 1
          obtain ⟨S8, hS8⟩ : ∃ S8, ((S.crash picks).tick 1).tick 1 = S8 := ⟨_, rfl⟩
          have hsec8 : ∀ i, (S8.sec i).last = (S.sec i).last := fun i => by rw [← hS8]; exact crash_last HC1.out.ver i
          rw [hS8] at hld hC8
          have HLD := Lib.hid hld
          have HC8 := Lib.hid hC8
          have HSEC8 := Lib.hid hsec8
          have HGA := Lib.hid hga
          have HFA := Lib.hid hfa
          clear hld hlo hlo2 h7 hC7 hC8 hsec8 hga hfa hS8
          obtain ⟨q, hq⟩ : ∃ q, p.length = q := ⟨_, rfl⟩
          have hlq : (p ++ [[y0, y1, y2, y3, y4, y5, y6]]).length = q + 1 := by simp [hq]
          have hgq : (p ++ [[y0, y1, y2, y3, y4, y5, y6]]).getD q [] = [y0, y1, y2, y3, y4, y5, y6] := by
            rw [List.getD_eq_getElem?_getD, ← hq, List.getElem?_concat_length]
            rfl
          rw [hlq]
          have HLQ := Lib.hid hlq
          have HGQ := Lib.hid hgq
          have HQ := Lib.hid hq
          clear hlq hgq hq
          go_wp2_with fail
          (with_reducible refine HLD.out.mono ?_)
          rintro e w8 ⟨rfl, h8⟩
          have hv8 := HCL.out _ _ _ h8
          obtain ⟨gS, cS, eS, hcellS⟩ := hv8.cell (fun s hs => (HH1.out.good s hs).1) (by simp)
          rw [HLQ.out] at eS
          cases eS
          have hk8 := h8.keep ((Upd.refl [] _).alloc (.cells (supC y0 y1 y2 y3 y4 y5 y6) 23)) (Nat.le_refl _) (heap_alloc_new _ _)
          obtain ⟨c0, c1, c2, c3, c4, c5, c6⟩ := sup_cells (hk8.get (List.mem_cons_self ..))
          have hz := hcellS _ ((Upd.refl [] w8).alloc (.cells (supC y0 y1 y2 y3 y4 y5 y6) 23)) q (by rw [HLQ.out]; omega)
          rw [HGQ.out] at hz
          have z0 := hz 0 (by decide); have z1 := hz 1 (by decide); have z2 := hz 2 (by decide); have z3 := hz 3 (by decide); have z4 := hz 4 (by decide); have z5 := hz 5 (by decide); have z6 := hz 6 (by decide)
          simp only [List.getD_cons_zero, List.getD_cons_succ, Nat.add_zero] at z0 z1 z2 z3 z4 z5 z6
          have heq := eqSuper y0 y1 y2 y3 y4 y5 y6 y0 y1 y2 y3 y4 y5 y6
          rw [decide_eq_true rfl] at heq
          have HK8 := Lib.hid hk8
          obtain ⟨r0, r0'⟩ := HGA.out.range
          have r0 : 0 ≤ y0 := r0
          have hqle : q ≤ 2513169434900 := by have := HL.out; have := HJ.out; have := HLQ.out; omega
          clear hk8 hcellS hv8 h8 hz r0'
          go_wp2_with fail
          go_quiet (fail)
          go_wp2_with fail
          have hk9 := HK8.out.up ((Upd.refl [] _).drewN nq)
          obtain ⟨pr, hpr⟩ := Int.eq_ofNat_of_zero_le (show 0 ≤ y0 % 2 by omega)
          have hread : S8.read (y0 % 2) 1 = ((fr [y0, y1, y2, y3, y4, y5, y6], 0), S8.tick 1) := by
            have hr := read_one (S := S8) (p := pr) (by rw [HC8.out.n]; omega)
            have hlast : (S8.sec pr).last = fr [y0, y1, y2, y3, y4, y5, y6] := by
              rw [HSEC8.out]
              have := HFA.out
              rw [show (gen [y0, y1, y2, y3, y4, y5, y6] % 2).toNat = pr from by show (y0 % 2).toNat = pr; rw [hpr]; rfl] at this
              exact this
            rw [hit_zero (HC8.out.fall 1), if_neg (by decide), hlast] at hr
            rw [hpr]
            exact hr
          have hrd := lt_read hk9 (y0 % 2) 1
          rw [hread] at hrd
          have HRD := Lib.hid hrd
          have HPR := Lib.hid hpr
          have hx1 : at_.tmod 256 < 256 := Int.tmod_lt_of_pos at_ (by decide)
          have hx2 : -256 < at_.tmod 256 := by
            have := Int.tmod_lt_of_pos (-at_) (show (0 : Int) < 256 by decide)
            rw [Int.neg_tmod] at this
            omega
          clear hk9 hread hrd hpr z0 z1 z2 z3 z4 z5 z6 heq
          (with_reducible refine HRD.out.mono ?_)
          rintro e w9 ⟨⟨v9, rfl, r9⟩, h9, u9⟩
          dsimp only at r9 h9
          have hlen9 : (fr [y0, y1, y2, y3, y4, y5, y6]).length = 256 := fr_len HGA.out
          obtain ⟨g9, cap9, rfl, hg9, hlt9, hc9, hm9, hb9⟩ := row_some r9 hlen9 (by decide)
          obtain ⟨cur9, hcur9⟩ : ∃ cur, w9.heap[g9]? = some (.cells cur 5 (0, 0)) := by
            obtain ⟨⟨_, ⟨e, _⟩ | ⟨g, cap, cur, e, _, hb, _⟩⟩, _⟩ := r9
            · cases e
            · cases e; exact ⟨_, hb⟩
          clear c0 c1 c2 c3 c4 c5 c6
          obtain ⟨c0, c1, c2, c3, c4, c5, c6⟩ := sup_cells (h9.get (List.mem_cons_self ..))
          have H9 := Lib.hid h9
          have HB9 := Lib.hid hb9
          have HCUR := Lib.hid hcur9
          have hg9 : w8.heap.size + 1 ≤ g9 := by
            have h : (w8.alloc (.cells (supC y0 y1 y2 y3 y4 y5 y6) 23)).heap.size ≤ g9 := hg9
            simpa only [World.size_alloc] using h
          have HG9 := Lib.hid hg9
          clear r9 h9 u9 hb9 hcur9 hg9 hlt9
          have hat : at_.tmod 256 < 0 ∨ 0 ≤ at_.tmod 256 := by omega
          obtain ⟨kk, hkk⟩ : ∃ kk : Nat, kk < 256 ∧ ((at_.tmod 256 < 0 ∧ at_.tmod 256 + 256 = (kk : Int)) ∨ (0 ≤ at_.tmod 256 ∧ at_.tmod 256 = (kk : Int))) := by
            rcases hat with h | h
            · exact ⟨(at_.tmod 256 + 256).toNat, by omega, .inl ⟨h, by omega⟩⟩
            · exact ⟨(at_.tmod 256).toNat, by omega, .inr ⟨h, by omega⟩⟩
          obtain ⟨hk256, hkc⟩ := hkk
          clear hat
          rcases hkc with ⟨hs, hkv⟩ | ⟨hs, hkv⟩
          all_goals
            by_cases hz : ch % 256 = 0
            · have U9 := Lib.hid H9.out.all
              go_wp2
              go_ret
              exact ⟨rfl, U9.out⟩
            · obtain ⟨c, hc⟩ := Int.eq_ofNat_of_zero_le (show 0 ≤ ch % 256 by omega)
              have hc256 : c < 256 := by omega
              have hc0 : c ≠ 0 := fun e => hz (by rw [hc, e]; rfl)
              have hx256 : (fr [y0, y1, y2, y3, y4, y5, y6]).getD kk 0 < 256 := fr_ok _ _ (getD_in (by rw [hlen9]; exact hk256))
              have hsp := spoilt_none (fr_ok [y0, y1, y2, y3, y4, y5, y6]) HGA.out.get kk c hk256 hc256 hc0
              have zc := HB9.out.at kk (by rw [hlen9]; exact hk256)
              rw [Nat.zero_add] at zc
              obtain ⟨x, hx⟩ : ∃ x, (fr [y0, y1, y2, y3, y4, y5, y6]).getD kk 0 = x := ⟨_, rfl⟩
              rw [hx] at hsp zc hx256
              have hxor := u8_xor_nat x c hx256 hc256
              obtain ⟨y, hy⟩ : ∃ y, x ^^^ c = y := ⟨_, rfl⟩
              rw [hy] at hsp hxor
              have hy256 : y < 256 := by rw [← hy]; exact xor_lt hx256 hc256
              have zf := (cells_of HCUR.out).2 kk
              have hbs := bytes_set (k := kk) (x := y) HCUR.out HB9.out hy256
              have hkp := H9.out.keep2 (g := g9) (fun e => by have := HK8.out.disk.old _ e; have := HG9.out; simp only [World.size_alloc] at *; omega) (by have := HK8.out.tab.lt; have := HG9.out; simp only [World.size_alloc] at *; omega) HCUR.out
              have hlowg : w.heap.size ≤ g9 := by have := HK8.out.all.size; have := HG9.out; simp only [World.size_alloc] at *; omega
              have hpt := hkp.put (o' := .cells (cur9.setIfInBounds kk (.int .u8 (y : Nat))) 5 (0, 0)) hlowg (fun p hp e => by
                rcases List.mem_cons.1 hp with rfl | hp
                · have := HG9.out; dsimp only at e; omega
                · have h1 := HK8.out.get (g := p.1) (o := p.2) (List.mem_cons_of_mem _ hp)
                  have := lt_of_block h1
                  have := HG9.out
                  simp only [World.size_alloc] at *
                  omega) ((Upd.refl [g9] w9).setCell (p := ⟨g9, kk, none⟩) (.inl (by simp)) (.int .u8 (y : Nat))) (heap_setCell_same _ _ _ _ _ _ HCUR.out)
              have hC9 := HC8.out.tick 1
              have hpr4 : pr < 4096 := by have := HPR.out; omega
              obtain ⟨S10, hw10, hC10, hsec10⟩ := hC9.write1 hpr4 (l := (fr [y0, y1, y2, y3, y4, y5, y6]).set kk y) (by rw [List.length_set]; exact hlen9)
              have hwr := x_write (cap := cap9) hpt.disk (y0 % 2) true hbs (fun b o e hf => by cases e; have := HK8.out.disk.old _ hf; have := HG9.out; simp only [World.size_alloc] at *; omega) (by rw [List.length_set, hlen9]; decide) (fun i _ => by rw [hC9.ver i]; exact Nat.zero_le _) (n := 256) (by rw [List.length_set, hlen9])
              rw [HPR.out, hw10, ← HPR.out] at hwr
              dsimp only at hwr
              have HWR := Lib.hid hwr
              have HPT := Lib.hid hpt
              have HC10 := Lib.hid hC10
              have HS10 := Lib.hid hsec10
              have HSP := Lib.hid hsp
              clear hwr hpt hC10 hsec10 hsp hkp hbs hC9 hw10 hx
              clear c0 c1 c2 c3 c4 c5 c6
              obtain ⟨c0, c1, c2, c3, c4, c5, c6⟩ := sup_cells (H9.out.get (List.mem_cons_self ..))
              have d0 := (sup_cells (HPT.out.get (List.mem_cons_of_mem _ (List.mem_cons_self ..)))).1
              go_wp2_with fail
              (with_reducible refine HWR.out.mono ?_)
              rintro e w11 ⟨rfl, ⟨F11, hd11, hF11⟩, u11⟩
              have h11 := HPT.out.next hd11 hF11 u11 fun _ hx => hx
              have hv11 := HCL.out _ _ _ (h11.drop fun p hp => List.mem_cons_of_mem _ (List.mem_cons_of_mem _ hp))
              have hld := load_any h11
              have hlo := HC10.out.load
              have hgp : (gen [y0, y1, y2, y3, y4, y5, y6] % 2).toNat = pr := by
                show (y0 % 2).toNat = pr
                rw [HPR.out]
                rfl
              have hspo := HH1.out.spoilt (g := fun i => (S10.sec i).last) (by rw [hgp]; show getSuper (S10.sec pr).last = none; rw [HS10.out, if_pos rfl]; exact HSP.out) (fun i hi => by
                rw [hgp] at hi
                show (S10.sec i).last = (S.sec i).last
                rw [HS10.out, if_neg hi]
                exact HSEC8.out i)
              rcases hspo with ⟨hp0, hlo2⟩ | ⟨q', b, hpq, hgb, hlo2⟩
              · have hlo2 : loadO 4096 (S10.sec 0).last (S10.sec 1).last = (superNone, 14) := hlo2
                rw [hlo2] at hlo
                rw [hlo] at hld
                unfold LoadOut pt at hld
                dsimp only at hld
                simp only [superV, superNone, i64s, List.map_cons, List.map_nil] at hld
                obtain rfl : q = 0 := by have := HQ.out; rw [hp0] at this; exact this.symm
                have HLD11 := Lib.hid hld
                clear hld hlo hlo2 hp0 hv11 h11 hd11 hF11 u11 c0 c1 c2 c3 c4 c5 c6 d0 zc zf hxor
                go_wp2_with fail
                (with_reducible refine HLD11.out.mono ?_)
                rintro e w12 ⟨rfl, h12⟩
                have U12 := Lib.hid (h12.up ((Upd.refl [] _).alloc (.cells (supC 0 0 0 0 0 0 0) 23))).all
                clear h12
                go_wp2
                go_ret
                exact ⟨rfl, U12.out⟩
              · obtain ⟨b0, b1, b2, b3, b4, b5, b6, rfl⟩ := list7 hgb.1
                have hlo2 : loadO 4096 (S10.sec 0).last (S10.sec 1).last = ([b0, b1, b2, b3, b4, b5, b6], 0) := hlo2
                rw [hlo2] at hlo
                rw [hlo] at hld
                unfold LoadOut pt at hld
                dsimp only at hld
                simp only [superV, i64s, List.map_cons, List.map_nil] at hld
                obtain ⟨r, hr'⟩ : ∃ r, q'.length = r := ⟨_, rfl⟩
                obtain rfl : q = r + 1 := by have := HQ.out; rw [hpq, List.length_append] at this; simp at this; omega
                have hgr : (p ++ [[y0, y1, y2, y3, y4, y5, y6]]).getD r [] = [b0, b1, b2, b3, b4, b5, b6] := by
                  rw [hpq, List.getD_eq_getElem?_getD, List.getElem?_append_left (by rw [List.length_append, hr']; simp), ← hr', List.getElem?_concat_length]
                  rfl
                have HGR := Lib.hid hgr
                have HLD11 := Lib.hid hld
                clear hld hlo hlo2 hpq hr' hgr hv11 h11 hd11 hF11 u11 c0 c1 c2 c3 c4 c5 c6 d0 zc zf hxor
                go_wp2_with fail
                (with_reducible refine HLD11.out.mono ?_)
                rintro e w12 ⟨rfl, h12⟩
                have hv12 := HCL.out _ _ _ (h12.drop fun p hp => List.mem_cons_of_mem _ (List.mem_cons_of_mem _ hp))
                obtain ⟨gS2, cS2, eS2, hcell2⟩ := hv12.cell (fun s hs => (HH1.out.good s hs).1) (by simp)
                cases eS2
                have hk12 := h12.keep ((Upd.refl [] _).alloc (.cells (supC b0 b1 b2 b3 b4 b5 b6) 23)) (Nat.le_refl _) (heap_alloc_new _ _)
                obtain ⟨c0, c1, c2, c3, c4, c5, c6⟩ := sup_cells (hk12.get (List.mem_cons_self ..))
                have hz := hcell2 _ ((Upd.refl [] w12).alloc (.cells (supC b0 b1 b2 b3 b4 b5 b6) 23)) r (by rw [HLQ.out]; omega)
                rw [HGR.out] at hz
                have z0 := hz 0 (by decide); have z1 := hz 1 (by decide); have z2 := hz 2 (by decide); have z3 := hz 3 (by decide); have z4 := hz 4 (by decide); have z5 := hz 5 (by decide); have z6 := hz 6 (by decide)
                simp only [List.getD_cons_zero, List.getD_cons_succ, Nat.add_zero] at z0 z1 z2 z3 z4 z5 z6
                have heq := eqSuper b0 b1 b2 b3 b4 b5 b6 b0 b1 b2 b3 b4 b5 b6
                rw [decide_eq_true rfl] at heq
                have U12 := Lib.hid hk12.all
                have hrle : r ≤ 2513169434900 := by omega
                have ew : wrap64 ((r : Int) + 1 + 1 - 2) = (r : Int) := by unfold wrap64; omega
                clear hk12 hcell2 hv12 h12 hz
                go_wp2_with fail
                go_quiet (fail)
                go_wp2
                go_ret
                exact ⟨rfl, U12.out.drewN _⟩
end Go.Proofs.YtpnpjffhkaejgaaDoor
