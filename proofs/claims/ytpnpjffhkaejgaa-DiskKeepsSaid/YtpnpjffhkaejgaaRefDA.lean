/-
  PROVED HERE: the document's disk (polderref03) as the same plain thing: how it lies in memory; its small functions. Conditions: those that each theorem names.
-/
import Derived.Test.YtpnpjffhkaejgaaDiskP
namespace Go.Proofs.Ytpnpjffhkaejgaa
open Go.RowKit

/-- Where the parts of the document's disk lie: its list; of each sector what is durable, its versions' slice, the versions' bytes. -/
structure RLay where
  gl : Nat
  cap : Nat
  db : Nat → Nat
  dc : Nat → Nat
  vv : Nat → Value
  hb : Nat → Nat → Nat
  hc : Nat → Nat → Nat
def rLeft (S : Dk) : Int := match S.left with | some k => (k : Nat) | none => -1
def rCells (L : RLay) (S : Dk) : Array Value := #[.slice (some ⟨L.gl, 0, none⟩) S.n L.cap, .int .i64 (S.fall 0 : Nat), .int .i64 (S.fall 1 : Nat), .int .i64 (S.fall 2 : Nat), .int .i64 (S.fall 3 : Nat), .int .i64 (rLeft S)]
def RHead (w : World) (r : Nat) (L : RLay) (S : Dk) : Prop := w.heap[r]? = some (.cells (rCells L S) 51 (0, 0))
def durV (L : RLay) (i : Nat) : Value := .slice (some ⟨L.db i, 0, none⟩) 256 (L.dc i)
def RList (w : World) (L : RLay) (n : Nat) : Prop := ∃ cs, w.heap[L.gl]? = some (.cells cs 69 (0, 0)) ∧ cs.size = L.cap * 2 ∧ n ≤ L.cap ∧ L.cap ≤ maxLen ∧ ∀ i, i < n → cs[i * 2]? = some (durV L i) ∧ cs[i * 2 + 1]? = some (L.vv i)
def rheads (L : RLay) (i m : Nat) : List Value := (List.range m).map fun j => Value.slice (some ⟨L.hb i j, 0, none⟩) 256 (L.hc i j)
def capOk (c : Nat) : Prop := 256 ≤ c ∧ c ≤ 9223372036854775807
structure IsRef (w : World) (r : Nat) (L : RLay) (F : Nat → Prop) (S : Dk) : Prop where
  ok : S.Ok
  hd : RHead w r L S
  lst : RList w L S.n
  dur : ∀ i, i < S.n → BlkF w (L.db i) 1 (fun _ => (S.sec i).dur) ∧ capOk (L.dc i)
  ver : ∀ i, i < S.n → w.ownsRow 0 31 1 (L.vv i) (S.sec i).ver.length (rheads L i (S.sec i).ver.length)
  vby : ∀ i, i < S.n → ∀ j (h : j < (S.sec i).ver.length), BlkF w (L.hb i j) 1 (fun _ => (S.sec i).ver[j]) ∧ capOk (L.hc i j)
  apart : ∀ i j, i < S.n → j < S.n → i ≠ j → ∀ x ∈ (L.vv i).ownBlock.toList, x ∉ (L.vv j).ownBlock.toList
  fr : F r
  fgl : F L.gl
  fdb : ∀ i, i < S.n → F (L.db i)
  fvv : ∀ i, i < S.n → ∀ x ∈ (L.vv i).ownBlock.toList, F x
  fhb : ∀ i, i < S.n → ∀ j, j < (S.sec i).ver.length → F (L.hb i j)
  old : ∀ x, F x → x < w.heap.size
theorem BlkF.upd2 {w w' : World} {g c : Nat} {f : Nat → List Nat} {G : Nat → Prop} (h : BlkF w g c f) (u : UpdP G w w') (hs : ¬ G g) : BlkF w' g c f := by
  obtain ⟨cs, hb, r⟩ := h
  exact ⟨cs, u.get hb hs, r⟩
theorem ownsRow_upd2 {w w' : World} {B : Nat} {e : TypeId} {z n : Nat} {v : Value} {xs : List Value} {G : Nat → Prop} (h : w.ownsRow B e z v n xs) (u : UpdP G w w') (hs : ∀ x ∈ v.ownBlock.toList, ¬ G x) : w'.ownsRow B e z v n xs := by
  obtain ⟨hl, ⟨rfl, rfl⟩ | ⟨g, cap, cur, rfl, hg, hb, r⟩⟩ := h
  · exact ⟨hl, .inl ⟨rfl, rfl⟩⟩
  · exact ⟨hl, .inr ⟨g, cap, cur, rfl, hg, u.get hb (hs g (by simp [Value.ownBlock])), r⟩⟩
theorem IsRef.upd {w w' : World} {r : Nat} {L : RLay} {F G : Nat → Prop} {S : Dk} (h : IsRef w r L F S) (u : UpdP G w w') (hs : ∀ x, F x → ¬ G x) : IsRef w' r L F S where
  ok := h.ok
  hd := u.get h.hd (hs _ h.fr)
  lst := by obtain ⟨cs, hb, q⟩ := h.lst; exact ⟨cs, u.get hb (hs _ h.fgl), q⟩
  dur i hi := ⟨(h.dur i hi).1.upd2 u (hs _ (h.fdb i hi)), (h.dur i hi).2⟩
  ver i hi := ownsRow_upd2 (h.ver i hi) u fun x hx => hs _ (h.fvv i hi x hx)
  vby i hi j hj := ⟨(h.vby i hi j hj).1.upd2 u (hs _ (h.fhb i hi j hj)), (h.vby i hi j hj).2⟩
  apart := h.apart
  fr := h.fr
  fgl := h.fgl
  fdb := h.fdb
  fvv := h.fvv
  fhb := h.fhb
  old x hx := Nat.lt_of_lt_of_le (h.old x hx) u.size
theorem IsRef.up {w w' : World} {r : Nat} {L : RLay} {F : Nat → Prop} {S : Dk} {T : List Nat} (h : IsRef w r L F S) (u : Upd T w w') (hs : ∀ x ∈ T, ¬ F x) : IsRef w' r L F S :=
  h.upd (u.p (F := (· ∈ T)) fun _ hx => hx) fun x hf hm => hs x hm hf
/-- Blocks of several types are apart. -/
theorem IsRef.r_ne {w : World} {r : Nat} {L : RLay} {F : Nat → Prop} {S : Dk} (h : IsRef w r L F S) : r ≠ L.gl ∧ (∀ i, i < S.n → r ≠ L.db i) ∧ (∀ i, i < S.n → ∀ x ∈ (L.vv i).ownBlock.toList, r ≠ x) ∧ (∀ i, i < S.n → ∀ j, j < (S.sec i).ver.length → r ≠ L.hb i j) := by
  obtain ⟨cs, hb, _⟩ := h.lst
  refine ⟨dne h.hd hb (by decide), fun i hi => ?_, fun i hi x hx => ?_, fun i hi j hj => ?_⟩
  · obtain ⟨c2, hb2, _⟩ := (h.dur i hi).1
    exact dne h.hd hb2 (by decide)
  · rcases (h.ver i hi).2 with ⟨e, _⟩ | ⟨g, cap, cur, e, _, hb2, _⟩
    · rw [e] at hx; simp [Value.ownBlock] at hx
    · rw [e] at hx
      obtain rfl : x = g := by simpa [Value.ownBlock] using hx
      exact dne h.hd hb2 (by decide)
  · obtain ⟨c2, hb2, _⟩ := (h.vby i hi j hj).1
    exact dne h.hd hb2 (by decide)
theorem IsRef.gl_ne {w : World} {r : Nat} {L : RLay} {F : Nat → Prop} {S : Dk} (h : IsRef w r L F S) : (∀ i, i < S.n → L.gl ≠ L.db i) ∧ (∀ i, i < S.n → ∀ x ∈ (L.vv i).ownBlock.toList, L.gl ≠ x) ∧ (∀ i, i < S.n → ∀ j, j < (S.sec i).ver.length → L.gl ≠ L.hb i j) := by
  obtain ⟨cs, hb, _⟩ := h.lst
  refine ⟨fun i hi => ?_, fun i hi x hx => ?_, fun i hi j hj => ?_⟩
  · obtain ⟨c2, hb2, _⟩ := (h.dur i hi).1
    exact dne hb hb2 (by decide)
  · rcases (h.ver i hi).2 with ⟨e, _⟩ | ⟨g, cap, cur, e, _, hb2, _⟩
    · rw [e] at hx; simp [Value.ownBlock] at hx
    · rw [e] at hx
      obtain rfl : x = g := by simpa [Value.ownBlock] using hx
      exact dne hb hb2 (by decide)
  · obtain ⟨c2, hb2, _⟩ := (h.vby i hi j hj).1
    exact dne hb hb2 (by decide)
/-- Only its own cells have turned. -/
theorem IsRef.head {w w' : World} {r : Nat} {L : RLay} {F : Nat → Prop} {S S' : Dk} (h : IsRef w r L F S) (u : Upd [r] w w') (hn : S'.n = S.n) (hsec : S'.sec = S.sec) (hok : S'.Ok) (hh : RHead w' r L S') : IsRef w' r L F S' := by
  obtain ⟨r1, r2, r3, r4⟩ := h.r_ne
  have up : UpdP (· = r) w w' := u.p fun x hx => by simpa using hx
  obtain ⟨n', sec', fall', left'⟩ := S'
  obtain ⟨n, sec, fall, left⟩ := S
  simp only at hn hsec
  subst hn; subst hsec
  exact ⟨hok, hh, by obtain ⟨cs, hb, q⟩ := h.lst; exact ⟨cs, up.get hb (fun e => r1 e.symm), q⟩, fun i hi => ⟨(h.dur i hi).1.upd2 up (fun e => r2 i hi e.symm), (h.dur i hi).2⟩,
    fun i hi => ownsRow_upd2 (h.ver i hi) up (fun x hx e => r3 i hi x hx e.symm), fun i hi j hj => ⟨(h.vby i hi j hj).1.upd2 up (fun e => r4 i hi j hj e.symm), (h.vby i hi j hj).2⟩,
    h.apart, h.fr, h.fgl, h.fdb, h.fvv, h.fhb, fun x hx => Nat.lt_of_lt_of_le (h.old x hx) u.size⟩
theorem rcell {w : World} {r : Nat} {L : RLay} {S : Dk} (h : RHead w r L S) :
    w.cell? ⟨r, 0, none⟩ = some (.slice (some ⟨L.gl, 0, none⟩) S.n L.cap) ∧ w.cell? ⟨r, 1, none⟩ = some (.int .i64 (S.fall 0 : Nat)) ∧ w.cell? ⟨r, 2, none⟩ = some (.int .i64 (S.fall 1 : Nat)) ∧ w.cell? ⟨r, 3, none⟩ = some (.int .i64 (S.fall 2 : Nat)) ∧
      w.cell? ⟨r, 4, none⟩ = some (.int .i64 (S.fall 3 : Nat)) ∧ w.cell? ⟨r, 5, none⟩ = some (.int .i64 (rLeft S)) := by
  obtain ⟨k, _⟩ := cells_of h
  exact ⟨k 0, k 1, k 2, k 3, k 4, k 5⟩
theorem rset {w : World} {r : Nat} {L : RLay} {S : Dk} (h : RHead w r L S) (k x : Nat) (hk : k ≤ 3) : RHead (w.setCell ⟨r, 1 + k, none⟩ (.int .i64 (x : Nat))) r L { S with fall := setf S.fall k x } := by
  unfold RHead at *
  rw [heap_setCell_same w r (1 + k) _ _ _ h]
  congr 1
  rcases k with _ | _ | _ | _ | k
  · rfl
  · rfl
  · rfl
  · rfl
  · omega
theorem rset5 {w : World} {r : Nat} {L : RLay} {S : Dk} (h : RHead w r L S) (l : Option Nat) : RHead (w.setCell ⟨r, 5, none⟩ (.int .i64 (rLeft { S with left := l }))) r L { S with left := l } := by
  unfold RHead at *
  rw [heap_setCell_same w r 5 _ _ _ h]; rfl
set_option maxHeartbeats 800000 in
theorem rthere_any {w : World} {r : Nat} {L : RLay} {S : Dk} (h : RHead w r L S) (hn : S.n ≤ 4096) (p c : Int) : Calls Try.prog 40 #[.pointer (some ⟨r, 0, none⟩), .int .i64 p, .int .i64 c] w fun e w' => e = .returned (.bool (S.there p c)) ∧ w = w' := by
  obtain ⟨h0, _⟩ := rcell h
  have hx : S.there p c = (decide (0 ≤ p) && (decide (1 ≤ c) && (decide (p < S.n) && decide (c ≤ S.n - p)))) := by
    unfold Dk.there
    rw [show decide (0 < c) = decide (1 ≤ c) from by rw [decide_eq_decide]; omega]
  rw [hx]
  clear hx h
  have hc2 : (0 < c ∧ 1 ≤ c) ∨ (c ≤ 0 ∧ c < 1) := by omega
  by_cases h1 : 0 ≤ p <;> rcases hc2 with ⟨h2, h2'⟩ | ⟨h2, h2'⟩ <;> by_cases h3 : p < S.n <;> by_cases h4 : c ≤ S.n - p <;>
  first
  | (exfalso; omega)
  | (go_enter Try.func40, Try.ntmps40
     go_wp2
     all_goals go_ret
     all_goals exact ⟨by simp_all, rfl⟩)
set_option maxHeartbeats 1600000 in
theorem rfails_any {w : World} {r : Nat} {L : RLay} {S : Dk} (h : RHead w r L S) (hf : ∀ k, S.fall k ≤ 1099511627776) (k : Nat) (hk : 1 ≤ k ∧ k ≤ 3) :
    Calls Try.prog 41 #[.pointer (some ⟨r, 0, none⟩), .int .i64 (k : Nat)] w fun e w' => e = .returned (.bool (S.hit k)) ∧ RHead w' r L (S.tick k) ∧ Upd [r] w w' := by
  have hfk := hf k
  have hcell : w.cell? ⟨r, 1 + k, none⟩ = some (.int .i64 (S.fall k : Nat)) ∧ w.frozen? ⟨r, 1 + k, none⟩ = false := by
    obtain ⟨q1, q2⟩ := cells_of h
    refine ⟨?_, q2 _⟩
    rw [q1]
    obtain rfl | rfl | rfl : k = 1 ∨ k = 2 ∨ k = 3 := by omega
    · rfl
    · rfl
    · rfl
  obtain ⟨hc, hz⟩ := hcell
  have hset := rset h k (S.fall k - 1) (by omega)
  have k1 : (k : Int) < 4 := by omega
  rcases hit_cases S k with ⟨h0, hh⟩ | ⟨h0, hh⟩ | ⟨h0, hh⟩
  · rw [h0] at hc
    have HB := Lib.hid h
    have HT := Lib.hid (tick_zero h0)
    have HH := Lib.hid hh
    clear h h0 hh hset
    go_enter Try.func41, Try.ntmps41
    go_wp2
    go_ret
    exact ⟨by rw [HH.out]; rfl, by rw [HT.out]; exact HB.out, Upd.refl _ _⟩
  all_goals
    have HS := Lib.hid hset
    have HH := Lib.hid hh
    have f1 : 1 ≤ S.fall k := by omega
    have kz : ((S.fall k : Int) == 0) = false := by simpa using (by omega : ¬ S.fall k = 0)
    have kz1 : decide ((S.fall k : Int) = 0) = false := by simpa using (by omega : ¬ S.fall k = 0)
    have kz2 : (((S.fall k : Int) - 1) == 0) = S.hit k := by unfold Dk.hit; rw [Bool.eq_iff_iff]; simp; omega
    have kz3 : decide ((S.fall k : Int) - 1 = 0) = S.hit k := by unfold Dk.hit; rw [Bool.eq_iff_iff]; simp; omega
    have HV := Lib.hid (show ((S.fall k : Int) - 1) = ((S.fall k - 1 : Nat) : Int) by omega)
    clear h hh hset h0
    go_enter Try.func41, Try.ntmps41
    go_upto_region 3 with fail
    go_region
    go_wp2
    go_ret
    rw [HV.out]
    exact ⟨rfl, HS.out, ((Upd.refl [r] w).setCell (.inl (by simp)) _).drew⟩
theorem IsRef.ticked {w w' : World} {r : Nat} {L : RLay} {F : Nat → Prop} {S : Dk} (h : IsRef w r L F S) (u : Upd [r] w w') (k : Nat) (hh : RHead w' r L (S.tick k)) : IsRef w' r L F (S.tick k) :=
  h.head u rfl rfl ⟨h.ok.n1, h.ok.n2, h.ok.sec, fun j => by
    have := h.ok.fall j
    have := h.ok.fall k
    unfold Dk.tick setf
    simp only
    split <;> omega, h.ok.left⟩ hh
set_option maxHeartbeats 1600000 in
theorem rfail_any {w : World} {r : Nat} {L : RLay} {F : Nat → Prop} {S : Dk} (h : IsRef w r L F S) (k n : Int) :
    Calls Try.prog 36 #[.pointer (some ⟨r, 0, none⟩), .int .i64 k, .int .i64 n] w fun e w' => e = .returned (.int .i64 (S.fail k n).1) ∧ IsRef w' r L F (S.fail k n).2 ∧ Upd [r] w w' := by
  have HD := Lib.hid h
  by_cases hbad : k < 1 ∨ 3 < k ∨ n < 1 ∨ 1099511627776 < n
  · have HF := Lib.hid (show S.fail k n = (1, S) by unfold Dk.fail; rw [if_pos hbad])
    clear h
    have hb4 : k < 1 ∨ (1 ≤ k ∧ 3 < k) ∨ (1 ≤ k ∧ k ≤ 3 ∧ n < 1) ∨ (1 ≤ k ∧ k ≤ 3 ∧ 1 ≤ n ∧ 1099511627776 < n) := by omega
    clear hbad
    rcases hb4 with h1 | ⟨h1, h2⟩ | ⟨h1, h2, h3⟩ | ⟨h1, h2, h3, h4⟩
    all_goals
      go_enter Try.func36, Try.ntmps36
      go_wp2
      go_ret
      rw [HF.out]
      exact ⟨rfl, HD.out, Upd.refl _ _⟩
  · have HF := Lib.hid (show S.fail k n = (0, { S with fall := setf S.fall k.toNat n.toNat }) by unfold Dk.fail; rw [if_neg hbad])
    obtain ⟨q, rfl⟩ := Int.eq_ofNat_of_zero_le (show 0 ≤ k by omega)
    obtain ⟨m, rfl⟩ := Int.eq_ofNat_of_zero_le (show 0 ≤ n by omega)
    have b1 : 1 ≤ q := by omega
    have b2 : q ≤ 3 := by omega
    have b3 : 1 ≤ m := by omega
    have b4 : m ≤ 1099511627776 := by omega
    have b5 : (q : Int) < 4 := by omega
    have HS := Lib.hid (rset h.hd q m b2)
    have hcell : w.cell? ⟨r, 1 + q, none⟩ = some (.int .i64 (S.fall q : Nat)) ∧ w.frozen? ⟨r, 1 + q, none⟩ = false := by
      obtain ⟨q1, q2⟩ := cells_of h.hd
      refine ⟨?_, q2 _⟩
      rw [q1]
      obtain rfl | rfl | rfl : q = 1 ∨ q = 2 ∨ q = 3 := by omega
      · rfl
      · rfl
      · rfl
    obtain ⟨hc, hz⟩ := hcell
    clear hbad h
    go_enter Try.func36, Try.ntmps36
    go_wp2
    go_ret
    rw [HF.out]
    have hu : Upd [r] w (w.setCell ⟨r, 1 + q, none⟩ (.int .i64 (m : Nat))) := (Upd.refl [r] w).setCell (.inl (by simp)) _
    refine ⟨rfl, HD.out.head hu rfl rfl ⟨HD.out.ok.n1, HD.out.ok.n2, HD.out.ok.sec, fun j => ?_, HD.out.ok.left⟩ HS.out, hu⟩
    have := HD.out.ok.fall j
    simp only [Int.toNat_natCast]
    unfold setf
    split <;> omega
set_option maxHeartbeats 1600000 in
theorem rcut_any {w : World} {r : Nat} {L : RLay} {F : Nat → Prop} {S : Dk} (h : IsRef w r L F S) (n : Int) :
    Calls Try.prog 37 #[.pointer (some ⟨r, 0, none⟩), .int .i64 n] w fun e w' => e = .returned (.int .i64 (S.cut n).1) ∧ IsRef w' r L F (S.cut n).2 ∧ Upd [r] w w' := by
  have HD := Lib.hid h
  by_cases hbad : n < 0 ∨ 1099511627776 < n
  · have HF := Lib.hid (show S.cut n = (1, S) by unfold Dk.cut; rw [if_pos hbad])
    clear h
    have hb4 : n < 0 ∨ (0 ≤ n ∧ 1099511627776 < n) := by omega
    clear hbad
    rcases hb4 with h1 | ⟨h1, h2⟩
    all_goals
      go_enter Try.func37, Try.ntmps37
      go_wp2
      go_ret
      rw [HF.out]
      exact ⟨rfl, HD.out, Upd.refl _ _⟩
  · have HF := Lib.hid (show S.cut n = (0, { S with left := some n.toNat }) by unfold Dk.cut; rw [if_neg hbad])
    obtain ⟨m, rfl⟩ := Int.eq_ofNat_of_zero_le (show 0 ≤ n by omega)
    have b4 : m ≤ 1099511627776 := by omega
    have HS := Lib.hid (rset5 h.hd (some m))
    have c5 := (rcell h.hd).2.2.2.2.2
    have z5 := (cells_of h.hd).2 5
    clear hbad h
    go_enter Try.func37, Try.ntmps37
    go_wp2
    go_ret
    rw [HF.out]
    have hu : Upd [r] w (w.setCell ⟨r, 5, none⟩ (.int .i64 (m : Nat))) := (Upd.refl [r] w).setCell (.inl (by simp)) _
    exact ⟨rfl, HD.out.head hu rfl rfl ⟨HD.out.ok.n1, HD.out.ok.n2, HD.out.ok.sec, HD.out.ok.fall, fun j hj => by simp at hj; omega⟩ HS.out, hu⟩
set_option maxHeartbeats 1600000 in
theorem rdone_any {w : World} {r : Nat} {L : RLay} {F : Nat → Prop} {S : Dk} (h : IsRef w r L F S) :
    Calls Try.prog 44 #[.pointer (some ⟨r, 0, none⟩)] w fun e w' => e = .returned (.tuple #[]) ∧ IsRef w' r L F S.did ∧ Upd [r] w w' := by
  have HD := Lib.hid h
  have c5 := (rcell h.hd).2.2.2.2.2
  have z5 := (cells_of h.hd).2 5
  have HS := Lib.hid (rset5 h.hd (S.left.map (· - 1)))
  have hok := h.ok.did
  cases hl : S.left with
  | none =>
    have HE := Lib.hid (show S.did = S by obtain ⟨n, sec, fall, left⟩ := S; simp only at hl; subst hl; rfl)
    rw [show rLeft S = -1 by unfold rLeft; rw [hl]] at c5
    clear h hl hok
    go_enter Try.func44, Try.ntmps44
    go_wp2
    go_end0
    exact ⟨rfl, by rw [HE.out]; exact HD.out, Upd.refl _ _⟩
  | some k =>
    have hk := h.ok.left k hl
    rw [show rLeft S = (k : Nat) by unfold rLeft; rw [hl]] at c5
    by_cases h0 : k = 0
    · subst h0
      have HE := Lib.hid (show S.did = S by obtain ⟨n, sec, fall, left⟩ := S; simp only at hl; subst hl; rfl)
      clear h hl hok
      go_enter Try.func44, Try.ntmps44
      go_wp2
      go_end0
      exact ⟨rfl, by rw [HE.out]; exact HD.out, Upd.refl _ _⟩
    · have k0 : 0 < k := by omega
      have HV := Lib.hid (show (rLeft { S with left := S.left.map (· - 1) } : Int) = (k : Int) - 1 by unfold rLeft; rw [hl]; simp; omega)
      have HOK := Lib.hid hok
      rw [HV.out] at HS
      clear h hl hok h0
      go_enter Try.func44, Try.ntmps44
      go_wp2
      go_end0
      have hu : Upd [r] w (w.setCell ⟨r, 5, none⟩ (.int .i64 ((k : Int) - 1))) := (Upd.refl [r] w).setCell (.inl (by simp)) _
      exact ⟨rfl, HD.out.head hu rfl rfl HOK.out HS.out, hu⟩
end Go.Proofs.Ytpnpjffhkaejgaa
