/-
  PROVED HERE: the document's disk (polderref03) as the same plain thing: how it lies in memory; its small functions. Conditions: those that each theorem names.
  PROVED HERE: the document's disk: what a sector reads as; Read. Conditions: those that each theorem names.
  PROVED HERE: the document's disk: a sector gets new durable bytes; Flush. Conditions: those that each theorem names.
  PROVED HERE: the document's disk: Write. Conditions: those that each theorem names.
-/
import Derived.Test.YtpnpjffhkaejgaaGreatDoorDiskP
namespace Go.Proofs.YtpnpjffhkaejgaaGreatDoor
open Go.RowKit

/-- Where the parts of the document's disk lie: its list; of each sector what is durable, its versions' slice, the versions' bytes. -/
structure RLay where
  gl : Nat
  cap : Nat
  db : Nat → Nat
  dc : Nat → Nat
  vv : Nat → Value
  hb : Nat → Nat → Nat
  hc : Nat → Nat → Nat
def rLeft (S : Dk) : Int := match S.left with | some k => (k : Nat) | none => -1
def rCells (L : RLay) (S : Dk) : Array Value := #[.slice (some ⟨L.gl, 0, none⟩) S.n L.cap, .int .i64 (S.fall 0 : Nat), .int .i64 (S.fall 1 : Nat), .int .i64 (S.fall 2 : Nat), .int .i64 (S.fall 3 : Nat), .int .i64 (rLeft S)]
def RHead (w : World) (r : Nat) (L : RLay) (S : Dk) : Prop := w.heap[r]? = some (.cells (rCells L S) 69 (0, 0))
def durV (L : RLay) (i : Nat) : Value := .slice (some ⟨L.db i, 0, none⟩) 256 (L.dc i)
def RList (w : World) (L : RLay) (n : Nat) : Prop := ∃ cs, w.heap[L.gl]? = some (.cells cs 72 (0, 0)) ∧ cs.size = L.cap * 2 ∧ n ≤ L.cap ∧ L.cap ≤ maxLen ∧ ∀ i, i < n → cs[i * 2]? = some (durV L i) ∧ cs[i * 2 + 1]? = some (L.vv i)
def rheads (L : RLay) (i m : Nat) : List Value := (List.range m).map fun j => Value.slice (some ⟨L.hb i j, 0, none⟩) 256 (L.hc i j)
def capOk (c : Nat) : Prop := 256 ≤ c ∧ c ≤ 9223372036854775807
structure IsRef (w : World) (r : Nat) (L : RLay) (F : Nat → Prop) (S : Dk) : Prop where
  ok : S.Ok
  hd : RHead w r L S
  lst : RList w L S.n
  dur : ∀ i, i < S.n → BlkF w (L.db i) 1 (fun _ => (S.sec i).dur) ∧ capOk (L.dc i)
  ver : ∀ i, i < S.n → w.ownsRow 0 62 1 (L.vv i) (S.sec i).ver.length (rheads L i (S.sec i).ver.length)
  vby : ∀ i, i < S.n → ∀ j (h : j < (S.sec i).ver.length), BlkF w (L.hb i j) 1 (fun _ => (S.sec i).ver[j]) ∧ capOk (L.hc i j)
  apart : ∀ i j, i < S.n → j < S.n → i ≠ j → ∀ x ∈ (L.vv i).ownBlock.toList, x ∉ (L.vv j).ownBlock.toList
  fr : F r
  fgl : F L.gl
  fdb : ∀ i, i < S.n → F (L.db i)
  fvv : ∀ i, i < S.n → ∀ x ∈ (L.vv i).ownBlock.toList, F x
  fhb : ∀ i, i < S.n → ∀ j, j < (S.sec i).ver.length → F (L.hb i j)
  old : ∀ x, F x → x < w.heap.size
theorem BlkF.upd2 {w w' : World} {g c : Nat} {f : Nat → List Nat} {G : Nat → Prop} (h : BlkF w g c f) (u : UpdP G w w') (hs : ¬ G g) : BlkF w' g c f := by
  obtain ⟨cs, hb, r⟩ := h
  exact ⟨cs, u.get hb hs, r⟩
theorem ownsRow_upd2 {w w' : World} {B : Nat} {e : TypeId} {z n : Nat} {v : Value} {xs : List Value} {G : Nat → Prop} (h : w.ownsRow B e z v n xs) (u : UpdP G w w') (hs : ∀ x ∈ v.ownBlock.toList, ¬ G x) : w'.ownsRow B e z v n xs := by
  obtain ⟨hl, ⟨rfl, rfl⟩ | ⟨g, cap, cur, rfl, hg, hb, r⟩⟩ := h
  · exact ⟨hl, .inl ⟨rfl, rfl⟩⟩
  · exact ⟨hl, .inr ⟨g, cap, cur, rfl, hg, u.get hb (hs g (by simp [Value.ownBlock])), r⟩⟩
theorem IsRef.upd {w w' : World} {r : Nat} {L : RLay} {F G : Nat → Prop} {S : Dk} (h : IsRef w r L F S) (u : UpdP G w w') (hs : ∀ x, F x → ¬ G x) : IsRef w' r L F S where
  ok := h.ok
  hd := u.get h.hd (hs _ h.fr)
  lst := by obtain ⟨cs, hb, q⟩ := h.lst; exact ⟨cs, u.get hb (hs _ h.fgl), q⟩
  dur i hi := ⟨(h.dur i hi).1.upd2 u (hs _ (h.fdb i hi)), (h.dur i hi).2⟩
  ver i hi := ownsRow_upd2 (h.ver i hi) u fun x hx => hs _ (h.fvv i hi x hx)
  vby i hi j hj := ⟨(h.vby i hi j hj).1.upd2 u (hs _ (h.fhb i hi j hj)), (h.vby i hi j hj).2⟩
  apart := h.apart
  fr := h.fr
  fgl := h.fgl
  fdb := h.fdb
  fvv := h.fvv
  fhb := h.fhb
  old x hx := Nat.lt_of_lt_of_le (h.old x hx) u.size
theorem IsRef.up {w w' : World} {r : Nat} {L : RLay} {F : Nat → Prop} {S : Dk} {T : List Nat} (h : IsRef w r L F S) (u : Upd T w w') (hs : ∀ x ∈ T, ¬ F x) : IsRef w' r L F S :=
  h.upd (u.p (F := (· ∈ T)) fun _ hx => hx) fun x hf hm => hs x hm hf
/-- Blocks of several types are apart. -/
theorem IsRef.r_ne {w : World} {r : Nat} {L : RLay} {F : Nat → Prop} {S : Dk} (h : IsRef w r L F S) : r ≠ L.gl ∧ (∀ i, i < S.n → r ≠ L.db i) ∧ (∀ i, i < S.n → ∀ x ∈ (L.vv i).ownBlock.toList, r ≠ x) ∧ (∀ i, i < S.n → ∀ j, j < (S.sec i).ver.length → r ≠ L.hb i j) := by
  obtain ⟨cs, hb, _⟩ := h.lst
  refine ⟨dne h.hd hb (by decide), fun i hi => ?_, fun i hi x hx => ?_, fun i hi j hj => ?_⟩
  · obtain ⟨c2, hb2, _⟩ := (h.dur i hi).1
    exact dne h.hd hb2 (by decide)
  · rcases (h.ver i hi).2 with ⟨e, _⟩ | ⟨g, cap, cur, e, _, hb2, _⟩
    · rw [e] at hx; simp [Value.ownBlock] at hx
    · rw [e] at hx
      obtain rfl : x = g := by simpa [Value.ownBlock] using hx
      exact dne h.hd hb2 (by decide)
  · obtain ⟨c2, hb2, _⟩ := (h.vby i hi j hj).1
    exact dne h.hd hb2 (by decide)
theorem IsRef.gl_ne {w : World} {r : Nat} {L : RLay} {F : Nat → Prop} {S : Dk} (h : IsRef w r L F S) : (∀ i, i < S.n → L.gl ≠ L.db i) ∧ (∀ i, i < S.n → ∀ x ∈ (L.vv i).ownBlock.toList, L.gl ≠ x) ∧ (∀ i, i < S.n → ∀ j, j < (S.sec i).ver.length → L.gl ≠ L.hb i j) := by
  obtain ⟨cs, hb, _⟩ := h.lst
  refine ⟨fun i hi => ?_, fun i hi x hx => ?_, fun i hi j hj => ?_⟩
  · obtain ⟨c2, hb2, _⟩ := (h.dur i hi).1
    exact dne hb hb2 (by decide)
  · rcases (h.ver i hi).2 with ⟨e, _⟩ | ⟨g, cap, cur, e, _, hb2, _⟩
    · rw [e] at hx; simp [Value.ownBlock] at hx
    · rw [e] at hx
      obtain rfl : x = g := by simpa [Value.ownBlock] using hx
      exact dne hb hb2 (by decide)
  · obtain ⟨c2, hb2, _⟩ := (h.vby i hi j hj).1
    exact dne hb hb2 (by decide)
/-- Only its own cells have turned. -/
theorem IsRef.head {w w' : World} {r : Nat} {L : RLay} {F : Nat → Prop} {S S' : Dk} (h : IsRef w r L F S) (u : Upd [r] w w') (hn : S'.n = S.n) (hsec : S'.sec = S.sec) (hok : S'.Ok) (hh : RHead w' r L S') : IsRef w' r L F S' := by
  obtain ⟨r1, r2, r3, r4⟩ := h.r_ne
  have up : UpdP (· = r) w w' := u.p fun x hx => by simpa using hx
  obtain ⟨n', sec', fall', left'⟩ := S'
  obtain ⟨n, sec, fall, left⟩ := S
  simp only at hn hsec
  subst hn; subst hsec
  exact ⟨hok, hh, by obtain ⟨cs, hb, q⟩ := h.lst; exact ⟨cs, up.get hb (fun e => r1 e.symm), q⟩, fun i hi => ⟨(h.dur i hi).1.upd2 up (fun e => r2 i hi e.symm), (h.dur i hi).2⟩,
    fun i hi => ownsRow_upd2 (h.ver i hi) up (fun x hx e => r3 i hi x hx e.symm), fun i hi j hj => ⟨(h.vby i hi j hj).1.upd2 up (fun e => r4 i hi j hj e.symm), (h.vby i hi j hj).2⟩,
    h.apart, h.fr, h.fgl, h.fdb, h.fvv, h.fhb, fun x hx => Nat.lt_of_lt_of_le (h.old x hx) u.size⟩
theorem rcell {w : World} {r : Nat} {L : RLay} {S : Dk} (h : RHead w r L S) :
    w.cell? ⟨r, 0, none⟩ = some (.slice (some ⟨L.gl, 0, none⟩) S.n L.cap) ∧ w.cell? ⟨r, 1, none⟩ = some (.int .i64 (S.fall 0 : Nat)) ∧ w.cell? ⟨r, 2, none⟩ = some (.int .i64 (S.fall 1 : Nat)) ∧ w.cell? ⟨r, 3, none⟩ = some (.int .i64 (S.fall 2 : Nat)) ∧
      w.cell? ⟨r, 4, none⟩ = some (.int .i64 (S.fall 3 : Nat)) ∧ w.cell? ⟨r, 5, none⟩ = some (.int .i64 (rLeft S)) := by
  obtain ⟨k, _⟩ := cells_of h
  exact ⟨k 0, k 1, k 2, k 3, k 4, k 5⟩
theorem rset {w : World} {r : Nat} {L : RLay} {S : Dk} (h : RHead w r L S) (k x : Nat) (hk : k ≤ 3) : RHead (w.setCell ⟨r, 1 + k, none⟩ (.int .i64 (x : Nat))) r L { S with fall := setf S.fall k x } := by
  unfold RHead at *
  rw [heap_setCell_same w r (1 + k) _ _ _ h]
  congr 1
  rcases k with _ | _ | _ | _ | k
  · rfl
  · rfl
  · rfl
  · rfl
  · omega
theorem rset5 {w : World} {r : Nat} {L : RLay} {S : Dk} (h : RHead w r L S) (l : Option Nat) : RHead (w.setCell ⟨r, 5, none⟩ (.int .i64 (rLeft { S with left := l }))) r L { S with left := l } := by
  unfold RHead at *
  rw [heap_setCell_same w r 5 _ _ _ h]; rfl
set_option maxHeartbeats 800000 in
theorem rthere_any {w : World} {r : Nat} {L : RLay} {S : Dk} (h : RHead w r L S) (hn : S.n ≤ 4096) (p c : Int) : Calls Tryz.prog 44 #[.pointer (some ⟨r, 0, none⟩), .int .i64 p, .int .i64 c] w fun e w' => e = .returned (.bool (S.there p c)) ∧ w = w' := by
  obtain ⟨h0, _⟩ := rcell h
  have hx : S.there p c = (decide (0 ≤ p) && (decide (1 ≤ c) && (decide (p < S.n) && decide (c ≤ S.n - p)))) := by
    unfold Dk.there
    rw [show decide (0 < c) = decide (1 ≤ c) from by rw [decide_eq_decide]; omega]
  rw [hx]
  clear hx h
  have hc2 : (0 < c ∧ 1 ≤ c) ∨ (c ≤ 0 ∧ c < 1) := by omega
  by_cases h1 : 0 ≤ p <;> rcases hc2 with ⟨h2, h2'⟩ | ⟨h2, h2'⟩ <;> by_cases h3 : p < S.n <;> by_cases h4 : c ≤ S.n - p <;>
  first
  | (exfalso; omega)
  | (go_enter Tryz.func44, Tryz.ntmps44
     go_wp2
     all_goals go_ret
     all_goals exact ⟨by simp_all, rfl⟩)
set_option maxHeartbeats 1600000 in
theorem rfails_any {w : World} {r : Nat} {L : RLay} {S : Dk} (h : RHead w r L S) (hf : ∀ k, S.fall k ≤ 1099511627776) (k : Nat) (hk : 1 ≤ k ∧ k ≤ 3) :
    Calls Tryz.prog 45 #[.pointer (some ⟨r, 0, none⟩), .int .i64 (k : Nat)] w fun e w' => e = .returned (.bool (S.hit k)) ∧ RHead w' r L (S.tick k) ∧ Upd [r] w w' := by
  have hfk := hf k
  have hcell : w.cell? ⟨r, 1 + k, none⟩ = some (.int .i64 (S.fall k : Nat)) ∧ w.frozen? ⟨r, 1 + k, none⟩ = false := by
    obtain ⟨q1, q2⟩ := cells_of h
    refine ⟨?_, q2 _⟩
    rw [q1]
    obtain rfl | rfl | rfl : k = 1 ∨ k = 2 ∨ k = 3 := by omega
    · rfl
    · rfl
    · rfl
  obtain ⟨hc, hz⟩ := hcell
  have hset := rset h k (S.fall k - 1) (by omega)
  have k1 : (k : Int) < 4 := by omega
  rcases hit_cases S k with ⟨h0, hh⟩ | ⟨h0, hh⟩ | ⟨h0, hh⟩
  · rw [h0] at hc
    have HB := Lib.hid h
    have HT := Lib.hid (tick_zero h0)
    have HH := Lib.hid hh
    clear h h0 hh hset
    go_enter Tryz.func45, Tryz.ntmps45
    go_wp2
    go_ret
    exact ⟨by rw [HH.out]; rfl, by rw [HT.out]; exact HB.out, Upd.refl _ _⟩
  all_goals
    have HS := Lib.hid hset
    have HH := Lib.hid hh
    have f1 : 1 ≤ S.fall k := by omega
    have kz : ((S.fall k : Int) == 0) = false := by simpa using (by omega : ¬ S.fall k = 0)
    have kz1 : decide ((S.fall k : Int) = 0) = false := by simpa using (by omega : ¬ S.fall k = 0)
    have kz2 : (((S.fall k : Int) - 1) == 0) = S.hit k := by unfold Dk.hit; rw [Bool.eq_iff_iff]; simp; omega
    have kz3 : decide ((S.fall k : Int) - 1 = 0) = S.hit k := by unfold Dk.hit; rw [Bool.eq_iff_iff]; simp; omega
    have HV := Lib.hid (show ((S.fall k : Int) - 1) = ((S.fall k - 1 : Nat) : Int) by omega)
    clear h hh hset h0
    go_enter Tryz.func45, Tryz.ntmps45
    go_upto_region 3 with fail
    go_region
    go_wp2
    go_ret
    rw [HV.out]
    exact ⟨rfl, HS.out, ((Upd.refl [r] w).setCell (.inl (by simp)) _).drew⟩
theorem IsRef.ticked {w w' : World} {r : Nat} {L : RLay} {F : Nat → Prop} {S : Dk} (h : IsRef w r L F S) (u : Upd [r] w w') (k : Nat) (hh : RHead w' r L (S.tick k)) : IsRef w' r L F (S.tick k) :=
  h.head u rfl rfl ⟨h.ok.n1, h.ok.n2, h.ok.sec, fun j => by
    have := h.ok.fall j
    have := h.ok.fall k
    unfold Dk.tick setf
    simp only
    split <;> omega, h.ok.left⟩ hh
set_option maxHeartbeats 1600000 in
theorem rfail_any {w : World} {r : Nat} {L : RLay} {F : Nat → Prop} {S : Dk} (h : IsRef w r L F S) (k n : Int) :
    Calls Tryz.prog 14 #[.pointer (some ⟨r, 0, none⟩), .int .i64 k, .int .i64 n] w fun e w' => e = .returned (.int .i64 (S.fail k n).1) ∧ IsRef w' r L F (S.fail k n).2 ∧ Upd [r] w w' := by
  have HD := Lib.hid h
  by_cases hbad : k < 1 ∨ 3 < k ∨ n < 1 ∨ 1099511627776 < n
  · have HF := Lib.hid (show S.fail k n = (1, S) by unfold Dk.fail; rw [if_pos hbad])
    clear h
    have hb4 : k < 1 ∨ (1 ≤ k ∧ 3 < k) ∨ (1 ≤ k ∧ k ≤ 3 ∧ n < 1) ∨ (1 ≤ k ∧ k ≤ 3 ∧ 1 ≤ n ∧ 1099511627776 < n) := by omega
    clear hbad
    rcases hb4 with h1 | ⟨h1, h2⟩ | ⟨h1, h2, h3⟩ | ⟨h1, h2, h3, h4⟩
    all_goals
      go_enter Tryz.func14, Tryz.ntmps14
      go_wp2
      go_ret
      rw [HF.out]
      exact ⟨rfl, HD.out, Upd.refl _ _⟩
  · have HF := Lib.hid (show S.fail k n = (0, { S with fall := setf S.fall k.toNat n.toNat }) by unfold Dk.fail; rw [if_neg hbad])
    obtain ⟨q, rfl⟩ := Int.eq_ofNat_of_zero_le (show 0 ≤ k by omega)
    obtain ⟨m, rfl⟩ := Int.eq_ofNat_of_zero_le (show 0 ≤ n by omega)
    have b1 : 1 ≤ q := by omega
    have b2 : q ≤ 3 := by omega
    have b3 : 1 ≤ m := by omega
    have b4 : m ≤ 1099511627776 := by omega
    have b5 : (q : Int) < 4 := by omega
    have HS := Lib.hid (rset h.hd q m b2)
    have hcell : w.cell? ⟨r, 1 + q, none⟩ = some (.int .i64 (S.fall q : Nat)) ∧ w.frozen? ⟨r, 1 + q, none⟩ = false := by
      obtain ⟨q1, q2⟩ := cells_of h.hd
      refine ⟨?_, q2 _⟩
      rw [q1]
      obtain rfl | rfl | rfl : q = 1 ∨ q = 2 ∨ q = 3 := by omega
      · rfl
      · rfl
      · rfl
    obtain ⟨hc, hz⟩ := hcell
    clear hbad h
    go_enter Tryz.func14, Tryz.ntmps14
    go_wp2
    go_ret
    rw [HF.out]
    have hu : Upd [r] w (w.setCell ⟨r, 1 + q, none⟩ (.int .i64 (m : Nat))) := (Upd.refl [r] w).setCell (.inl (by simp)) _
    refine ⟨rfl, HD.out.head hu rfl rfl ⟨HD.out.ok.n1, HD.out.ok.n2, HD.out.ok.sec, fun j => ?_, HD.out.ok.left⟩ HS.out, hu⟩
    have := HD.out.ok.fall j
    simp only [Int.toNat_natCast]
    unfold setf
    split <;> omega
set_option maxHeartbeats 1600000 in
theorem rdone_any {w : World} {r : Nat} {L : RLay} {F : Nat → Prop} {S : Dk} (h : IsRef w r L F S) :
    Calls Tryz.prog 46 #[.pointer (some ⟨r, 0, none⟩)] w fun e w' => e = .returned (.tuple #[]) ∧ IsRef w' r L F S.did ∧ Upd [r] w w' := by
  have HD := Lib.hid h
  have c5 := (rcell h.hd).2.2.2.2.2
  have z5 := (cells_of h.hd).2 5
  have HS := Lib.hid (rset5 h.hd (S.left.map (· - 1)))
  have hok := h.ok.did
  cases hl : S.left with
  | none =>
    have HE := Lib.hid (show S.did = S by obtain ⟨n, sec, fall, left⟩ := S; simp only at hl; subst hl; rfl)
    rw [show rLeft S = -1 by unfold rLeft; rw [hl]] at c5
    clear h hl hok
    go_enter Tryz.func46, Tryz.ntmps46
    go_wp2
    go_end0
    exact ⟨rfl, by rw [HE.out]; exact HD.out, Upd.refl _ _⟩
  | some k =>
    have hk := h.ok.left k hl
    rw [show rLeft S = (k : Nat) by unfold rLeft; rw [hl]] at c5
    by_cases h0 : k = 0
    · subst h0
      have HE := Lib.hid (show S.did = S by obtain ⟨n, sec, fall, left⟩ := S; simp only at hl; subst hl; rfl)
      clear h hl hok
      go_enter Tryz.func46, Tryz.ntmps46
      go_wp2
      go_end0
      exact ⟨rfl, by rw [HE.out]; exact HD.out, Upd.refl _ _⟩
    · have k0 : 0 < k := by omega
      have HV := Lib.hid (show (rLeft { S with left := S.left.map (· - 1) } : Int) = (k : Int) - 1 by unfold rLeft; rw [hl]; simp; omega)
      have HOK := Lib.hid hok
      rw [HV.out] at HS
      clear h hl hok h0
      go_enter Tryz.func46, Tryz.ntmps46
      go_wp2
      go_end0
      have hu : Upd [r] w (w.setCell ⟨r, 5, none⟩ (.int .i64 ((k : Int) - 1))) := (Upd.refl [r] w).setCell (.inl (by simp)) _
      exact ⟨rfl, HD.out.head hu rfl rfl HOK.out HS.out, hu⟩
end Go.Proofs.YtpnpjffhkaejgaaGreatDoor
namespace Go.Proofs.YtpnpjffhkaejgaaGreatDoor
open Go.RowKit

theorem infoCell : (Tryz.prog.info? 72).map (fun i => (i.zero, i.size, i.bytes)) = some (some (.agg #[.slice none 0 0, .slice none 0 0]), 2, 48) := by kernel_rfl
theorem sizeCell : (Tryz.prog.info? 72).map (·.size) = some 2 := by kernel_rfl
theorem infoSlr : (Tryz.prog.info? 62).map (fun i => (i.zero, i.size, i.bytes)) = some (some (.slice none 0 0), 1, 24) := by kernel_rfl
/-- A sector's bytes that lie in a block of the disk's. -/
def RLast (w' : World) (F : Nat → Prop) (l : List Nat) (e : Ending) : Prop := ∃ b c, e = .returned (.slice (some ⟨b, 0, none⟩) 256 c) ∧ BlkF w' b 1 (fun _ => l) ∧ F b ∧ capOk c
theorem IsRef.cells {w : World} {r : Nat} {L : RLay} {F : Nat → Prop} {S : Dk} (h : IsRef w r L F S) (i : Nat) (hi : i < S.n) : w.cell? ⟨L.gl, i * 2, none⟩ = some (durV L i) ∧ w.cell? ⟨L.gl, i * 2 + 1, none⟩ = some (L.vv i) := by
  obtain ⟨cs, hb, _, _, _, hcs⟩ := h.lst
  obtain ⟨k1, k2⟩ := hcs i hi
  exact ⟨by rw [(cells_of hb).1]; exact k1, by rw [(cells_of hb).1]; exact k2⟩
/-- The last version's header. -/
theorem IsRef.head_at {w : World} {r : Nat} {L : RLay} {F : Nat → Prop} {S : Dk} (h : IsRef w r L F S) {i j : Nat} (hi : i < S.n) (hj : j < (S.sec i).ver.length) : ∃ g cap, L.vv i = .slice (some ⟨g, 0, none⟩) (S.sec i).ver.length cap ∧ cap ≤ 9223372036854775807 ∧ (S.sec i).ver.length ≤ cap ∧ w.cell? ⟨g, j, none⟩ = some (.slice (some ⟨L.hb i j, 0, none⟩) 256 (L.hc i j)) := by
  rcases (h.ver i hi).2 with ⟨_, e⟩ | ⟨g, cap, cur, e, _, hb, hc, hm, hs, ht⟩
  · rw [e] at hj; exact absurd hj (Nat.not_lt_zero _)
  · refine ⟨g, cap, e, by unfold maxLen at hm; exact hm, hc, ?_⟩
    rw [(cells_of hb).1]
    have : (cur.toList.take ((S.sec i).ver.length * 1))[j]? = (rheads L i (S.sec i).ver.length)[j]? := by rw [ht]
    rw [List.getElem?_take_of_lt (by omega), Array.getElem?_toList] at this
    rw [this]
    simp [rheads, hj]
set_option maxRecDepth 100000 in
set_option maxHeartbeats 1600000 in
theorem rlast_any {w : World} {r : Nat} {L : RLay} {F : Nat → Prop} {S : Dk} (h : IsRef w r L F S) (i : Nat) (hi : i < S.n) :
    Calls Tryz.prog 50 #[.pointer (some ⟨r, 0, none⟩), .int .i64 (i : Nat)] w fun e w' => RLast w' F (S.sec i).last e ∧ Upd [] w w' := by
  obtain ⟨h0, _⟩ := rcell h.hd
  obtain ⟨k1, k2⟩ := h.cells i hi
  unfold durV at k1
  have n2 := h.ok.n2
  have hi1 : (i : Int) < S.n := by omega
  have hcap := (h.dur i hi).2
  obtain ⟨hd1, hd2⟩ := hcap
  have HD := Lib.hid h
  by_cases hv : (S.sec i).ver = []
  · have hl0 : (S.sec i).ver.length = 0 := by rw [hv]; rfl
    have hvv : ∃ a c, L.vv i = .slice a 0 c := by
      rcases (h.ver i hi).2 with ⟨e, _⟩ | ⟨g, cap, cur, e, _⟩
      · exact ⟨none, 0, e⟩
      · exact ⟨_, cap, by rw [e, hl0]⟩
    obtain ⟨a, c, hvv⟩ := hvv
    rw [hvv] at k2
    have HL := Lib.hid (Sec.last_nil hv)
    clear h hv hl0 hvv
    go_enter Tryz.func50, Tryz.ntmps50
    go_wp2
    go_ret
    have u : Upd [] w (w.alloc (.cells #[.slice (some ⟨L.db i, 0, none⟩) 256 (L.dc i), .slice a 0 c] 72)) := (Upd.refl [] w).alloc _
    refine ⟨⟨L.db i, L.dc i, rfl, ?_, HD.out.fdb i hi, hd1, hd2⟩, u⟩
    rw [HL.out]
    exact (HD.out.dur i hi).1.upd u (by simp)
  · obtain ⟨hm1, hlast⟩ := Sec.last_get hv
    obtain ⟨m, hm⟩ : ∃ m, (S.sec i).ver.length = m + 1 := ⟨(S.sec i).ver.length - 1, by omega⟩
    obtain ⟨g, cap, hvv, hcm, hcl, hcell⟩ := h.head_at (j := m) hi (by omega)
    rw [hvv, hm] at k2
    rw [hm] at hcl
    have hml : m + 1 ≤ 9223372036854775807 := by omega
    have u := (Upd.refl [] w).alloc (.cells #[.slice (some ⟨L.db i, 0, none⟩) 256 (L.dc i), .slice (some ⟨g, 0, none⟩) (m + 1) cap] 72)
    have hcellA : (w.alloc (.cells #[.slice (some ⟨L.db i, 0, none⟩) 256 (L.dc i), .slice (some ⟨g, 0, none⟩) (m + 1) cap] 72)).cell? ⟨g, m, none⟩ = some (.slice (some ⟨L.hb i m, 0, none⟩) 256 (L.hc i m)) := by
      rw [← hcell]; exact World.cell?_of_block (u.block g (World.block_lt_of_cell? _ _ hcell) (by simp))
    have HU := Lib.hid u
    have HM := Lib.hid hm
    have HLA := Lib.hid hlast
    clear h hv hvv hm hlast u
    go_enter Tryz.func50, Tryz.ntmps50
    go_wp2
    go_ret
    obtain ⟨hv1, hv2⟩ := HD.out.vby i hi m (by have := HM.out; omega)
    refine ⟨⟨L.hb i m, L.hc i m, rfl, ?_, HD.out.fhb i hi m (by have := HM.out; omega), hv2⟩, HU.out⟩
    have e : (S.sec i).last = (S.sec i).ver[m]'(by have := HM.out; omega) := by
      have h1 := HLA.out
      have h2 := HM.out
      rw [h1]
      congr 1
      omega
    rw [e]
    exact hv1.upd HU.out (by simp)
/-- append of bytes onto a row of the call's own. -/
theorem wpList_approw {w : World} {ops : Array Oper} {rest : List Oper} {o : Oper} {a : Act} {Q : Exit → Act → World → Prop} (hgd : o.guard = none) (s x : Operand)
    (ho : o.op = .call { callee := .builtin .append, args := #[s, x], argTypes := #[62, 62] }) {B : Nat} {v : Value} {l l2 : List Nat} (hs : a.eval s = v) (hown : IsRow w B v l)
    (b q n c : Nat) (hx : a.eval x = .slice (some ⟨b, q, none⟩) n c) (hb : IsBytes w (some ⟨b, q, none⟩) l2) (hn : l2.length = n) (hr : l.length + n ≤ 100000000000) (hB : B ≤ w.heap.size)
    (h : ∀ v' w', IsRow w' B v' (l ++ l2) → Mine v w v' w' → wpList Tryz.prog ops Q rest (a.put o.dst v') w') : wpList Tryz.prog ops Q (o :: rest) a w := by
  obtain ⟨i0, hi, hz0, hz1, hz2⟩ := info_parts infoByte
  refine wpList_append_blk w hgd s x 62 ho B 5 i0 _ 1 1 Tryz.underlying62 hi hz0 hz1 hz2 rfl (by decide) v _ _ hs hown.1 ⟨b, q, none⟩ n c (u8s l2) hx (by rw [u8s_len, hn, Nat.mul_one]) hb.news (u8s_one l2) (by unfold maxLen; omega) (by omega) hB fun v' w' h1 h2 => h v' w' ⟨?_, hown.2.append hb.1⟩ h2
  rw [List.length_append, hn, show u8s (l ++ l2) = u8s l ++ u8s l2 by simp [u8s]]
  exact h1
theorem blk_bytes {w : World} {b : Nat} {l : List Nat} (h : BlkF w b 1 fun _ => l) (hl : l.length = 256 ∧ BytesOk l) : IsBytes w (some ⟨b, 0, none⟩) l := by
  have := BlkF.bytes h 0 1 (by decide) (fun _ _ => hl)
  rw [show blocks (fun j => (fun _ => l) (0 + j)) 1 = l by simp [blocks]] at this
  exact this
set_option maxRecDepth 100000 in
set_option maxHeartbeats 3200000 in
theorem rread_any {w : World} {r : Nat} {L : RLay} {F : Nat → Prop} {S : Dk} (h : IsRef w r L F S) (p c : Int) :
    Calls Tryz.prog 26 #[.pointer (some ⟨r, 0, none⟩), .int .i64 p, .int .i64 c] w fun e w' => ReadOut w.heap.size (S.read p c).1 e w' ∧ IsRef w' r L F (S.read p c).2 ∧ Upd [r] w w' := by
  have HD := Lib.hid h
  have ht := rthere_any h.hd h.ok.n2 p c
  cases hth : S.there p c
  · have HR := Lib.hid (show S.read p c = (([], 2), S) by unfold Dk.read; rw [hth]; rfl)
    rw [hth] at ht
    have HT := Lib.hid ht
    clear h ht hth
    go_enter Tryz.func26, Tryz.ntmps26
    go_wp2_with (go_at_call 44; refine HT.out.mono ?_; rintro e w' ⟨rfl, rfl⟩)
    go_ret2
    rw [HR.out]
    exact ⟨⟨_, rfl, IsRow.nil _ _⟩, HD.out, Upd.refl _ _⟩
  · rw [hth] at ht
    have HT := Lib.hid ht
    have hf := rfails_any h.hd h.ok.fall 1 (by decide)
    cases hh : S.hit 1
    rotate_left
    · have HR := Lib.hid (show S.read p c = (([], 10), S.tick 1) by unfold Dk.read; rw [hth, hh]; rfl)
      rw [hh] at hf
      have HF := Lib.hid hf
      clear h ht hth hf hh
      go_enter Tryz.func26, Tryz.ntmps26
      go_wp2_with (first
        | (go_at_call 44; refine HT.out.mono ?_; rintro e w' ⟨rfl, rfl⟩)
        | (go_at_call 45; refine HF.out.mono ?_; rintro e w1 ⟨rfl, h1, u1⟩; have H1 := Lib.hid h1; have U1 := Lib.hid u1; clear h1 u1))
      go_ret2
      rw [HR.out]
      exact ⟨⟨_, rfl, IsRow.nil _ _⟩, HD.out.ticked U1.out 1 H1.out, U1.out⟩
    · obtain ⟨t1, t2, t3, t4⟩ := there_true hth
      obtain ⟨P, rfl⟩ := Int.eq_ofNat_of_zero_le t1
      obtain ⟨C, rfl⟩ := Int.eq_ofNat_of_zero_le (show 0 ≤ c by omega)
      have HR := Lib.hid (show S.read P C = ((S.bytes P C, 0), S.tick 1) by unfold Dk.read; rw [hth, hh]; rfl)
      rw [hh] at hf
      have HF := Lib.hid hf
      have n2 := h.ok.n2
      have b1 : P + C ≤ S.n := by omega
      have b2 : 0 < C := by omega
      clear h ht hth hf hh t1 t2 t3 t4
      go_enter Tryz.func26, Tryz.ntmps26
      go_wp2_with (go_at_call 44; refine HT.out.mono ?_; rintro e w' ⟨rfl, rfl⟩)
      refine HF.out.mono ?_
      rintro e w1 ⟨rfl, h1, u1⟩
      have D1 := Lib.hid (HD.out.ticked u1 1 h1)
      have U1 := Lib.hid u1
      clear h1 u1
      go_wp2_with fail
      go_loopw [8, 9] (fun v i wr => ∃ q : Nat, P ≤ q ∧ q ≤ P + C ∧ i = .int .i64 q ∧ IsRow wr w1.heap.size v (blocks (fun j => (S.sec (P + j)).last) (q - P)) ∧ Upd [] w1 wr) (fun _ i _ => P + C - (RowKit.intOf i).toNat)
      case atStart => exact ⟨P, Nat.le_refl _, by omega, rfl, by rw [Nat.sub_self]; exact IsRow.nil _ _, Upd.refl _ _⟩
      case round =>
        obtain ⟨q, hq1, hq2, rfl, hV, hU⟩ := hrel
        have HV := Lib.hid hV
        have HU := Lib.hid hU
        have DR := D1.out.up hU (by simp)
        clear hV hU
        by_cases hlt : q < P + C
        · have hql : q < (S.tick 1).n := by show q < S.n; omega
          have HLA := Lib.hid (rlast_any DR q hql)
          have HOK := Lib.hid (Sec.last_ok (DR.ok.sec q hql))
          have HBL := Lib.hid (blocks_len (f := fun j => (S.sec (P + j)).last) (c := q - P) fun i hi => (Sec.last_ok (D1.out.ok.sec (P + i) (by show P + i < S.n; omega))).1)
          clear DR hql
          go_wp2_with fail
          refine HLA.out.mono ?_
          rintro e w2 ⟨⟨b, cb, rfl, hb, hbF, hcb⟩, u2⟩
          have HB := Lib.hid (blk_bytes hb HOK.out)
          have U2 := Lib.hid u2
          have HV2 := Lib.hid (HV.out.upd u2 (by simp))
          clear hb u2 hcb
          go_wp2_with (at_builtin; refine wpList_approw rfl (.tmp 25) (.tmp 28) rfl rfl HV2.out b 0 256 cb rfl HB.out HOK.out.1 (by rw [HBL.out]; omega) (by have := HU.out.size; have := U2.out.size; omega) ?_; intro v' w3 hn3 hx3; have HN3 := Lib.hid hn3; have HX3 := Lib.hid hx3; clear hn3 hx3)
          go_roundw
          case rel =>
            refine ⟨q + 1, by omega, by omega, by go_num, ?_, (HU.out.trans U2.out).step HX3.out.upd fun x hx => .inr (by have := HV2.out.low x hx; omega)⟩
            have e : q + 1 - P = (q - P) + 1 := by omega
            have e2 : P + (q - P) = q := by omega
            rw [e, blocks_succ, e2]
            exact HN3.out
          case measure => simp [RowKit.intOf]; omega
        · obtain rfl : q = P + C := by omega
          go_wp2
          go_ret2
          rw [HR.out]
          rw [Nat.add_sub_cancel_left] at HV
          exact ⟨⟨_, rfl, HV.out.base (by exact U1.out.size)⟩, D1.out.up HU.out (by simp), U1.out.step HU.out (by simp)⟩
end Go.Proofs.YtpnpjffhkaejgaaGreatDoor
namespace Go.Proofs.YtpnpjffhkaejgaaGreatDoor
open Go.RowKit

section calls
variable {P : Program} {ops : Array Oper} {Q : Exit → Act → World → Prop} {S : World → Prop}
theorem tail_call {o : Oper} {r : List Oper} {a : Act} {w : World} {f : Nat} {vs : Array Value} {R : Ending → World → Prop} (hg : o.guard = none) (hrun : (execOp a.eval o).run P w = .ok (.enter f vs) w) (hc : Calls P f vs w R)
    (h : ∀ e w', R e w' → ∃ v, e = .returned v ∧ S w' ∧ wpTail P ops S Q r (a.put o.dst v) w') : wpTail P ops S Q (o :: r) a w := by
  refine ⟨by simp [Region.wanted, hg], ?_⟩
  unfold Oper.wp
  rw [hrun]
  simp only [Oper.upon]
  exact hc.mono fun e w' he => by
    obtain ⟨v, rfl, hs, ht⟩ := h e w' he
    exact ⟨hs, ht⟩
theorem exec_call {o : Oper} {a : Act} {w : World} {f : Nat} {args : List Operand} {ts : Array TypeId} {vs : List Value} (ho : o.op = .call { callee := .value (.func f), args := args.toArray, argTypes := ts }) (hvs : args.map a.eval = vs) (he : ∀ args w, (callFunc f args).run P w = .ok (.enter f args) w) :
    (execOp a.eval o).run P w = .ok (.enter f vs.toArray) w := by
  subst hvs
  unfold execOp
  simp [ho, resolve, invoke, he, go_sem]
theorem exec_build {o : Oper} {a : Act} {w : World} {t : TypeId} {parts : Array (Nat × Operand)} {ps : List (Nat × Value)} {v : Value} (ho : o.op = .build t parts) (hp : (parts.toList.map fun p => (p.1, a.eval p.2)) = ps) (hrun : (Instr.build t ps.toArray).run P w = .ok v w) : (execOp a.eval o).run P w = .ok (.value v) w := by
  have e : (parts.map fun (i, x) => (i, a.eval x)) = ps.toArray := by
    subst hp
    apply Array.ext'
    simp
  unfold execOp; simp only [ho, e, Sem.run_bind, hrun, Result.andThen_ok, Sem.run_pure]
theorem run_store_part (w : World) (ty : TypeId) (g off : Nat) (vs : Array Value) (t : TypeId) (cs : Array Value) (hg : w.heap[g]? = some (.cells cs t (0, 0)))
    (hi : (P.info? ty).map (·.size) = some vs.size) (hn : off + vs.size ≤ cs.size) (hv : ∀ x ∈ vs.toList, x.oneCell' = true) :
    ∃ w', (storeVar ty ⟨g, off, none⟩ (.agg vs)).run P w = .ok () w' ∧ w'.heap[g]? = some (.cells (splice cs off vs.toList) t (0, 0)) ∧ Upd [g] w w' ∧ w'.heap.size = w.heap.size := by
  have hst := run_storeCells_at (P := P) g off t vs.toList 0 cs w hg (by simpa using hn) hv
  refine ⟨w.setRow g (splice cs off vs.toList), ?_, setRow_heap _ _ _ _ _ _ hg, (Upd.refl _ _).setRow (.inl (by simp)) _, by simp⟩
  cases hq : P.info? ty with
  | none => simp [hq] at hi
  | some i =>
    have hs : i.size = vs.size := by simpa [hq] using hi
    simp only [Nat.add_zero] at hst
    simp [storeVar, Sem.run_bind, sizeOf, typeInfo, hq, hs, Value.cells, hst, splice]
theorem exec_store {o : Oper} {a : Act} {w w' : World} {ty : TypeId} {x y : Operand} {p : Addr} {v : Value} (ho : o.op = .store ty x y) (hx : a.eval x = .pointer (some p)) (hy : a.eval y = v) (hrun : (storeVar ty p v).run P w = .ok () w') : (execOp a.eval o).run P w = .ok .skip w' := by
  unfold execOp
  simp only [ho, hx, hy, Instr.storeAt, Instr.sureAddr, Sem.run_bind, Sem.run_pure, Result.andThen_ok, hrun]
end calls
/-- Sector k is Cell{Durable: l}. -/
def RLay.setDur (L : RLay) (k b c : Nat) : RLay := ⟨L.gl, L.cap, setf L.db k b, setf L.dc k c, setf L.vv k (.slice none 0 0), L.hb, L.hc⟩
def Dk.setSec (S : Dk) (k : Nat) (x : Sec) : Dk := { S with sec := setf S.sec k x }
theorem IsRef.setDur {w w' : World} {r : Nat} {L : RLay} {F : Nat → Prop} {S : Dk} (h : IsRef w r L F S) {k b c : Nat} (hk : k < S.n) {l : List Nat} (hl : l.length = 256 ∧ BytesOk l) (hb : BlkF w b 1 fun _ => l) (hF : F b) (hc : capOk c) (u : Upd [L.gl] w w')
    (hg : ∃ cs cs', w.heap[L.gl]? = some (.cells cs 72 (0, 0)) ∧ w'.heap[L.gl]? = some (.cells cs' 72 (0, 0)) ∧ cs'.size = cs.size ∧ cs'[k * 2]? = some (.slice (some ⟨b, 0, none⟩) 256 c) ∧ cs'[k * 2 + 1]? = some (.slice none 0 0) ∧ ∀ j, j ≠ k * 2 → j ≠ k * 2 + 1 → cs'[j]? = cs[j]?) :
    IsRef w' r (L.setDur k b c) F (S.setSec k ⟨l, []⟩) := by
  obtain ⟨r1, r2, r3, r4⟩ := h.r_ne
  obtain ⟨g1, g2, g3⟩ := h.gl_ne
  have up : UpdP (· = L.gl) w w' := u.p fun x hx => by simpa using hx
  obtain ⟨cs, cs', hcs, hcs', hsz, c0, c1, c2⟩ := hg
  obtain ⟨cs0, hb0, hs0, hn0, hm0, hc0⟩ := h.lst
  rw [hcs] at hb0
  cases hb0
  have hbg : b ≠ L.gl := fun e => by
    obtain ⟨c2, hb2, _⟩ := hb
    rw [e, hcs] at hb2
    cases hb2
  have hbw := hb.upd2 up hbg
  refine ⟨⟨h.ok.n1, h.ok.n2, fun i hi => ?_, h.ok.fall, h.ok.left⟩, up.get h.hd r1, ⟨cs', hcs', by rw [hsz]; exact hs0, hn0, hm0, fun i hi => ?_⟩, fun i hi => ?_, fun i hi => ?_, fun i hi j hj => ?_, fun i j hi hj hij x hx => ?_, h.fr, h.fgl, fun i hi => ?_, fun i hi x hx => ?_, fun i hi j hj => ?_, fun x hx => Nat.lt_of_lt_of_le (h.old x hx) u.size⟩
  · by_cases e : i = k
    · subst e
      show (setf S.sec i _ i).ok
      rw [setf_same]
      exact ⟨hl, fun v hv => by cases hv⟩
    · show (setf S.sec k _ i).ok
      rw [setf_other _ _ e]; exact h.ok.sec i hi
  · unfold durV RLay.setDur
    dsimp only
    by_cases e : i = k
    · subst e
      rw [setf_same, setf_same, setf_same]
      exact ⟨c0, c1⟩
    · rw [setf_other _ _ e, setf_other _ _ e, setf_other _ _ e, c2 _ (by omega) (by omega), c2 _ (by omega) (by omega)]
      exact hc0 i hi
  · show BlkF w' (setf L.db k b i) 1 (fun _ => (setf S.sec k _ i).dur) ∧ capOk (setf L.dc k c i)
    by_cases e : i = k
    · subst e
      rw [setf_same, setf_same, setf_same]
      exact ⟨hbw, hc⟩
    · rw [setf_other _ _ e, setf_other _ _ e, setf_other _ _ e]
      exact ⟨(h.dur i hi).1.upd2 up (fun e => g1 i hi e.symm), (h.dur i hi).2⟩
  · show w'.ownsRow 0 62 1 (setf L.vv k _ i) (setf S.sec k _ i).ver.length (rheads (L.setDur k b c) i (setf S.sec k _ i).ver.length)
    by_cases e : i = k
    · subst e
      rw [setf_same, setf_same]
      exact ⟨rfl, .inl ⟨rfl, rfl⟩⟩
    · rw [setf_other _ _ e, setf_other _ _ e]
      exact ownsRow_upd2 (h.ver i hi) up (fun x hx e => g2 i hi x hx e.symm)
  · by_cases e : i = k
    · subst e
      have hj' : j < (setf S.sec i (⟨l, []⟩ : Sec) i).ver.length := hj
      rw [setf_same] at hj'
      exact absurd hj' (Nat.not_lt_zero _)
    · have e2 : (S.setSec k ⟨l, []⟩).sec i = S.sec i := setf_other _ _ e
      have hj' : j < (S.sec i).ver.length := by rw [e2] at hj; exact hj
      have := h.vby i hi j hj'
      refine ⟨?_, this.2⟩
      have h3 := this.1.upd2 up (fun e => g3 i hi j hj' e.symm)
      simp only [e2]
      exact h3
  · unfold RLay.setDur at hx ⊢
    dsimp only at hx ⊢
    by_cases e : i = k
    · subst e; rw [setf_same] at hx; simp [Value.ownBlock] at hx
    · rw [setf_other _ _ e] at hx
      by_cases e2 : j = k
      · subst e2; rw [setf_same]; simp [Value.ownBlock]
      · rw [setf_other _ _ e2]; exact h.apart i j hi hj hij x hx
  · show F (setf L.db k b i)
    by_cases e : i = k
    · subst e; rw [setf_same]; exact hF
    · rw [setf_other _ _ e]; exact h.fdb i hi
  · unfold RLay.setDur at hx
    dsimp only at hx
    by_cases e : i = k
    · subst e; rw [setf_same] at hx; simp [Value.ownBlock] at hx
    · rw [setf_other _ _ e] at hx; exact h.fvv i hi x hx
  · have e : i ≠ k := fun e => by
      subst e
      have hj' : j < (setf S.sec i (⟨l, []⟩ : Sec) i).ver.length := hj
      rw [setf_same] at hj'
      exact absurd hj' (Nat.not_lt_zero _)
    have e2 : (S.setSec k ⟨l, []⟩).sec i = S.sec i := setf_other _ _ e
    rw [e2] at hj
    exact h.fhb i hi j hj
theorem IsRef.storeDur {w w' : World} {r : Nat} {L : RLay} {F : Nat → Prop} {S : Dk} (h : IsRef w r L F S) {k b c : Nat} (hk : k < S.n) {l : List Nat} (hl : l.length = 256 ∧ BytesOk l) (hb : BlkF w b 1 fun _ => l) (hF : F b) (hc : capOk c) (u : Upd [L.gl] w w') {cs : Array Value}
    (hcs : w.heap[L.gl]? = some (.cells cs 72 (0, 0))) (hcs' : w'.heap[L.gl]? = some (.cells (splice cs (k * 2) [.slice (some ⟨b, 0, none⟩) 256 c, .slice none 0 0]) 72 (0, 0))) : IsRef w' r (L.setDur k b c) F (S.setSec k ⟨l, []⟩) := by
  obtain ⟨cs0, hb0, hs0, hn0, _⟩ := h.lst
  rw [hcs] at hb0
  cases hb0
  have hle : k * 2 + 2 ≤ cs.size := by omega
  refine h.setDur hk hl hb hF hc u ⟨cs, _, hcs, hcs', splice_size _ _ _ hle, ?_, ?_, fun j h1 h2 => ?_⟩
  · rw [splice_get _ _ _ hle, if_pos (by simp), Nat.sub_self]; rfl
  · rw [splice_get _ _ _ hle, if_pos (by simp), Nat.add_sub_cancel_left]; rfl
  · rw [splice_get _ _ _ hle, if_neg (by simp; omega)]
def RefX (w : World) (r : Nat) (F : Nat → Prop) (S : Dk) : Prop := ∃ L, IsRef w r L F S
theorem RefX.upd {w w' : World} {r : Nat} {F G : Nat → Prop} {S : Dk} (h : RefX w r F S) (u : UpdP G w w') (hs : ∀ x, F x → ¬ G x) : RefX w' r F S := by
  obtain ⟨L, h⟩ := h
  exact ⟨L, h.upd u hs⟩
theorem RefX.up {w w' : World} {r : Nat} {F : Nat → Prop} {S : Dk} {T : List Nat} (h : RefX w r F S) (u : Upd T w w') (hs : ∀ x ∈ T, ¬ F x) : RefX w' r F S := by
  obtain ⟨L, h⟩ := h
  exact ⟨L, h.up u hs⟩
/-- The first k sectors are flushed. -/
def Dk.flushK (S : Dk) (k : Nat) : Dk := { S with sec := fun i => if i < k then ⟨(S.sec i).last, []⟩ else S.sec i }
theorem Dk.flushK_zero (S : Dk) : S.flushK 0 = S := by
  obtain ⟨n, sec, fall, left⟩ := S
  simp [Dk.flushK]
theorem Dk.flushK_succ (S : Dk) (k : Nat) : S.flushK (k + 1) = (S.flushK k).setSec k ⟨(S.sec k).last, []⟩ := by
  unfold Dk.flushK Dk.setSec
  simp only [Dk.mk.injEq, true_and, and_true]
  funext i
  unfold setf
  by_cases e : i = k
  · subst e; rw [if_pos rfl, if_pos (by omega)]
  · rw [if_neg e]
    dsimp only
    by_cases e2 : i < k
    · rw [if_pos e2, if_pos (by omega)]
    · rw [if_neg e2, if_neg (by omega)]
theorem Dk.flushK_last (S : Dk) (k : Nat) : ((S.flushK k).sec k).last = (S.sec k).last := by
  show (if k < k then (⟨(S.sec k).last, []⟩ : Sec) else S.sec k).last = _
  rw [if_neg (by omega)]
/-- Only the sectors that are there count. -/
theorem IsRef.congr {w : World} {r : Nat} {L : RLay} {F : Nat → Prop} {S S' : Dk} (h : IsRef w r L F S) (hn : S'.n = S.n) (hf : S'.fall = S.fall) (hl : S'.left = S.left) (hs : ∀ i, i < S.n → S'.sec i = S.sec i) : IsRef w r L F S' := by
  obtain ⟨n', sec', fall', left'⟩ := S'
  obtain ⟨n, sec, fall, left⟩ := S
  simp only at hn hf hl hs
  subst hn; subst hf; subst hl
  refine ⟨⟨h.ok.n1, h.ok.n2, fun i hi => by dsimp only; rw [hs i hi]; exact h.ok.sec i hi, h.ok.fall, h.ok.left⟩, h.hd, h.lst, fun i hi => by dsimp only; rw [hs i hi]; exact h.dur i hi, fun i hi => by dsimp only; rw [hs i hi]; exact h.ver i hi, fun i hi j hj => ?_, h.apart, h.fr, h.fgl, h.fdb, h.fvv, fun i hi j hj => ?_, h.old⟩
  · have e := hs i hi
    have hj' : j < (sec i).ver.length := by rw [← e]; exact hj
    have := h.vby i hi j hj'
    simp only [e]
    exact this
  · have e := hs i hi
    exact h.fhb i hi j (by show j < (sec i).ver.length; rw [← e]; exact hj)
end Go.Proofs.YtpnpjffhkaejgaaGreatDoor
namespace Go.Proofs.YtpnpjffhkaejgaaGreatDoor
open Go.RowKit

/-- The layout with one version more of sector i, its m-th. -/
def RLay.addVer (L : RLay) (i m b c : Nat) (v : Value) : RLay := ⟨L.gl, L.cap, L.db, L.dc, setf L.vv i v, fun j q => if j = i ∧ q = m then b else L.hb j q, fun j q => if j = i ∧ q = m then c else L.hc j q⟩
theorem rheads_add {L : RLay} {i m b c : Nat} {v : Value} : rheads (L.addVer i m b c v) i (m + 1) = rheads L i m ++ [.slice (some ⟨b, 0, none⟩) 256 c] := by
  unfold rheads
  rw [List.range_succ, List.map_append]
  congr 1
  · refine List.map_congr_left fun j hj => ?_
    have := List.mem_range.1 hj
    unfold RLay.addVer
    dsimp only
    rw [if_neg (by omega), if_neg (by omega)]
  · unfold RLay.addVer
    simp
theorem rheads_other {L : RLay} {i j m b c n : Nat} {v : Value} (h : j ≠ i) : rheads (L.addVer i m b c v) j n = rheads L j n := by
  unfold rheads
  refine List.map_congr_left fun q _ => ?_
  unfold RLay.addVer
  dsimp only
  rw [if_neg (by omega), if_neg (by omega)]
/-- A version more: its header was appended, the slice stored. -/
theorem IsRef.putVer {w wa w4 w5 : World} {r : Nat} {L : RLay} {F : Nat → Prop} {S : Dk} (h : IsRef w r L F S) {i b c m : Nat} (hi : i < S.n) {l : List Nat} (hl : l.length = 256 ∧ BytesOk l) (hb : BlkF w b 1 fun _ => l) (hbw : b < w.heap.size) (hc : capOk c) (hm : (S.sec i).ver.length = m) (ua : Upd [] w wa) {v' : Value}
    (hrow : w4.ownsRow 0 62 1 v' (m + 1) (rheads L i m ++ [.slice (some ⟨b, 0, none⟩) 256 c])) (hmine : Mine (L.vv i) wa v' w4) (he : w5 = w4.setCell ⟨L.gl, i * 2 + 1, none⟩ v') :
    IsRef w5 r (L.addVer i m b c v') (fun x => F x ∨ x = b ∨ x ∈ v'.ownBlock.toList) (putV S false i l) ∧ UpdP F w w5 := by
  obtain ⟨r1, r2, r3, r4⟩ := h.r_ne
  obtain ⟨g1, g2, g3⟩ := h.gl_ne
  obtain ⟨cs0, hb0, hs0, hn0, hm0, hc0⟩ := h.lst
  have hglF : ∀ x ∈ v'.ownBlock.toList, x ∈ (L.vv i).ownBlock.toList ∨ w.heap.size ≤ x := fun x hx => by
    rcases hmine.blk x hx with e | e
    · exact .inl e
    · exact .inr (Nat.le_trans ua.size e)
  have hglw : L.gl < w.heap.size := h.old _ h.fgl
  have u4 : UpdP (fun x => x ∈ (L.vv i).ownBlock.toList) w w4 := ((ua.mono (T := (L.vv i).ownBlock.toList) (by simp)).trans hmine.upd).p fun _ hx => hx
  have u5 : UpdP (fun x => x = L.gl) w4 w5 := by rw [he]; exact ((Upd.refl [L.gl] w4).setCell (.inl (by simp)) _).p (by simp)
  have up : UpdP (fun x => x ∈ (L.vv i).ownBlock.toList ∨ x = L.gl) w w5 := (((UpdP.refl (fun x => x ∈ (L.vv i).ownBlock.toList ∨ x = L.gl) w).step u4 fun x hx => .inl (.inl hx))).step u5 fun x hx => .inl (.inr hx)
  have hg4 := u4.get hb0 (fun hx => g2 i hi _ hx rfl)
  have hg5 : w5.heap[L.gl]? = some (.cells (cs0.setIfInBounds (i * 2 + 1) v') 72 (0, 0)) := by rw [he]; exact heap_setCell_same w4 _ _ _ _ _ hg4
  have hsz5 := up.size
  have hnb : ∀ {g : Nat} {f : Nat → List Nat}, BlkF w g 1 f → ¬ (g ∈ (L.vv i).ownBlock.toList ∨ g = L.gl) := fun {g f} hg e => by
    obtain ⟨c2, hb2, _⟩ := hg
    rcases e with e | e
    · rcases (h.ver i hi).2 with ⟨e2, _⟩ | ⟨g', cap, cur, e2, _, hb3, _⟩
      · rw [e2] at e; simp [Value.ownBlock] at e
      · rw [e2] at e
        obtain rfl : g = g' := by simpa [Value.ownBlock] using e
        rw [hb2] at hb3; cases hb3
    · rw [e, hb0] at hb2; cases hb2
  have hrow5 : w5.ownsRow 0 62 1 v' (m + 1) (rheads L i m ++ [.slice (some ⟨b, 0, none⟩) 256 c]) := ownsRow_upd2 hrow u5 fun x hx e => by
    rcases hglF x hx with e2 | e2
    · exact g2 i hi x e2 e.symm
    · omega
  have hnv : ∀ j, j < S.n → j ≠ i → ∀ x ∈ (L.vv j).ownBlock.toList, ¬ (x ∈ (L.vv i).ownBlock.toList ∨ x = L.gl) := fun j hj e x hx e2 => by
    rcases e2 with e2 | e2
    · exact h.apart j i hj hi e x hx e2
    · exact g2 j hj x hx e2.symm
  refine ⟨⟨h.ok.putV false i hl, up.get h.hd ?_, ⟨_, hg5, by rw [Array.size_setIfInBounds]; exact hs0, hn0, hm0, fun j hj => ?_⟩, fun j hj => ?_, fun j hj => ?_, fun j hj q hq => ?_, fun j k hj hk hjk x hx => ?_, .inl h.fr, .inl h.fgl, fun j hj => ?_, fun j hj x hx => ?_, fun j hj q hq => ?_, fun x hx => ?_⟩, ?_⟩
  · rintro (e | e)
    · exact r3 i hi r e rfl
    · exact r1 e
  · have hj : j < S.n := hj
    rw [Array.getElem?_setIfInBounds, if_neg (by omega), Array.getElem?_setIfInBounds]
    refine ⟨(hc0 j hj).1, ?_⟩
    by_cases e : j = i
    · subst e
      rw [if_pos rfl, if_pos (by omega)]
      show some v' = some (setf L.vv j v' j)
      rw [setf_same]
    · rw [if_neg (by omega)]
      show _ = some (setf L.vv i v' j)
      rw [setf_other _ _ e]; exact (hc0 j hj).2
  · have hj : j < S.n := hj
    refine ⟨?_, (h.dur j hj).2⟩
    have hd := (h.dur j hj).1.upd2 up (hnb (h.dur j hj).1)
    by_cases e : j = i
    · subst e; rw [putV_false]; exact hd
    · rw [putV_sec e]; exact hd
  · have hj : j < S.n := hj
    show w5.ownsRow 0 62 1 (setf L.vv i v' j) _ _
    by_cases e : j = i
    · subst e
      rw [setf_same, putV_false, List.length_append, hm, List.length_singleton, rheads_add]
      exact hrow5
    · rw [setf_other _ _ e, putV_sec e, rheads_other e]
      exact ownsRow_upd2 (h.ver j hj) up (hnv j hj e)
  · have hj : j < S.n := hj
    unfold RLay.addVer
    dsimp only
    by_cases e : j = i
    · subst e
      have hq2 := hq
      rw [putV_false, List.length_append, hm, List.length_singleton] at hq2
      by_cases e2 : q = m
      · subst e2
        rw [if_pos ⟨rfl, rfl⟩, if_pos ⟨rfl, rfl⟩]
        refine ⟨?_, hc⟩
        have : ((putV S false j l).sec j).ver[q] = l := by simp [putV_false, ← hm]
        rw [this]
        exact hb.upd2 up (hnb hb)
      · rw [if_neg (fun h => e2 h.2), if_neg (fun h => e2 h.2)]
        have hv := h.vby j hj q (by omega)
        refine ⟨?_, hv.2⟩
        have : ((putV S false j l).sec j).ver[q] = (S.sec j).ver[q]'(by omega) := by simp only [putV_false]; rw [List.getElem_append_left (by omega)]
        rw [this]
        exact hv.1.upd2 up (hnb hv.1)
    · rw [if_neg (fun h => e h.1), if_neg (fun h => e h.1)]
      have e2 : (putV S false i l).sec j = S.sec j := putV_sec e
      have hq' : q < (S.sec j).ver.length := by rw [e2] at hq; exact hq
      have hv := h.vby j hj q hq'
      refine ⟨?_, hv.2⟩
      simp only [e2]
      exact hv.1.upd2 up (hnb hv.1)
  · have hj : j < S.n := hj
    have hk : k < S.n := hk
    have hx' : x ∈ (setf L.vv i v' j).ownBlock.toList := hx
    show x ∉ (setf L.vv i v' k).ownBlock.toList
    by_cases e : j = i
    · subst e
      rw [setf_same] at hx'
      rw [setf_other _ _ (Ne.symm hjk)]
      rcases hglF x hx' with e2 | e2
      · exact h.apart j k hj hk hjk x e2
      · intro hf
        have := h.old _ (h.fvv k hk x hf)
        omega
    · rw [setf_other _ _ e] at hx'
      by_cases e3 : k = i
      · subst e3
        rw [setf_same]
        intro hf
        rcases hglF x hf with e2 | e2
        · exact h.apart j k hj hk hjk x hx' e2
        · have := h.old _ (h.fvv j hj x hx')
          omega
      · rw [setf_other _ _ e3]; exact h.apart j k hj hk hjk x hx'
  · exact .inl (h.fdb j hj)
  · have hj : j < S.n := hj
    have hx' : x ∈ (setf L.vv i v' j).ownBlock.toList := hx
    by_cases e : j = i
    · subst e; rw [setf_same] at hx'; exact .inr (.inr hx')
    · rw [setf_other _ _ e] at hx'; exact .inl (h.fvv j hj x hx')
  · have hj : j < S.n := hj
    unfold RLay.addVer
    dsimp only
    by_cases e : j = i ∧ q = m
    · rw [if_pos e]; exact .inr (.inl rfl)
    · rw [if_neg e]
      by_cases e2 : j = i
      · subst e2
        rw [putV_false, List.length_append, hm, List.length_singleton] at hq
        exact .inl (h.fhb j hj q (by have : q ≠ m := fun e3 => e ⟨rfl, e3⟩; omega))
      · rw [putV_sec e2] at hq
        exact .inl (h.fhb j hj q hq)
  · rcases hx with e | e | e
    · exact Nat.lt_of_lt_of_le (h.old x e) hsz5
    · rw [e]; exact Nat.lt_of_lt_of_le hbw hsz5
    · rcases hrow5.2 with ⟨e2, _⟩ | ⟨g', cap, cur, e2, _, hb3, _⟩
      · rw [e2] at e; simp [Value.ownBlock] at e
      · rw [e2] at e
        obtain rfl : x = g' := by simpa [Value.ownBlock] using e
        exact lt_of_block hb3
  · exact (UpdP.refl F w).step up fun x hx => .inl (by
      rcases hx with e | e
      · exact h.fvv i hi x e
      · rw [e]; exact h.fgl)
theorem putV_two (S : Dk) (i : Nat) (l : List Nat) : (putV S false i l).setSec i ⟨l, []⟩ = putV S true i l := by
  unfold putV Dk.setSec
  simp only [Dk.mk.injEq, true_and, and_true]
  funext j
  unfold setf
  by_cases e : j = i
  · simp [e]
  · simp [e]
def RWrote (w' : World) (r : Nat) (F : Nat → Prop) (B : Nat) (S : Dk) : Prop := ∃ F', RefX w' r F' S ∧ ∀ x, F' x → F x ∨ B ≤ x
def putsK (S : Dk) (fua : Bool) (p : Nat) (data : List Nat) (k : Nat) : Dk := puts S fua p ((List.range k).map (piece data))
theorem putsK_zero (S : Dk) (fua : Bool) (p : Nat) (data : List Nat) : putsK S fua p data 0 = S := rfl
theorem putsK_succ (S : Dk) (fua : Bool) (p : Nat) (data : List Nat) (k : Nat) : putsK S fua p data (k + 1) = putV (putsK S fua p data k) fua (p + k) (piece data k) := by
  unfold putsK
  rw [List.range_succ, List.map_append, List.map_cons, List.map_nil, puts_snoc, List.length_map, List.length_range]
theorem putsK_n (S : Dk) (fua : Bool) (p : Nat) (data : List Nat) (k : Nat) : (putsK S fua p data k).n = S.n := (puts_n _ _ _ _).1
theorem putsK_sec (S : Dk) (fua : Bool) (p : Nat) (data : List Nat) (k : Nat) : (putsK S fua p data k).sec (p + k) = S.sec (p + k) := puts_sec_ge (by rw [List.length_map, List.length_range]; exact Nat.le_refl _)
set_option maxRecDepth 100000 in
set_option maxHeartbeats 3200000 in
theorem rwrite_no {w : World} {r : Nat} {F : Nat → Prop} {S : Dk} (h : RefX w r F S) (p : Int) {a : Option Addr} {data : List Nat} {cap : Nat} (fua : Bool) (hlen : data.length ≤ 9223372036854775807)
    (hno : data.length = 0 ∨ data.length % 256 ≠ 0 ∨ (data.length ≠ 0 ∧ data.length % 256 = 0 ∧ (S.there p ((data.length / 256 : Nat) : Int) = false ∨ (S.there p ((data.length / 256 : Nat) : Int) = true ∧ (S.hit 2 = true ∨ (S.hit 2 = false ∧ S.down = true)))))) :
    Calls Tryz.prog 23 #[.pointer (some ⟨r, 0, none⟩), .int .i64 p, .slice a data.length cap, .bool fua] w fun e w' => e = .returned (.int .i64 (S.write p data fua).1) ∧ RefX w' r F (S.write p data fua).2 ∧ UpdP F w w' := by
  obtain ⟨L, h⟩ := h
  have HD := Lib.hid h
  have e4 : ((data.length / 256 : Nat) : Int) = (data.length : Int) / 256 := by omega
  have hW0 : data.length = 0 ∨ data.length % 256 ≠ 0 → S.write p data fua = (1, S) := fun hb => by unfold Dk.write; rw [if_pos hb]
  have hW1 : ¬ (data.length = 0 ∨ data.length % 256 ≠ 0) → S.write p data fua = if S.there p ((data.length / 256 : Nat) : Int) then (if S.hit 2 || S.down then (11, S.tick 2) else (0, (puts (S.tick 2) fua p.toNat (pieces data)).did)) else (2, S) := fun hb => by unfold Dk.write; rw [if_neg hb]
  have HT := Lib.hid (rthere_any h.hd h.ok.n2 p ((data.length / 256 : Nat) : Int))
  have HF := Lib.hid (rfails_any h.hd h.ok.fall 2 (by decide))
  have hcl : S.left = some 0 → rLeft (S.tick 2) = 0 := fun hl => by unfold rLeft; rw [show (S.tick 2).left = S.left from rfl, hl]; rfl
  rw [e4] at hW1 hno HT
  generalize data.length = N at hlen hno HT hW0 hW1 e4
  have e3 : (0 : Int) ≤ N := by omega
  clear e4
  by_cases hsmall : N < 256
  · have hb : N = 0 ∨ N % 256 ≠ 0 := by omega
    rw [hW0 hb]
    have q0 : ((N : Int) / 256 == 0) = true := by simp; omega
    clear hno hW0 hW1 HT HF hcl hb h
    go_enter Tryz.func23, Tryz.ntmps23
    go_wp2
    go_ret
    exact ⟨rfl, ⟨L, HD.out⟩, UpdP.refl _ _⟩
  · have q0 : ((N : Int) / 256 == 0) = false := by simp; omega
    by_cases hm : N % 256 = 0
    · have q1 : ((N : Int) % 256 != 0) = false := by simp; omega
      have hW := hW1 (by omega)
      have hno2 : S.there p ((N : Int) / 256) = false ∨ (S.there p ((N : Int) / 256) = true ∧ (S.hit 2 = true ∨ (S.hit 2 = false ∧ S.down = true))) := by
        rcases hno with e | e | ⟨_, _, e⟩
        · omega
        · omega
        · exact e
      clear hno hW0 hW1 hm hsmall
      rcases hno2 with ht | ⟨ht, hno3⟩
      · rw [ht] at HT
        rw [ht, if_neg (by decide)] at hW
        rw [hW]
        clear ht hW HF h hcl
        go_enter Tryz.func23, Tryz.ntmps23
        go_wp2_with (go_at_call 44; refine HT.out.mono ?_; rintro e w' ⟨rfl, rfl⟩)
        go_ret
        exact ⟨rfl, ⟨L, HD.out⟩, UpdP.refl _ _⟩
      · rw [ht] at HT
        rw [ht, if_pos rfl] at hW
        have hW2 : (if (S.hit 2 || S.down) = true then ((11 : Int), S.tick 2) else (0, (puts (S.tick 2) fua p.toNat (pieces data)).did)) = (11, S.tick 2) := if_pos (by rcases hno3 with h | ⟨h, h'⟩ <;> simp [*])
        rw [hW2] at hW
        rw [hW]
        clear ht hW hW2
        rcases hno3 with hh | ⟨hh, hd⟩
        · rw [hh] at HF
          clear hh h hcl
          go_enter Tryz.func23, Tryz.ntmps23
          go_wp2_with (first
            | (go_at_call 44; refine HT.out.mono ?_; rintro e w' ⟨rfl, rfl⟩)
            | (go_at_call 45; refine HF.out.mono ?_; rintro e w1 ⟨rfl, h1, u1⟩; have H1 := Lib.hid h1; have U1 := Lib.hid u1; clear h1 u1))
          go_ret
          exact ⟨rfl, ⟨L, HD.out.ticked U1.out 2 H1.out⟩, U1.out.p (by simpa using HD.out.fr)⟩
        · rw [hh] at HF
          have hl0 : S.left = some 0 := by unfold Dk.down at hd; simpa using hd
          have HRL := Lib.hid (hcl hl0)
          clear hh hd hl0 h hcl
          go_enter Tryz.func23, Tryz.ntmps23
          go_wp2_with (go_at_call 44; refine HT.out.mono ?_; rintro e w' ⟨rfl, rfl⟩)
          refine HF.out.mono ?_
          rintro e w1 ⟨rfl, h1, u1⟩
          have H1 := Lib.hid h1
          have U1 := Lib.hid u1
          have c5 := (rcell h1).2.2.2.2.2
          rw [HRL.out] at c5
          clear h1 u1
          go_wp2
          go_ret
          exact ⟨rfl, ⟨L, HD.out.ticked U1.out 2 H1.out⟩, U1.out.p (by simpa using HD.out.fr)⟩
    · have q1 : ((N : Int) % 256 != 0) = true := by simp; omega
      rw [hW0 (by omega)]
      clear hno hW0 hW1 HT HF hcl h hm
      go_enter Tryz.func23, Tryz.ntmps23
      go_wp2
      go_ret
      exact ⟨rfl, ⟨L, HD.out⟩, UpdP.refl _ _⟩
end Go.Proofs.YtpnpjffhkaejgaaGreatDoor
