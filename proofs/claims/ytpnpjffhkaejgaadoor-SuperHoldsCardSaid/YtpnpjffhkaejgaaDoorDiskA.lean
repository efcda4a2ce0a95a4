/-
  PROVED HERE: a disk as a plain thing, and how a disk of the program lies in memory; its small functions. Conditions: those that each theorem names.
-/
import Derived.Test.YtpnpjffhkaejgaaDoorBytes
import Derived.Test.YtpnpjffhkaejgaaDoorIMap
namespace Go.Proofs.YtpnpjffhkaejgaaDoor
open Go.RowKit

/-- A sector: what is durable of it; the versions that were written since. -/
structure Sec where
  dur : List Nat
  ver : List (List Nat)
def Sec.last (s : Sec) : List Nat := s.ver.getLast?.getD s.dur
def Sec.ok (s : Sec) : Prop := (s.dur.length = 256 ∧ BytesOk s.dur) ∧ ∀ v ∈ s.ver, v.length = 256 ∧ BytesOk v
/-- A disk: so many sectors; of each kind of operation how many more are done until one fails; when it is cut, how many writes and flushes more it does. -/
structure Dk where
  n : Nat
  sec : Nat → Sec
  fall : Nat → Nat
  left : Option Nat
def setf {α : Type} (f : Nat → α) (i : Nat) (x : α) : Nat → α := fun j => if j = i then x else f j
theorem setf_same {α : Type} (f : Nat → α) (i : Nat) (x : α) : setf f i x i = x := if_pos rfl
theorem setf_other {α : Type} (f : Nat → α) {i j : Nat} (x : α) (h : j ≠ i) : setf f i x j = f j := if_neg h
/-- Pieces of 256 bytes one behind the other. -/
def blocks (f : Nat → List Nat) (c : Nat) : List Nat := (List.range c).flatMap f
theorem blocks_succ (f : Nat → List Nat) (c : Nat) : blocks f (c + 1) = blocks f c ++ f c := by unfold blocks; rw [List.range_succ, List.flatMap_append]; simp
theorem blocks_len {f : Nat → List Nat} {c : Nat} (h : ∀ i, i < c → (f i).length = 256) : (blocks f c).length = 256 * c := by
  induction c with
  | zero => rfl
  | succ c ih => rw [blocks_succ, List.length_append, ih fun i hi => h i (by omega), h c (by omega)]; omega
theorem blocks_ok {f : Nat → List Nat} {c : Nat} (h : ∀ i, i < c → BytesOk (f i)) : BytesOk (blocks f c) := by
  induction c with
  | zero => exact BytesOk.nil
  | succ c ih => rw [blocks_succ]; exact (ih fun i hi => h i (by omega)).append (h c (by omega))
theorem blocks_get {f : Nat → List Nat} {c : Nat} (h : ∀ i, i < c → (f i).length = 256) (q : Nat) (hq : q < 256 * c) : (blocks f c)[q]? = some ((f (q / 256)).getD (q % 256) 0) := by
  induction c with
  | zero => omega
  | succ c ih =>
    have hl := blocks_len (f := f) (c := c) fun i hi => h i (by omega)
    rw [blocks_succ, List.getElem?_append, hl]
    by_cases hc : q < 256 * c
    · rw [if_pos hc]; exact ih (fun i hi => h i (by omega)) hc
    · rw [if_neg hc, show q / 256 = c by omega, show q - 256 * c = q % 256 by omega, List.getD_eq_getElem?_getD, List.getElem?_eq_getElem (by rw [h c (by omega)]; omega)]
      rfl
theorem blocks_congr {f g : Nat → List Nat} {c : Nat} (h : ∀ i, i < c → f i = g i) : blocks f c = blocks g c := by
  induction c with
  | zero => rfl
  | succ c ih => rw [blocks_succ, blocks_succ, ih fun i hi => h i (by omega), h c (by omega)]
/-- Block g holds c pieces of 256 bytes, and more perhaps. -/
def BlkF (w : World) (g c : Nat) (f : Nat → List Nat) : Prop := ∃ cs, w.heap[g]? = some (.cells cs 5 (0, 0)) ∧ 256 * c ≤ cs.size ∧ ∀ i, i < c → ∀ j, j < 256 → cs[256 * i + j]? = some (.int .u8 ((f i).getD j 0 : Nat))
theorem BlkF.bytes {w : World} {g n : Nat} {f : Nat → List Nat} (h : BlkF w g n f) (p c : Nat) (hp : p + c ≤ n) (hl : ∀ i, i < n → (f i).length = 256 ∧ BytesOk (f i)) : IsBytes w (some ⟨g, 256 * p, none⟩) (blocks (fun j => f (p + j)) c) := by
  obtain ⟨cs, hb, hs, hc⟩ := h
  have h2 : ∀ i, i < c → (f (p + i)).length = 256 := fun i hi => (hl (p + i) (by omega)).1
  refine ⟨blocks_ok fun i hi => (hl (p + i) (by omega)).2, fun q hq => ⟨g, 256 * p, rfl, ?_⟩⟩
  rw [blocks_len h2] at hq
  have e := blocks_get h2 q hq
  rw [List.getElem?_eq_getElem (by rw [blocks_len h2]; exact hq)] at e
  rw [Option.some.inj e, (cells_of hb).1, show 256 * p + q = 256 * (p + q / 256) + q % 256 by omega]
  exact hc _ (by omega) _ (by omega)
theorem BlkF.of_row {w : World} {B g cap c : Nat} {f : Nat → List Nat} (h : IsRow w B (.slice (some ⟨g, 0, none⟩) (blocks f c).length cap) (blocks f c)) (hl : ∀ i, i < c → (f i).length = 256) : ∃ cs, w.heap[g]? = some (.cells cs 5 (0, 0)) ∧ cs.size = cap ∧ 256 * c ≤ cap ∧ cap ≤ maxLen ∧ B ≤ g ∧ ∀ i, i < c → ∀ j, j < 256 → cs[256 * i + j]? = some (.int .u8 ((f i).getD j 0 : Nat)) := by
  obtain ⟨⟨_, ⟨e, _⟩ | ⟨g', cap', cur, e, hg, hb, hc, hm, hs, ht⟩⟩, _⟩ := h
  · cases e
  · cases e
    rw [blocks_len hl] at hc ht
    refine ⟨cur, hb, by rw [hs, Nat.mul_one], hc, hm, hg, fun i hi j hj => ?_⟩
    have e : (cur.toList.take (256 * c * 1))[256 * i + j]? = (u8s (blocks f c))[256 * i + j]? := by rw [ht]
    rw [List.getElem?_take_of_lt (by omega), u8s_get, blocks_get hl _ (by omega), show (256 * i + j) / 256 = i by omega, show (256 * i + j) % 256 = j by omega] at e
    simpa using e
theorem row_of_blk {w : World} {B g cap c : Nat} {f : Nat → List Nat} (cs : Array Value) (hb : w.heap[g]? = some (.cells cs 5 (0, 0))) (hs : cs.size = cap) (hc : 256 * c ≤ cap) (hm : cap ≤ maxLen) (hg : B ≤ g) (h : ∀ i, i < c → ∀ j, j < 256 → cs[256 * i + j]? = some (.int .u8 ((f i).getD j 0 : Nat)))
    (hl : ∀ i, i < c → (f i).length = 256) (ho : ∀ i, i < c → BytesOk (f i)) : IsRow w B (.slice (some ⟨g, 0, none⟩) (256 * c) cap) (blocks f c) := by
  have hlen := blocks_len hl
  refine ⟨⟨by rw [hlen, u8s_len, hlen, Nat.mul_one], .inr ⟨g, cap, cs, by rw [hlen], hg, hb, by rw [hlen]; exact hc, hm, by rw [hs, Nat.mul_one], ?_⟩⟩, blocks_ok ho⟩
  apply List.ext_getElem?
  intro q
  rw [hlen, Nat.mul_one]
  by_cases hq : q < 256 * c
  · rw [List.getElem?_take_of_lt hq, u8s_get, blocks_get hl q hq]
    have := h (q / 256) (by omega) (q % 256) (by omega)
    rw [show 256 * (q / 256) + q % 256 = q by omega] at this
    simpa using this
  · rw [List.getElem?_eq_none (by simp; omega), List.getElem?_eq_none (by rw [u8s_len, hlen]; omega)]
/-- A piece is laid over another. -/
theorem splice_blk {cs : Array Value} {c : Nat} {f : Nat → List Nat} (hs : 256 * c ≤ cs.size) (h : ∀ i, i < c → ∀ j, j < 256 → cs[256 * i + j]? = some (.int .u8 ((f i).getD j 0 : Nat))) (i : Nat) (hi : i < c) (l : List Nat) (hl : l.length = 256) :
    (splice cs (256 * i) (u8s l)).size = cs.size ∧ ∀ q, q < c → ∀ j, j < 256 → (splice cs (256 * i) (u8s l))[256 * q + j]? = some (.int .u8 ((setf f i l q).getD j 0 : Nat)) := by
  have hle : 256 * i + (u8s l).length ≤ cs.size := by rw [u8s_len, hl]; omega
  refine ⟨splice_size _ _ _ hle, fun q hq j hj => ?_⟩
  rw [splice_get _ _ _ hle, u8s_len, hl]
  by_cases e : q = i
  · subst e
    rw [if_pos (by omega), setf_same, u8s_get, show 256 * q + j - 256 * q = j by omega, List.getD_eq_getElem?_getD, List.getElem?_eq_getElem (by omega)]
    rfl
  · rw [if_neg (by omega), setf_other _ _ e]
    exact h q hq j hj
def Dk.there (S : Dk) (p c : Int) : Bool := decide (0 ≤ p) && (decide (0 < c) && (decide (p < S.n) && decide (c ≤ S.n - p)))
def Dk.hit (S : Dk) (k : Nat) : Bool := decide (S.fall k = 1)
def Dk.tick (S : Dk) (k : Nat) : Dk := { S with fall := setf S.fall k (S.fall k - 1) }
def Dk.down (S : Dk) : Bool := decide (S.left = some 0)
def Dk.did (S : Dk) : Dk := { S with left := S.left.map (· - 1) }
structure Dk.Ok (S : Dk) : Prop where
  n1 : 1 ≤ S.n
  n2 : S.n ≤ 4096
  sec : ∀ i, i < S.n → (S.sec i).ok
  fall : ∀ k, S.fall k ≤ 1099511627776
  left : ∀ k, S.left = some k → k ≤ 1099511627776

/-- w' is w but for the blocks of F and for new blocks. -/
structure UpdP (F : Nat → Prop) (w w' : World) : Prop where
  os : w'.os = w.os
  tape : w'.tape = w.tape
  output : w'.output = w.output
  size : w.heap.size ≤ w'.heap.size
  block : ∀ k, k < w.heap.size → ¬ F k → w'.heap[k]? = w.heap[k]?
theorem Upd.p {S : List Nat} {w w' : World} {F : Nat → Prop} (h : Upd S w w') (hs : ∀ x ∈ S, F x) : UpdP F w w' :=
  ⟨h.os, h.tape, h.output, h.size, fun k hk hf => h.block k hk fun hm => hf (hs k hm)⟩
theorem UpdP.refl (F : Nat → Prop) (w : World) : UpdP F w w := ⟨rfl, rfl, rfl, Nat.le_refl _, fun _ _ _ => rfl⟩
theorem UpdP.step {F G : Nat → Prop} {a b c : World} (h : UpdP F a b) (k : UpdP G b c) (ht : ∀ x, G x → F x ∨ a.heap.size ≤ x) : UpdP F a c :=
  ⟨k.os.trans h.os, k.tape.trans h.tape, k.output.trans h.output, Nat.le_trans h.size k.size, fun i hi hs => by
    rw [k.block i (Nat.lt_of_lt_of_le hi h.size) (fun hm => by rcases ht i hm with h1 | h1; exact hs h1; omega)]; exact h.block i hi hs⟩
theorem UpdP.get {F : Nat → Prop} {w w' : World} (h : UpdP F w w') {k : Nat} {o : Obj} (hk : w.heap[k]? = some o) (hs : ¬ F k) : w'.heap[k]? = some o := by
  rw [h.block k (lt_of_block hk) hs]; exact hk
/-- None of what was turned lay there. -/
theorem UpdP.none {F : Nat → Prop} {w w' : World} {B : Nat} (h : UpdP F w w') (hF : ∀ x, F x → B ≤ x) (hB : B ≤ w.heap.size) : Below B w w' :=
  ⟨h.os, h.tape, h.output, h.size, fun k hk => h.block k (by omega) fun hm => by have := hF k hm; omega⟩

/-- Where the parts of a disk lie: what is durable; the map; of each sector the versions' slice, and the versions' bytes. -/
structure DLay where
  db : Nat
  mb : Nat
  g : Nat → Nat
  cap : Nat → Nat
  hs : Nat → Nat → Nat × Nat
def verV (L : DLay) (S : Dk) (i : Nat) : Value := .slice (some ⟨L.g i, 0, none⟩) (S.sec i).ver.length (L.cap i)
def mapOf (L : DLay) (S : Dk) (x : Int) : Option Value := if 0 ≤ x ∧ x < S.n ∧ (S.sec x.toNat).ver ≠ [] then some (verV L S x.toNat) else none
def dCells (L : DLay) (S : Dk) (c : Bool) (l : Nat) : Array Value := #[.slice (some ⟨L.db, 0, none⟩) (256 * S.n) (256 * S.n), .map (some L.mb), .int .i64 (S.fall 0 : Nat), .int .i64 (S.fall 1 : Nat), .int .i64 (S.fall 2 : Nat), .int .i64 (S.fall 3 : Nat), .bool c, .int .i64 (l : Nat)]
/-- The disk's own cells. -/
def DHead (w : World) (d : Nat) (L : DLay) (S : Dk) : Prop := ∃ c l, w.heap[d]? = some (.cells (dCells L S c l) 66 (0, 0)) ∧ l ≤ 1099511627776 ∧ (if c then some l else none) = S.left
/-- What is durable. -/
def DDur (w : World) (db n : Nat) (sec : Nat → Sec) : Prop := BlkF w db n fun i => (sec i).dur
/-- The versions of a sector. -/
def DVer (w : World) (L : DLay) (i : Nat) (vs : List (List Nat)) : Prop := ∃ cs, w.heap[L.g i]? = some (.cells cs 39 (0, 0)) ∧ cs.size = L.cap i ∧ vs.length ≤ L.cap i ∧ L.cap i ≤ maxLen ∧
  ∀ j (h : j < vs.length), cs[j]? = some (.slice (some ⟨(L.hs i j).1, (L.hs i j).2, none⟩) 256 256) ∧ (L.hs i j).1 ≠ L.db ∧ IsBytes w (some ⟨(L.hs i j).1, (L.hs i j).2, none⟩) vs[j]
structure IsDisk (w : World) (d : Nat) (L : DLay) (F : Nat → Prop) (S : Dk) : Prop where
  ok : S.Ok
  hd : DHead w d L S
  dur : DDur w L.db S.n S.sec
  map : IMap Tryd.prog 3 w L.mb (mapOf L S)
  ver : ∀ i, i < S.n → (S.sec i).ver ≠ [] → DVer w L i (S.sec i).ver
  apart : ∀ i j, i < S.n → j < S.n → (S.sec i).ver ≠ [] → (S.sec j).ver ≠ [] → i ≠ j → L.g i ≠ L.g j
  hsg : ∀ i j, i < S.n → j < S.n → (S.sec i).ver ≠ [] → ∀ q, q < (S.sec j).ver.length → (L.hs j q).1 ≠ L.g i
  fd : F d
  fdb : F L.db
  fmb : F L.mb
  fg : ∀ i, i < S.n → (S.sec i).ver ≠ [] → F (L.g i)
  fh : ∀ i, i < S.n → ∀ j, j < (S.sec i).ver.length → F (L.hs i j).1
  old : ∀ x, F x → x < w.heap.size

theorem DVer.upd {w w' : World} {L : DLay} {i : Nat} {vs : List (List Nat)} {G : Nat → Prop} (h : DVer w L i vs) (u : UpdP G w w') (h1 : ¬ G (L.g i)) (h2 : ∀ j, j < vs.length → ¬ G (L.hs i j).1) : DVer w' L i vs := by
  obtain ⟨cs, hb, hs, hl, hm, hc⟩ := h
  refine ⟨cs, u.get hb h1, hs, hl, hm, fun j hj => ?_⟩
  obtain ⟨e1, e2, e3⟩ := hc j hj
  refine ⟨e1, e2, e3.1, fun q hq => ?_⟩
  obtain ⟨b, o, hb', hcc⟩ := e3.2 q hq
  have hbb : b = (L.hs i j).1 := by simp at hb'; exact hb'.1.symm
  refine ⟨b, o, hb', ?_⟩
  rw [← hcc]
  exact World.cell?_of_block (u.block b (World.block_lt_of_cell? _ _ hcc) (by rw [hbb]; exact h2 j hj))
/-- A disk stays what it is while blocks of others are turned. -/
theorem IsDisk.upd {w w' : World} {d : Nat} {L : DLay} {F G : Nat → Prop} {S : Dk} (h : IsDisk w d L F S) (u : UpdP G w w') (hs : ∀ x, F x → ¬ G x) : IsDisk w' d L F S where
  ok := h.ok
  hd := by obtain ⟨c, l, hb, r⟩ := h.hd; exact ⟨c, l, u.get hb (hs _ h.fd), r⟩
  dur := by obtain ⟨cs, hb, r⟩ := h.dur; exact ⟨cs, u.get hb (hs _ h.fdb), r⟩
  map := by obtain ⟨D, ⟨es, clock, hb, r⟩, r2⟩ := h.map; exact ⟨D, ⟨es, clock, u.get hb (hs _ h.fmb), r⟩, r2⟩
  ver i hi hv := (h.ver i hi hv).upd u (hs _ (h.fg i hi hv)) fun j hj => hs _ (h.fh i hi j hj)
  apart := h.apart
  hsg := h.hsg
  fd := h.fd
  fdb := h.fdb
  fmb := h.fmb
  fg := h.fg
  fh := h.fh
  old x hx := Nat.lt_of_lt_of_le (h.old x hx) u.size
theorem IsDisk.up {w w' : World} {d : Nat} {L : DLay} {F : Nat → Prop} {S : Dk} {T : List Nat} (h : IsDisk w d L F S) (u : Upd T w w') (hs : ∀ x ∈ T, ¬ F x) : IsDisk w' d L F S :=
  h.upd (u.p (F := (· ∈ T)) fun _ hx => hx) fun x hf hm => hs x hm hf
/-- Its own cells have turned, and no others. -/
theorem IsDisk.head {w w' : World} {d : Nat} {L : DLay} {F : Nat → Prop} {S : Dk} (h : IsDisk w d L F S) (u : Upd [d] w w') {S' : Dk} (hn : S'.n = S.n) (hsec : S'.sec = S.sec) (hok : S'.Ok) (hh : DHead w' d L S') : IsDisk w' d L F S' := by
  obtain ⟨c0, l0, hb0, _⟩ := h.hd
  have up : UpdP (· = d) w w' := u.p fun x hx => by simpa using hx
  have e1 : ∀ {b : Nat} {cs : Array Value} {t : TypeId}, w.heap[b]? = some (.cells cs t (0, 0)) → t ≠ 66 → b ≠ d := fun hb ht e => by
    subst e; rw [hb0] at hb; simp at hb; exact ht hb.2.symm
  obtain ⟨n', sec', fall', left'⟩ := S'
  obtain ⟨n, sec, fall, left⟩ := S
  simp only at hn hsec
  subst hn; subst hsec
  refine ⟨hok, hh, ?_, ?_, fun i hi hv => ?_, h.apart, h.hsg, h.fd, h.fdb, h.fmb, h.fg, h.fh, fun x hx => Nat.lt_of_lt_of_le (h.old x hx) u.size⟩
  · obtain ⟨cs, hb, r⟩ := h.dur
    exact ⟨cs, u.get hb (by simpa using e1 hb (by decide)), r⟩
  · obtain ⟨D, ⟨es, clock, hb, r⟩, r2⟩ := h.map
    exact ⟨D, ⟨es, clock, u.get hb (by simp only [List.mem_singleton]; rintro rfl; rw [hb0] at hb; cases hb), r⟩, r2⟩
  · have hv0 := h.ver i hi hv
    obtain ⟨cs, hb, _, _, _, hc⟩ := h.ver i hi hv
    refine hv0.upd up (e1 hb (by decide)) fun j hj => ?_
    obtain ⟨_, _, hby⟩ := hc j hj
    have h256 := ((h.ok.sec i hi).2 _ (List.getElem_mem hj)).1
    obtain ⟨b, o, e, hcell⟩ := hby.2 0 (by rw [h256]; decide)
    intro hd
    simp only [Option.some.injEq, Addr.mk.injEq] at e
    rw [← e.1, hd] at hcell
    have : (∃ v : Value, w.cell? ⟨d, o + 0, none⟩ = some v) := ⟨_, hcell⟩
    rw [(cells_of hb0).1] at hcell
    unfold dCells at hcell
    rcases o with _ | _ | _ | _ | _ | _ | _ | _ | o <;> simp at hcell
end Go.Proofs.YtpnpjffhkaejgaaDoor
