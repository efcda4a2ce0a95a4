/-
  PROVED HERE: a disk as a plain thing, and how a disk of the program lies in memory; its small functions. Conditions: those that each theorem names.
  PROVED HERE: the small functions of a disk: how great it is, a sector's bytes, what is there, what is to fail, is it cut. Conditions: those that each theorem names.
  PROVED HERE: a new disk; what is read of a disk. Conditions: those that each theorem names.
  PROVED HERE: what is read of a disk. Conditions: those that each theorem names.
  PROVED HERE: a disk's flush. Conditions: those that each theorem names.
-/
import Derived.Test.YtpnpjffhkaejgaaGreatDoorBytes
import Derived.Test.YtpnpjffhkaejgaaGreatDoorIMap
import Derived.Laws.MakeOwn
import Derived.Carry
import Derived.StillTail
import Derived.StillTactics
namespace Go.Proofs.YtpnpjffhkaejgaaGreatDoor
open Go.RowKit

/-- A sector: what is durable of it; the versions that were written since. -/
structure Sec where
  dur : List Nat
  ver : List (List Nat)
def Sec.last (s : Sec) : List Nat := s.ver.getLast?.getD s.dur
def Sec.ok (s : Sec) : Prop := (s.dur.length = 256 ∧ BytesOk s.dur) ∧ ∀ v ∈ s.ver, v.length = 256 ∧ BytesOk v
/-- A disk: so many sectors; of each kind of operation how many more are done until one fails; when it is cut, how many writes and flushes more it does. -/
structure Dk where
  n : Nat
  sec : Nat → Sec
  fall : Nat → Nat
  left : Option Nat
def setf {α : Type} (f : Nat → α) (i : Nat) (x : α) : Nat → α := fun j => if j = i then x else f j
theorem setf_same {α : Type} (f : Nat → α) (i : Nat) (x : α) : setf f i x i = x := if_pos rfl
theorem setf_other {α : Type} (f : Nat → α) {i j : Nat} (x : α) (h : j ≠ i) : setf f i x j = f j := if_neg h
/-- Pieces of 256 bytes one behind the other. -/
def blocks (f : Nat → List Nat) (c : Nat) : List Nat := (List.range c).flatMap f
theorem blocks_succ (f : Nat → List Nat) (c : Nat) : blocks f (c + 1) = blocks f c ++ f c := by unfold blocks; rw [List.range_succ, List.flatMap_append]; simp
theorem blocks_len {f : Nat → List Nat} {c : Nat} (h : ∀ i, i < c → (f i).length = 256) : (blocks f c).length = 256 * c := by
  induction c with
  | zero => rfl
  | succ c ih => rw [blocks_succ, List.length_append, ih fun i hi => h i (by omega), h c (by omega)]; omega
theorem blocks_ok {f : Nat → List Nat} {c : Nat} (h : ∀ i, i < c → BytesOk (f i)) : BytesOk (blocks f c) := by
  induction c with
  | zero => exact BytesOk.nil
  | succ c ih => rw [blocks_succ]; exact (ih fun i hi => h i (by omega)).append (h c (by omega))
theorem blocks_get {f : Nat → List Nat} {c : Nat} (h : ∀ i, i < c → (f i).length = 256) (q : Nat) (hq : q < 256 * c) : (blocks f c)[q]? = some ((f (q / 256)).getD (q % 256) 0) := by
  induction c with
  | zero => omega
  | succ c ih =>
    have hl := blocks_len (f := f) (c := c) fun i hi => h i (by omega)
    rw [blocks_succ, List.getElem?_append, hl]
    by_cases hc : q < 256 * c
    · rw [if_pos hc]; exact ih (fun i hi => h i (by omega)) hc
    · rw [if_neg hc, show q / 256 = c by omega, show q - 256 * c = q % 256 by omega, List.getD_eq_getElem?_getD, List.getElem?_eq_getElem (by rw [h c (by omega)]; omega)]
      rfl
theorem blocks_congr {f g : Nat → List Nat} {c : Nat} (h : ∀ i, i < c → f i = g i) : blocks f c = blocks g c := by
  induction c with
  | zero => rfl
  | succ c ih => rw [blocks_succ, blocks_succ, ih fun i hi => h i (by omega), h c (by omega)]
/-- Block g holds c pieces of 256 bytes, and more perhaps. -/
def BlkF (w : World) (g c : Nat) (f : Nat → List Nat) : Prop := ∃ cs, w.heap[g]? = some (.cells cs 5 (0, 0)) ∧ 256 * c ≤ cs.size ∧ ∀ i, i < c → ∀ j, j < 256 → cs[256 * i + j]? = some (.int .u8 ((f i).getD j 0 : Nat))
theorem BlkF.bytes {w : World} {g n : Nat} {f : Nat → List Nat} (h : BlkF w g n f) (p c : Nat) (hp : p + c ≤ n) (hl : ∀ i, i < n → (f i).length = 256 ∧ BytesOk (f i)) : IsBytes w (some ⟨g, 256 * p, none⟩) (blocks (fun j => f (p + j)) c) := by
  obtain ⟨cs, hb, hs, hc⟩ := h
  have h2 : ∀ i, i < c → (f (p + i)).length = 256 := fun i hi => (hl (p + i) (by omega)).1
  refine ⟨blocks_ok fun i hi => (hl (p + i) (by omega)).2, fun q hq => ⟨g, 256 * p, rfl, ?_⟩⟩
  rw [blocks_len h2] at hq
  have e := blocks_get h2 q hq
  rw [List.getElem?_eq_getElem (by rw [blocks_len h2]; exact hq)] at e
  rw [Option.some.inj e, (cells_of hb).1, show 256 * p + q = 256 * (p + q / 256) + q % 256 by omega]
  exact hc _ (by omega) _ (by omega)
theorem BlkF.of_row {w : World} {B g cap c : Nat} {f : Nat → List Nat} (h : IsRow w B (.slice (some ⟨g, 0, none⟩) (blocks f c).length cap) (blocks f c)) (hl : ∀ i, i < c → (f i).length = 256) : ∃ cs, w.heap[g]? = some (.cells cs 5 (0, 0)) ∧ cs.size = cap ∧ 256 * c ≤ cap ∧ cap ≤ maxLen ∧ B ≤ g ∧ ∀ i, i < c → ∀ j, j < 256 → cs[256 * i + j]? = some (.int .u8 ((f i).getD j 0 : Nat)) := by
  obtain ⟨⟨_, ⟨e, _⟩ | ⟨g', cap', cur, e, hg, hb, hc, hm, hs, ht⟩⟩, _⟩ := h
  · cases e
  · cases e
    rw [blocks_len hl] at hc ht
    refine ⟨cur, hb, by rw [hs, Nat.mul_one], hc, hm, hg, fun i hi j hj => ?_⟩
    have e : (cur.toList.take (256 * c * 1))[256 * i + j]? = (u8s (blocks f c))[256 * i + j]? := by rw [ht]
    rw [List.getElem?_take_of_lt (by omega), u8s_get, blocks_get hl _ (by omega), show (256 * i + j) / 256 = i by omega, show (256 * i + j) % 256 = j by omega] at e
    simpa using e
theorem row_of_blk {w : World} {B g cap c : Nat} {f : Nat → List Nat} (cs : Array Value) (hb : w.heap[g]? = some (.cells cs 5 (0, 0))) (hs : cs.size = cap) (hc : 256 * c ≤ cap) (hm : cap ≤ maxLen) (hg : B ≤ g) (h : ∀ i, i < c → ∀ j, j < 256 → cs[256 * i + j]? = some (.int .u8 ((f i).getD j 0 : Nat)))
    (hl : ∀ i, i < c → (f i).length = 256) (ho : ∀ i, i < c → BytesOk (f i)) : IsRow w B (.slice (some ⟨g, 0, none⟩) (256 * c) cap) (blocks f c) := by
  have hlen := blocks_len hl
  refine ⟨⟨by rw [hlen, u8s_len, hlen, Nat.mul_one], .inr ⟨g, cap, cs, by rw [hlen], hg, hb, by rw [hlen]; exact hc, hm, by rw [hs, Nat.mul_one], ?_⟩⟩, blocks_ok ho⟩
  apply List.ext_getElem?
  intro q
  rw [hlen, Nat.mul_one]
  by_cases hq : q < 256 * c
  · rw [List.getElem?_take_of_lt hq, u8s_get, blocks_get hl q hq]
    have := h (q / 256) (by omega) (q % 256) (by omega)
    rw [show 256 * (q / 256) + q % 256 = q by omega] at this
    simpa using this
  · rw [List.getElem?_eq_none (by simp; omega), List.getElem?_eq_none (by rw [u8s_len, hlen]; omega)]
/-- A piece is laid over another. -/
theorem splice_blk {cs : Array Value} {c : Nat} {f : Nat → List Nat} (hs : 256 * c ≤ cs.size) (h : ∀ i, i < c → ∀ j, j < 256 → cs[256 * i + j]? = some (.int .u8 ((f i).getD j 0 : Nat))) (i : Nat) (hi : i < c) (l : List Nat) (hl : l.length = 256) :
    (splice cs (256 * i) (u8s l)).size = cs.size ∧ ∀ q, q < c → ∀ j, j < 256 → (splice cs (256 * i) (u8s l))[256 * q + j]? = some (.int .u8 ((setf f i l q).getD j 0 : Nat)) := by
  have hle : 256 * i + (u8s l).length ≤ cs.size := by rw [u8s_len, hl]; omega
  refine ⟨splice_size _ _ _ hle, fun q hq j hj => ?_⟩
  rw [splice_get _ _ _ hle, u8s_len, hl]
  by_cases e : q = i
  · subst e
    rw [if_pos (by omega), setf_same, u8s_get, show 256 * q + j - 256 * q = j by omega, List.getD_eq_getElem?_getD, List.getElem?_eq_getElem (by omega)]
    rfl
  · rw [if_neg (by omega), setf_other _ _ e]
    exact h q hq j hj
def Dk.there (S : Dk) (p c : Int) : Bool := decide (0 ≤ p) && (decide (0 < c) && (decide (p < S.n) && decide (c ≤ S.n - p)))
def Dk.hit (S : Dk) (k : Nat) : Bool := decide (S.fall k = 1)
def Dk.tick (S : Dk) (k : Nat) : Dk := { S with fall := setf S.fall k (S.fall k - 1) }
def Dk.down (S : Dk) : Bool := decide (S.left = some 0)
def Dk.did (S : Dk) : Dk := { S with left := S.left.map (· - 1) }
structure Dk.Ok (S : Dk) : Prop where
  n1 : 1 ≤ S.n
  n2 : S.n ≤ 4096
  sec : ∀ i, i < S.n → (S.sec i).ok
  fall : ∀ k, S.fall k ≤ 1099511627776
  left : ∀ k, S.left = some k → k ≤ 1099511627776

/-- w' is w but for the blocks of F and for new blocks. -/
structure UpdP (F : Nat → Prop) (w w' : World) : Prop where
  os : w'.os = w.os
  tape : w'.tape = w.tape
  output : w'.output = w.output
  size : w.heap.size ≤ w'.heap.size
  block : ∀ k, k < w.heap.size → ¬ F k → w'.heap[k]? = w.heap[k]?
theorem Upd.p {S : List Nat} {w w' : World} {F : Nat → Prop} (h : Upd S w w') (hs : ∀ x ∈ S, F x) : UpdP F w w' :=
  ⟨h.os, h.tape, h.output, h.size, fun k hk hf => h.block k hk fun hm => hf (hs k hm)⟩
theorem UpdP.refl (F : Nat → Prop) (w : World) : UpdP F w w := ⟨rfl, rfl, rfl, Nat.le_refl _, fun _ _ _ => rfl⟩
theorem UpdP.step {F G : Nat → Prop} {a b c : World} (h : UpdP F a b) (k : UpdP G b c) (ht : ∀ x, G x → F x ∨ a.heap.size ≤ x) : UpdP F a c :=
  ⟨k.os.trans h.os, k.tape.trans h.tape, k.output.trans h.output, Nat.le_trans h.size k.size, fun i hi hs => by
    rw [k.block i (Nat.lt_of_lt_of_le hi h.size) (fun hm => by rcases ht i hm with h1 | h1; exact hs h1; omega)]; exact h.block i hi hs⟩
theorem UpdP.get {F : Nat → Prop} {w w' : World} (h : UpdP F w w') {k : Nat} {o : Obj} (hk : w.heap[k]? = some o) (hs : ¬ F k) : w'.heap[k]? = some o := by
  rw [h.block k (lt_of_block hk) hs]; exact hk
/-- None of what was turned lay there. -/
theorem UpdP.none {F : Nat → Prop} {w w' : World} {B : Nat} (h : UpdP F w w') (hF : ∀ x, F x → B ≤ x) (hB : B ≤ w.heap.size) : Below B w w' :=
  ⟨h.os, h.tape, h.output, h.size, fun k hk => h.block k (by omega) fun hm => by have := hF k hm; omega⟩

/-- Where the parts of a disk lie: what is durable; the map; of each sector the versions' slice, and the versions' bytes. -/
structure DLay where
  db : Nat
  mb : Nat
  g : Nat → Nat
  cap : Nat → Nat
  hs : Nat → Nat → Nat × Nat
def verV (L : DLay) (S : Dk) (i : Nat) : Value := .slice (some ⟨L.g i, 0, none⟩) (S.sec i).ver.length (L.cap i)
def mapOf (L : DLay) (S : Dk) (x : Int) : Option Value := if 0 ≤ x ∧ x < S.n ∧ (S.sec x.toNat).ver ≠ [] then some (verV L S x.toNat) else none
def dCells (L : DLay) (S : Dk) (c : Bool) (l : Nat) : Array Value := #[.slice (some ⟨L.db, 0, none⟩) (256 * S.n) (256 * S.n), .map (some L.mb), .int .i64 (S.fall 0 : Nat), .int .i64 (S.fall 1 : Nat), .int .i64 (S.fall 2 : Nat), .int .i64 (S.fall 3 : Nat), .bool c, .int .i64 (l : Nat)]
/-- The disk's own cells. -/
def DHead (w : World) (d : Nat) (L : DLay) (S : Dk) : Prop := ∃ c l, w.heap[d]? = some (.cells (dCells L S c l) 66 (0, 0)) ∧ l ≤ 1099511627776 ∧ (if c then some l else none) = S.left
/-- What is durable. -/
def DDur (w : World) (db n : Nat) (sec : Nat → Sec) : Prop := BlkF w db n fun i => (sec i).dur
/-- The versions of a sector. -/
def DVer (w : World) (L : DLay) (i : Nat) (vs : List (List Nat)) : Prop := ∃ cs, w.heap[L.g i]? = some (.cells cs 62 (0, 0)) ∧ cs.size = L.cap i ∧ vs.length ≤ L.cap i ∧ L.cap i ≤ maxLen ∧
  ∀ j (h : j < vs.length), cs[j]? = some (.slice (some ⟨(L.hs i j).1, (L.hs i j).2, none⟩) 256 256) ∧ (L.hs i j).1 ≠ L.db ∧ IsBytes w (some ⟨(L.hs i j).1, (L.hs i j).2, none⟩) vs[j]
structure IsDisk (w : World) (d : Nat) (L : DLay) (F : Nat → Prop) (S : Dk) : Prop where
  ok : S.Ok
  hd : DHead w d L S
  dur : DDur w L.db S.n S.sec
  map : IMap Tryz.prog 3 w L.mb (mapOf L S)
  ver : ∀ i, i < S.n → (S.sec i).ver ≠ [] → DVer w L i (S.sec i).ver
  apart : ∀ i j, i < S.n → j < S.n → (S.sec i).ver ≠ [] → (S.sec j).ver ≠ [] → i ≠ j → L.g i ≠ L.g j
  hsg : ∀ i j, i < S.n → j < S.n → (S.sec i).ver ≠ [] → ∀ q, q < (S.sec j).ver.length → (L.hs j q).1 ≠ L.g i
  fd : F d
  fdb : F L.db
  fmb : F L.mb
  fg : ∀ i, i < S.n → (S.sec i).ver ≠ [] → F (L.g i)
  fh : ∀ i, i < S.n → ∀ j, j < (S.sec i).ver.length → F (L.hs i j).1
  old : ∀ x, F x → x < w.heap.size

theorem DVer.upd {w w' : World} {L : DLay} {i : Nat} {vs : List (List Nat)} {G : Nat → Prop} (h : DVer w L i vs) (u : UpdP G w w') (h1 : ¬ G (L.g i)) (h2 : ∀ j, j < vs.length → ¬ G (L.hs i j).1) : DVer w' L i vs := by
  obtain ⟨cs, hb, hs, hl, hm, hc⟩ := h
  refine ⟨cs, u.get hb h1, hs, hl, hm, fun j hj => ?_⟩
  obtain ⟨e1, e2, e3⟩ := hc j hj
  refine ⟨e1, e2, e3.1, fun q hq => ?_⟩
  obtain ⟨b, o, hb', hcc⟩ := e3.2 q hq
  have hbb : b = (L.hs i j).1 := by simp at hb'; exact hb'.1.symm
  refine ⟨b, o, hb', ?_⟩
  rw [← hcc]
  exact World.cell?_of_block (u.block b (World.block_lt_of_cell? _ _ hcc) (by rw [hbb]; exact h2 j hj))
/-- A disk stays what it is while blocks of others are turned. -/
theorem IsDisk.upd {w w' : World} {d : Nat} {L : DLay} {F G : Nat → Prop} {S : Dk} (h : IsDisk w d L F S) (u : UpdP G w w') (hs : ∀ x, F x → ¬ G x) : IsDisk w' d L F S where
  ok := h.ok
  hd := by obtain ⟨c, l, hb, r⟩ := h.hd; exact ⟨c, l, u.get hb (hs _ h.fd), r⟩
  dur := by obtain ⟨cs, hb, r⟩ := h.dur; exact ⟨cs, u.get hb (hs _ h.fdb), r⟩
  map := by obtain ⟨D, ⟨es, clock, hb, r⟩, r2⟩ := h.map; exact ⟨D, ⟨es, clock, u.get hb (hs _ h.fmb), r⟩, r2⟩
  ver i hi hv := (h.ver i hi hv).upd u (hs _ (h.fg i hi hv)) fun j hj => hs _ (h.fh i hi j hj)
  apart := h.apart
  hsg := h.hsg
  fd := h.fd
  fdb := h.fdb
  fmb := h.fmb
  fg := h.fg
  fh := h.fh
  old x hx := Nat.lt_of_lt_of_le (h.old x hx) u.size
theorem IsDisk.up {w w' : World} {d : Nat} {L : DLay} {F : Nat → Prop} {S : Dk} {T : List Nat} (h : IsDisk w d L F S) (u : Upd T w w') (hs : ∀ x ∈ T, ¬ F x) : IsDisk w' d L F S :=
  h.upd (u.p (F := (· ∈ T)) fun _ hx => hx) fun x hf hm => hs x hm hf
/-- Its own cells have turned, and no others. -/
theorem IsDisk.head {w w' : World} {d : Nat} {L : DLay} {F : Nat → Prop} {S : Dk} (h : IsDisk w d L F S) (u : Upd [d] w w') {S' : Dk} (hn : S'.n = S.n) (hsec : S'.sec = S.sec) (hok : S'.Ok) (hh : DHead w' d L S') : IsDisk w' d L F S' := by
  obtain ⟨c0, l0, hb0, _⟩ := h.hd
  have up : UpdP (· = d) w w' := u.p fun x hx => by simpa using hx
  have e1 : ∀ {b : Nat} {cs : Array Value} {t : TypeId}, w.heap[b]? = some (.cells cs t (0, 0)) → t ≠ 66 → b ≠ d := fun hb ht e => by
    subst e; rw [hb0] at hb; simp at hb; exact ht hb.2.symm
  obtain ⟨n', sec', fall', left'⟩ := S'
  obtain ⟨n, sec, fall, left⟩ := S
  simp only at hn hsec
  subst hn; subst hsec
  refine ⟨hok, hh, ?_, ?_, fun i hi hv => ?_, h.apart, h.hsg, h.fd, h.fdb, h.fmb, h.fg, h.fh, fun x hx => Nat.lt_of_lt_of_le (h.old x hx) u.size⟩
  · obtain ⟨cs, hb, r⟩ := h.dur
    exact ⟨cs, u.get hb (by simpa using e1 hb (by decide)), r⟩
  · obtain ⟨D, ⟨es, clock, hb, r⟩, r2⟩ := h.map
    exact ⟨D, ⟨es, clock, u.get hb (by simp only [List.mem_singleton]; rintro rfl; rw [hb0] at hb; cases hb), r⟩, r2⟩
  · have hv0 := h.ver i hi hv
    obtain ⟨cs, hb, _, _, _, hc⟩ := h.ver i hi hv
    refine hv0.upd up (e1 hb (by decide)) fun j hj => ?_
    obtain ⟨_, _, hby⟩ := hc j hj
    have h256 := ((h.ok.sec i hi).2 _ (List.getElem_mem hj)).1
    obtain ⟨b, o, e, hcell⟩ := hby.2 0 (by rw [h256]; decide)
    intro hd
    simp only [Option.some.injEq, Addr.mk.injEq] at e
    rw [← e.1, hd] at hcell
    have : (∃ v : Value, w.cell? ⟨d, o + 0, none⟩ = some v) := ⟨_, hcell⟩
    rw [(cells_of hb0).1] at hcell
    unfold dCells at hcell
    rcases o with _ | _ | _ | _ | _ | _ | _ | _ | o <;> simp at hcell
end Go.Proofs.YtpnpjffhkaejgaaGreatDoor
namespace Go.Proofs.YtpnpjffhkaejgaaGreatDoor
open Go.RowKit

theorem dcell {w : World} {d : Nat} {L : DLay} {S : Dk} {c : Bool} {l : Nat} (h : w.heap[d]? = some (.cells (dCells L S c l) 66 (0, 0))) :
    w.cell? ⟨d, 0, none⟩ = some (.slice (some ⟨L.db, 0, none⟩) (256 * S.n) (256 * S.n)) ∧ w.cell? ⟨d, 1, none⟩ = some (.map (some L.mb)) ∧ w.cell? ⟨d, 2, none⟩ = some (.int .i64 (S.fall 0 : Nat)) ∧ w.cell? ⟨d, 3, none⟩ = some (.int .i64 (S.fall 1 : Nat)) ∧
      w.cell? ⟨d, 4, none⟩ = some (.int .i64 (S.fall 2 : Nat)) ∧ w.cell? ⟨d, 5, none⟩ = some (.int .i64 (S.fall 3 : Nat)) ∧ w.cell? ⟨d, 6, none⟩ = some (.bool c) ∧ w.cell? ⟨d, 7, none⟩ = some (.int .i64 (l : Nat)) := by
  obtain ⟨k, _⟩ := cells_of h
  exact ⟨k 0, k 1, k 2, k 3, k 4, k 5, k 6, k 7⟩
theorem size_any {w : World} {d : Nat} {L : DLay} {S : Dk} (h : DHead w d L S) (hn : S.n ≤ 4096) : Calls Tryz.prog 18 #[.pointer (some ⟨d, 0, none⟩)] w fun e w' => e = .returned (.int .i64 (S.n : Nat)) ∧ w = w' := by
  obtain ⟨c, l, hb, _⟩ := h
  obtain ⟨h0, _⟩ := dcell hb
  clear hb
  go_enter Tryz.func18, Tryz.ntmps18
  go_wp2
  go_ret
  exact ⟨rfl, rfl⟩
set_option maxHeartbeats 800000 in
theorem own_any {w : World} {d : Nat} {L : DLay} {S : Dk} (h : DHead w d L S) (hn : S.n ≤ 4096) (i : Nat) (hi : i < S.n) : Calls Tryz.prog 29 #[.pointer (some ⟨d, 0, none⟩), .int .i64 (i : Nat)] w fun e w' => e = .returned (.slice (some ⟨L.db, 256 * i, none⟩) 256 (256 * S.n - 256 * i)) ∧ w = w' := by
  obtain ⟨c, l, hb, _⟩ := h
  obtain ⟨h0, _⟩ := dcell hb
  have b1 : (i : Int) < S.n := by omega
  have hr : ∀ w, (Instr.sliceAt 62 (.slice (some ⟨L.db, 0, none⟩) (256 * S.n) (256 * S.n)) (some (.int .i64 ((i : Int) * 256))) (some (.int .i64 (((i : Int) + 1) * 256))) none).run Tryz.prog w = .ok (.slice (some ⟨L.db, 256 * i, none⟩) 256 (256 * S.n - 256 * i)) w := fun w => by
    have := run_sl_mid (P := Tryz.prog) w Tryz.underlying62 sizeU8 L.db 0 (256 * S.n) (256 * S.n) .i64 .i64 ((i : Int) * 256) (((i : Int) + 1) * 256) (by omega) (by omega) (by omega) (by omega)
    rw [this, show ((i : Int) * 256).toNat = 256 * i by omega, show (((i : Int) + 1) * 256).toNat = 256 * i + 256 by omega, Nat.zero_add, Nat.add_sub_cancel_left]
  clear hb
  go_enter Tryz.func29, Tryz.ntmps29
  go_wp2
  go_ret
  exact ⟨rfl, rfl⟩
set_option maxHeartbeats 800000 in
theorem there_any {w : World} {d : Nat} {L : DLay} {S : Dk} (h : DHead w d L S) (hn : S.n ≤ 4096) (p c : Int) : Calls Tryz.prog 35 #[.pointer (some ⟨d, 0, none⟩), .int .i64 p, .int .i64 c] w fun e w' => e = .returned (.bool (S.there p c)) ∧ w = w' := by
  unfold Dk.there
  by_cases h1 : 0 ≤ p <;> by_cases h2 : 0 < c <;> by_cases h3 : p < S.n <;> by_cases h4 : c ≤ S.n - p <;>
  · go_enter Tryz.func35, Tryz.ntmps35
    go_wp2_with (go_at_call 18; refine (size_any h hn).mono ?_; rintro e w' ⟨rfl, rfl⟩)
    all_goals go_ret
    all_goals exact ⟨by simp_all, rfl⟩
theorem down_any {w : World} {d : Nat} {L : DLay} {S : Dk} (h : DHead w d L S) : Calls Tryz.prog 37 #[.pointer (some ⟨d, 0, none⟩)] w fun e w' => e = .returned (.bool S.down) ∧ w = w' := by
  obtain ⟨c, l, hb, hl, he⟩ := h
  obtain ⟨_, _, _, _, _, _, h6, h7⟩ := dcell hb
  unfold Dk.down
  have HE := Lib.hid he
  clear hb he
  cases c
  · go_enter Tryz.func37, Tryz.ntmps37
    go_wp2
    go_ret
    exact ⟨by have := HE.out; simp at this; simp [← this], rfl⟩
  · by_cases h0 : l = 0
    · subst h0
      go_enter Tryz.func37, Tryz.ntmps37
      go_wp2
      go_ret
      exact ⟨by have := HE.out; simp at this; simp [← this], rfl⟩
    · have k0 : ((l : Int) == 0) = false := by simpa using h0
      have k1 : decide ((l : Int) = 0) = false := by simpa using h0
      go_enter Tryz.func37, Tryz.ntmps37
      go_wp2
      go_ret
      exact ⟨by have := HE.out; simp at this; simp [← this, h0], rfl⟩
theorem dset {w : World} {d : Nat} {L : DLay} {S : Dk} {c : Bool} {l : Nat} (h : w.heap[d]? = some (.cells (dCells L S c l) 66 (0, 0))) (k x : Nat) (hk : k ≤ 3) :
    (w.setCell ⟨d, 2 + k, none⟩ (.int .i64 (x : Nat))).heap[d]? = some (.cells (dCells L { S with fall := setf S.fall k x } c l) 66 (0, 0)) := by
  rw [heap_setCell_same w d (2 + k) _ _ _ h]
  congr 1
  rcases k with _ | _ | _ | _ | k
  · rfl
  · rfl
  · rfl
  · rfl
  · omega
theorem hit_cases (S : Dk) (k : Nat) : (S.fall k = 0 ∧ S.hit k = false) ∨ (S.fall k = 1 ∧ S.hit k = true) ∨ (2 ≤ S.fall k ∧ S.hit k = false) := by
  unfold Dk.hit
  by_cases h0 : S.fall k = 0
  · exact .inl ⟨h0, by simp [h0]⟩
  · by_cases h1 : S.fall k = 1
    · exact .inr (.inl ⟨h1, by simp [h1]⟩)
    · exact .inr (.inr ⟨by omega, by simp [h1]⟩)
theorem tick_zero {S : Dk} {k : Nat} (h : S.fall k = 0) : S.tick k = S := by
  obtain ⟨n, sec, fall, left⟩ := S
  simp only [Dk.tick, Dk.mk.injEq, true_and, and_true]
  funext j
  unfold setf
  split
  · rename_i e; subst e; simp only at h; omega
  · rfl
set_option maxHeartbeats 1600000 in
theorem fails_any {w : World} {d : Nat} {L : DLay} {S : Dk} (h : DHead w d L S) (hf : ∀ k, S.fall k ≤ 1099511627776) (k : Nat) (hk : 1 ≤ k ∧ k ≤ 3) :
    Calls Tryz.prog 36 #[.pointer (some ⟨d, 0, none⟩), .int .i64 (k : Nat)] w fun e w' => e = .returned (.bool (S.hit k)) ∧ DHead w' d L (S.tick k) ∧ Upd [d] w w' := by
  obtain ⟨c, l, hb, hl, he⟩ := h
  have hfk := hf k
  have hcell : w.cell? ⟨d, 2 + k, none⟩ = some (.int .i64 (S.fall k : Nat)) ∧ w.frozen? ⟨d, 2 + k, none⟩ = false := by
    obtain ⟨q1, q2⟩ := cells_of hb
    refine ⟨?_, q2 _⟩
    rw [q1]
    obtain rfl | rfl | rfl : k = 1 ∨ k = 2 ∨ k = 3 := by omega
    · rfl
    · rfl
    · rfl
  obtain ⟨hc, hz⟩ := hcell
  have hset := dset hb k (S.fall k - 1) (by omega)
  have k1 : (k : Int) < 4 := by omega
  rcases hit_cases S k with ⟨h0, hh⟩ | ⟨h0, hh⟩ | ⟨h0, hh⟩
  · rw [h0] at hc
    have HB := Lib.hid hb
    have HT := Lib.hid (tick_zero h0)
    have HH := Lib.hid hh
    have HE := Lib.hid he
    clear hb h0 hh he hset
    go_enter Tryz.func36, Tryz.ntmps36
    go_wp2
    go_ret
    exact ⟨by rw [HH.out]; rfl, by rw [HT.out]; exact ⟨c, l, HB.out, hl, HE.out⟩, Upd.refl _ _⟩
  all_goals
    have HS := Lib.hid hset
    have HH := Lib.hid hh
    have HE := Lib.hid he
    have f1 : 1 ≤ S.fall k := by omega
    have kz : ((S.fall k : Int) == 0) = false := by simpa using (by omega : ¬ S.fall k = 0)
    have kz1 : decide ((S.fall k : Int) = 0) = false := by simpa using (by omega : ¬ S.fall k = 0)
    have kz2 : (((S.fall k : Int) - 1) == 0) = S.hit k := by unfold Dk.hit; rw [Bool.eq_iff_iff]; simp; omega
    have kz3 : decide ((S.fall k : Int) - 1 = 0) = S.hit k := by unfold Dk.hit; rw [Bool.eq_iff_iff]; simp; omega
    have HV := Lib.hid (show ((S.fall k : Int) - 1) = ((S.fall k - 1 : Nat) : Int) by omega)
    clear hb hh he hset h0
    go_enter Tryz.func36, Tryz.ntmps36
    go_upto_region 3 with fail
    go_region
    go_wp2
    go_ret
    rw [HV.out]
    exact ⟨rfl, ⟨c, l, HS.out, hl, HE.out⟩, ((Upd.refl [d] w).setCell (.inl (by simp)) _).drew⟩
theorem IsDisk.ticked {w w' : World} {d : Nat} {L : DLay} {F : Nat → Prop} {S : Dk} (h : IsDisk w d L F S) (u : Upd [d] w w') (k : Nat) (hh : DHead w' d L (S.tick k)) : IsDisk w' d L F (S.tick k) :=
  h.head u rfl rfl ⟨h.ok.n1, h.ok.n2, h.ok.sec, fun j => by
    have := h.ok.fall j
    have := h.ok.fall k
    unfold Dk.tick setf
    simp only
    split <;> omega, h.ok.left⟩ hh
def Dk.fail (S : Dk) (k n : Int) : Int × Dk := if k < 1 ∨ 3 < k ∨ n < 1 ∨ 1099511627776 < n then (1, S) else (0, { S with fall := setf S.fall k.toNat n.toNat })
def Dk.cut (S : Dk) (n : Int) : Int × Dk := if n < 0 ∨ 1099511627776 < n then (1, S) else (0, { S with left := some n.toNat })
set_option maxHeartbeats 1600000 in
theorem fail_any {w : World} {d : Nat} {L : DLay} {F : Nat → Prop} {S : Dk} (h : IsDisk w d L F S) (k n : Int) :
    Calls Tryz.prog 13 #[.pointer (some ⟨d, 0, none⟩), .int .i64 k, .int .i64 n] w fun e w' => e = .returned (.int .i64 (S.fail k n).1) ∧ IsDisk w' d L F (S.fail k n).2 ∧ Upd [d] w w' := by
  have HD := Lib.hid h
  by_cases hbad : k < 1 ∨ 3 < k ∨ n < 1 ∨ 1099511627776 < n
  · have HF := Lib.hid (show S.fail k n = (1, S) by unfold Dk.fail; rw [if_pos hbad])
    clear h
    have hb4 : k < 1 ∨ (1 ≤ k ∧ 3 < k) ∨ (1 ≤ k ∧ k ≤ 3 ∧ n < 1) ∨ (1 ≤ k ∧ k ≤ 3 ∧ 1 ≤ n ∧ 1099511627776 < n) := by omega
    clear hbad
    rcases hb4 with h1 | ⟨h1, h2⟩ | ⟨h1, h2, h3⟩ | ⟨h1, h2, h3, h4⟩
    all_goals
      go_enter Tryz.func13, Tryz.ntmps13
      go_wp2
      go_ret
      rw [HF.out]
      exact ⟨rfl, HD.out, Upd.refl _ _⟩
  · have HF := Lib.hid (show S.fail k n = (0, { S with fall := setf S.fall k.toNat n.toNat }) by unfold Dk.fail; rw [if_neg hbad])
    obtain ⟨c, l, hb, hl, he⟩ := h.hd
    obtain ⟨q, rfl⟩ := Int.eq_ofNat_of_zero_le (show 0 ≤ k by omega)
    obtain ⟨m, rfl⟩ := Int.eq_ofNat_of_zero_le (show 0 ≤ n by omega)
    have b1 : 1 ≤ q := by omega
    have b2 : q ≤ 3 := by omega
    have b3 : 1 ≤ m := by omega
    have b4 : m ≤ 1099511627776 := by omega
    have b5 : (q : Int) < 4 := by omega
    have HS := Lib.hid (dset hb q m b2)
    have HE := Lib.hid he
    have hcell : w.cell? ⟨d, 2 + q, none⟩ = some (.int .i64 (S.fall q : Nat)) ∧ w.frozen? ⟨d, 2 + q, none⟩ = false := by
      obtain ⟨q1, q2⟩ := cells_of hb
      refine ⟨?_, q2 _⟩
      rw [q1]
      obtain rfl | rfl | rfl : q = 1 ∨ q = 2 ∨ q = 3 := by omega
      · rfl
      · rfl
      · rfl
    obtain ⟨hc, hz⟩ := hcell
    clear hbad hb he h
    go_enter Tryz.func13, Tryz.ntmps13
    go_wp2
    go_ret
    rw [HF.out]
    have hu : Upd [d] w (w.setCell ⟨d, 2 + q, none⟩ (.int .i64 (m : Nat))) := (Upd.refl [d] w).setCell (.inl (by simp)) _
    refine ⟨rfl, HD.out.head hu rfl rfl ⟨HD.out.ok.n1, HD.out.ok.n2, HD.out.ok.sec, fun j => ?_, HD.out.ok.left⟩ ⟨c, l, HS.out, hl, HE.out⟩, hu⟩
    have := HD.out.ok.fall j
    simp only [Int.toNat_natCast]
    unfold setf
    split <;> omega
theorem dset67 {w : World} {d : Nat} {L : DLay} {S : Dk} {c : Bool} {l : Nat} (h : w.heap[d]? = some (.cells (dCells L S c l) 66 (0, 0))) (c' : Bool) : (w.setCell ⟨d, 6, none⟩ (.bool c')).heap[d]? = some (.cells (dCells L S c' l) 66 (0, 0)) := by
  rw [heap_setCell_same w d 6 _ _ _ h]; rfl
theorem dset7 {w : World} {d : Nat} {L : DLay} {S : Dk} {c : Bool} {l : Nat} (h : w.heap[d]? = some (.cells (dCells L S c l) 66 (0, 0))) (l' : Nat) : (w.setCell ⟨d, 7, none⟩ (.int .i64 (l' : Nat))).heap[d]? = some (.cells (dCells L S c l') 66 (0, 0)) := by
  rw [heap_setCell_same w d 7 _ _ _ h]; rfl
end Go.Proofs.YtpnpjffhkaejgaaGreatDoor
namespace Go.Proofs.YtpnpjffhkaejgaaGreatDoor
open Go.RowKit

def zeros256 : List Nat := List.replicate 256 0
def Dk.new (n : Nat) : Dk := ⟨n, fun _ => ⟨zeros256, []⟩, fun _ => 0, none⟩
theorem zeros256_len : zeros256.length = 256 := List.length_replicate
theorem new_no {w : World} (s : Int) (hs : s < 1 ∨ 4096 < s) : Calls Tryz.prog 5 #[.int .i64 s] w fun e w' => e = .returned (.tuple #[.pointer none, .int .i64 1]) ∧ w = w' := by
  have h2 : s < 1 ∨ (1 ≤ s ∧ 4096 < s) := by omega
  clear hs
  rcases h2 with h | ⟨h, h1⟩
  all_goals
    go_enter Tryz.func5, Tryz.ntmps5
    go_wp2
    go_ret2
    exact ⟨rfl, rfl⟩
theorem newCells_get (N j : Nat) (hj : j < N) : (madeCells #[Value.int .u8 0] N)[j]? = some (.int .u8 0) := by
  rw [← Array.getElem?_toList, toList_madeCells_one, List.getElem?_replicate, if_pos hj]
def NewDisk (B n : Nat) (e : Ending) (w' : World) : Prop := ∃ d L F, e = .returned (.tuple #[.pointer (some ⟨d, 0, none⟩), .int .i64 0]) ∧ IsDisk w' d L F (Dk.new n) ∧ ∀ x, F x → B ≤ x
def newCells (a b n : Nat) : Array Value := #[.slice (some ⟨a, 0, none⟩) (256 * n) (256 * n), .map (some b), .int .i64 0, .int .i64 0, .int .i64 0, .int .i64 0, .bool false, .int .i64 0]
theorem isNew (w : World) (n : Nat) (Z : Array Value) (hs : Z.size = 256 * n) (hg : ∀ j, j < 256 * n → Z[j]? = some (.int .u8 0)) (h1 : 1 ≤ n) (h2 : n ≤ 4096) :
    IsDisk (((w.alloc (.cells Z 5)).alloc (.map #[] 0)).alloc (.cells (newCells w.heap.size (w.heap.size + 1) n) 66)) (w.heap.size + 1 + 1) ⟨w.heap.size, w.heap.size + 1, fun _ => 0, fun _ => 0, fun _ _ => (0, 0)⟩
      (fun x => x = w.heap.size ∨ x = w.heap.size + 1 ∨ x = w.heap.size + 1 + 1) (Dk.new n) := by
  have k0 := heap_alloc_new w (.cells Z 5)
  have k1 := IMap.made (w.alloc (.cells Z 5)) Tryz.prog 3
  have k2 := heap_alloc_new ((w.alloc (.cells Z 5)).alloc (.map #[] 0)) (.cells (newCells w.heap.size (w.heap.size + 1) n) 66)
  simp only [World.size_alloc] at k1 k2
  have u2 := (Upd.refl [] ((w.alloc (.cells Z 5)).alloc (.map #[] 0))).alloc (.cells (newCells w.heap.size (w.heap.size + 1) n) 66)
  refine ⟨⟨h1, h2, fun i _ => ⟨⟨zeros256_len, BytesOk.zeros _⟩, fun v hv => by cases hv⟩, fun k => by show 0 ≤ _; omega, fun k hk => by cases hk⟩, ⟨false, 0, k2, by omega, rfl⟩,
    ⟨Z, u2.get (((Upd.refl [] _).alloc _).get k0 (by simp)) (by simp), by rw [hs]; exact Nat.le_refl _, fun i hi j hj => ?_⟩, (k1.upd u2 (by simp)).congr fun x => ?_, fun i _ hv => absurd rfl hv, fun i j _ _ hv => absurd rfl hv, fun i j _ _ hv => absurd rfl hv, .inr (.inr rfl), .inl rfl, .inr (.inl rfl), fun i _ hv => absurd rfl hv, fun i _ j hj => absurd hj (Nat.not_lt_zero _), fun x hx => ?_⟩
  · simp only [Dk.new] at hi
    rw [hg _ (by omega)]
    show _ = some (Value.int .u8 ((zeros256.getD j 0 : Nat) : Int))
    have : zeros256.getD j 0 = 0 := by unfold zeros256; rw [List.getD_eq_getElem?_getD, List.getElem?_replicate]; split <;> rfl
    rw [this]; rfl
  · unfold mapOf
    rw [if_neg (fun h => h.2.2 rfl)]
  · simp only [World.size_alloc]; omega
set_option maxRecDepth 100000 in
set_option maxHeartbeats 1600000 in
theorem new_yes {w : World} (n : Nat) (h1 : 1 ≤ n) (h2 : n ≤ 4096) : Calls Tryz.prog 5 #[.int .i64 (n : Nat)] w fun e w' => NewDisk w.heap.size n e w' ∧ Upd [] w w' := by
  obtain ⟨i0, hi, hz0, hz1, hz2⟩ := info_parts infoByte
  have hmk := run_make (P := Tryz.prog) w 62 5 i0 _ Tryz.underlying62 hi hz0 .i64 .i64 ((n : Int) * 256) ((n : Int) * 256) (by omega) (by omega) (by rw [hz2]; omega) (by omega)
  rw [show ((n : Int) * 256).toNat = 256 * n by omega, hz1, Nat.mul_one, show (Value.int IntKind.u8 0).cells = #[Value.int .u8 0] from rfl] at hmk
  have hmm := @run_makeMap Tryz.prog
  have hbd : ∀ v m w, (Instr.build 66 #[(0, v), (1, m)]).run Tryz.prog w = (Instr.build 66 #[(0, v), (1, m)]).run Tryz.prog w := fun _ _ _ => rfl
  clear hbd
  obtain ⟨Z, hZ⟩ : ∃ Z, madeCells #[Value.int .u8 0] (256 * n) = Z := ⟨_, rfl⟩
  have hzs : Z.size = 256 * n := by rw [← hZ]; exact size_madeCells _ _
  have hzg : ∀ j, j < 256 * n → Z[j]? = some (.int .u8 0) := fun j hj => by rw [← hZ]; exact newCells_get _ j hj
  rw [hZ] at hmk
  have HZ := Lib.hid hzs
  have HG := Lib.hid hzg
  clear hZ hzs hzg hi hz0 hz1 hz2
  go_enter Tryz.func5, Tryz.ntmps5
  go_wp2
  go_ret2
  exact ⟨⟨_, _, _, rfl, isNew w n Z HZ.out HG.out h1 h2, fun x hx => by omega⟩, (((Upd.refl [] w).alloc _).alloc _).alloc _⟩
end Go.Proofs.YtpnpjffhkaejgaaGreatDoor
namespace Go.Proofs.YtpnpjffhkaejgaaGreatDoor
open Go.RowKit

/-- copy of bytes into a block of bytes, as a step of a region that draws its order. -/
theorem run_copyb {w : World} {g o dLen dCap b q c : Nat} {l : List Nat} {cur : Array Value} (hb : IsBytes w (some ⟨b, q, none⟩) l) (hg : w.heap[g]? = some (.cells cur 5 (0, 0))) (hle : l.length ≤ dLen) (hfit : o + l.length ≤ cur.size) (ty : TypeId) :
    ∃ w2, (Builtin.copy_ #[62, 62] ty #[.slice (some ⟨g, o, none⟩) dLen dCap, .slice (some ⟨b, q, none⟩) l.length c]).run Tryz.prog w = .ok (.int .i64 (l.length : Nat)) w2 ∧ w2.heap[g]? = some (.cells (splice cur o (u8s l)) 5 (0, 0)) ∧ Upd [g] w w2 ∧ w2.heap.size = w.heap.size := by
  have h := copy_cells (P := Tryz.prog) w 62 62 ty 5 g o dLen dCap (.slice (some ⟨b, q, none⟩) l.length c) cur 5 (u8s l) Tryz.underlying62 sizeU8 hg (.inr ⟨⟨b, q, none⟩, c, by rw [u8s_len], hb.news⟩) (by rw [u8s_len]; exact hle) (by rw [u8s_len]; exact hfit) (u8s_one l)
  rw [u8s_len] at h
  exact h
theorem step_copyb {w : World} {ops : Array Oper} {o : Oper} {a : Act} {K : Act → World → Prop} {Q : Exit → Act → World → Prop} {E : Prop} (hgd : o.guard = none) (s x : Operand)
    (ho : o.op = .call { callee := .builtin .copy, args := #[s, x], argTypes := #[62, 62] }) {g of dLen dCap b q c n : Nat} {l : List Nat} {cur : Array Value} (hs : a.eval s = .slice (some ⟨g, of, none⟩) dLen dCap) (hx : a.eval x = .slice (some ⟨b, q, none⟩) n c) (hn : n = l.length)
    (hb : IsBytes w (some ⟨b, q, none⟩) l) (hg : w.heap[g]? = some (.cells cur 5 (0, 0))) (hle : l.length ≤ dLen) (hfit : of + l.length ≤ cur.size)
    (h : ∀ w2, w2.heap[g]? = some (.cells (splice cur of (u8s l)) 5 (0, 0)) → Upd [g] w w2 → w2.heap.size = w.heap.size → K (a.put o.dst (.int .i64 (n : Nat))) w2) :
    if Region.wanted o (yielded ops a.tmps) = true then Oper.wp Tryz.prog o a w K Q else E := by
  have hw : Region.wanted o (yielded ops a.tmps) = true := by simp [Region.wanted, hgd]
  rw [if_pos hw]
  subst hn
  obtain ⟨w2, hrun, h1, h2, h3⟩ := run_copyb (dCap := dCap) (c := c) hb hg hle hfit o.type
  unfold Oper.wp
  simp [execOp, ho, resolve, invoke, builtin, hs, hx, hrun, Result.andThen]
  exact h _ h1 h2 h3
def Dk.bytes (S : Dk) (p c : Nat) : List Nat := blocks (fun j => (S.sec (p + j)).last) c
def Dk.read (S : Dk) (p c : Int) : (List Nat × Int) × Dk := if S.there p c then (if S.hit 1 then (([], 10), S.tick 1) else ((S.bytes p.toNat c.toNat, 0), S.tick 1)) else (([], 2), S)
def ReadOut (B : Nat) (o : List Nat × Int) (e : Ending) (w' : World) : Prop := ∃ v, e = .returned (.tuple #[v, .int .i64 o.2]) ∧ IsRow w' B v o.1
theorem there_true {S : Dk} {p c : Int} (h : S.there p c = true) : 0 ≤ p ∧ 0 < c ∧ p < S.n ∧ c ≤ S.n - p := by
  unfold Dk.there at h
  simpa using h
theorem Sec.last_ok {s : Sec} (h : s.ok) : s.last.length = 256 ∧ BytesOk s.last := by
  unfold Sec.last
  cases hl : s.ver.getLast? with
  | none => exact h.1
  | some v => exact h.2 v (List.mem_of_getLast? hl)
theorem Sec.last_nil {s : Sec} (h : s.ver = []) : s.last = s.dur := by unfold Sec.last; rw [h]; rfl
theorem Sec.last_get {s : Sec} (h : s.ver ≠ []) : ∃ hl : s.ver.length - 1 < s.ver.length, s.last = s.ver[s.ver.length - 1] := by
  have h0 : 0 < s.ver.length := List.length_pos_iff.2 h
  refine ⟨by omega, ?_⟩
  unfold Sec.last
  rw [List.getLast?_eq_getElem?, List.getElem?_eq_getElem (by omega)]; rfl
theorem mapOf_in {L : DLay} {S : Dk} {i : Nat} (hi : i < S.n) : mapOf L S (i : Int) = if (S.sec i).ver = [] then none else some (verV L S i) := by
  unfold mapOf
  rw [Int.toNat_natCast]
  by_cases h : (S.sec i).ver = []
  · rw [if_pos h, if_neg (fun e => e.2.2 h)]
  · rw [if_neg h, if_pos ⟨by omega, by omega, h⟩]
theorem zeroVers (w : World) : (zeroValue 70).run Tryz.prog w = .ok (.slice none 0 0) w := by kernel_rfl
theorem IsRow.some {w : World} {B : Nat} {v : Value} {l : List Nat} (h : IsRow w B v l) (h0 : 0 < l.length) : ∃ g cap, v = .slice (some ⟨g, 0, none⟩) l.length cap ∧ B ≤ g ∧ cap ≤ maxLen ∧ l.length ≤ cap := by
  obtain ⟨⟨_, ⟨rfl, h1⟩ | ⟨g, cap, cur, rfl, hg, hb, hc, hm, hs, ht⟩⟩, _⟩ := h
  · omega
  · exact ⟨g, cap, rfl, hg, hm, hc⟩
set_option maxRecDepth 100000 in
set_option maxHeartbeats 3200000 in
theorem read_any {w : World} {d : Nat} {L : DLay} {F : Nat → Prop} {S : Dk} (h : IsDisk w d L F S) (p c : Int) :
    Calls Tryz.prog 24 #[.pointer (some ⟨d, 0, none⟩), .int .i64 p, .int .i64 c] w fun e w' => ReadOut w.heap.size (S.read p c).1 e w' ∧ IsDisk w' d L F (S.read p c).2 ∧ Upd [d] w w' := by
  have HD := Lib.hid h
  have ht := there_any h.hd h.ok.n2 p c
  cases hth : S.there p c
  · have HR := Lib.hid (show S.read p c = (([], 2), S) by unfold Dk.read; rw [hth]; rfl)
    rw [hth] at ht
    have HT := Lib.hid ht
    clear h ht hth
    go_enter Tryz.func24, Tryz.ntmps24
    go_wp2_with (go_at_call 35; refine HT.out.mono ?_; rintro e w' ⟨rfl, rfl⟩)
    go_ret2
    rw [HR.out]
    exact ⟨⟨_, rfl, IsRow.nil _ _⟩, HD.out, Upd.refl _ _⟩
  · rw [hth] at ht
    have HT := Lib.hid ht
    have hf := fails_any h.hd h.ok.fall 1 (by decide)
    cases hh : S.hit 1
    rotate_left
    · have HR := Lib.hid (show S.read p c = (([], 10), S.tick 1) by unfold Dk.read; rw [hth, hh]; rfl)
      rw [hh] at hf
      have HF := Lib.hid hf
      clear h ht hth hf hh
      go_enter Tryz.func24, Tryz.ntmps24
      go_wp2_with (first
        | (go_at_call 35; refine HT.out.mono ?_; rintro e w' ⟨rfl, rfl⟩)
        | (go_at_call 36; refine HF.out.mono ?_; rintro e w1 ⟨rfl, h1, u1⟩; have H1 := Lib.hid h1; have U1 := Lib.hid u1; clear h1 u1))
      go_ret2
      rw [HR.out]
      exact ⟨⟨_, rfl, IsRow.nil _ _⟩, HD.out.ticked U1.out 1 H1.out, U1.out⟩
    · obtain ⟨t1, t2, t3, t4⟩ := there_true hth
      obtain ⟨P, rfl⟩ := Int.eq_ofNat_of_zero_le t1
      obtain ⟨C, rfl⟩ := Int.eq_ofNat_of_zero_le (show 0 ≤ c by omega)
      have HR := Lib.hid (show S.read P C = ((S.bytes P C, 0), S.tick 1) by unfold Dk.read; rw [hth, hh]; rfl)
      rw [hh] at hf
      have HF := Lib.hid hf
      have n2 := h.ok.n2
      have b1 : P + C ≤ S.n := by omega
      have b2 : 0 < C := by omega
      clear h ht hth hf hh t1 t2 t3 t4
      go_enter Tryz.func24, Tryz.ntmps24
      go_wp2_with (go_at_call 35; refine HT.out.mono ?_; rintro e w' ⟨rfl, rfl⟩)
      refine HF.out.mono ?_
      rintro e w1 ⟨rfl, h1, u1⟩
      have D1 := Lib.hid (HD.out.ticked u1 1 h1)
      have U1 := Lib.hid u1
      obtain ⟨c0, l0, hb0, _⟩ := h1
      obtain ⟨q0, q1, _⟩ := dcell hb0
      simp only [show (S.tick 1).n = S.n from rfl] at q0
      have hsl : (Instr.sliceAt 62 (.slice (some ⟨L.db, 0, none⟩) (256 * S.n) (256 * S.n)) (some (.int .i64 ((P : Int) * 256))) (some (.int .i64 (((P : Int) + (C : Int)) * 256))) none).run Tryz.prog w1 = .ok (.slice (some ⟨L.db, 256 * P, none⟩) (256 * C) (256 * S.n - 256 * P)) w1 := by
        have := run_sl_mid (P := Tryz.prog) w1 Tryz.underlying62 sizeU8 L.db 0 (256 * S.n) (256 * S.n) .i64 .i64 ((P : Int) * 256) (((P : Int) + C) * 256) (by omega) (by omega) (by omega) (by omega)
        rw [this, show ((P : Int) * 256).toNat = 256 * P by omega, show (((P : Int) + C) * 256).toNat = 256 * P + 256 * C by omega, Nat.zero_add, Nat.add_sub_cancel_left]
      have hok : ∀ i, i < S.n → (S.sec i).ok := D1.out.ok.sec
      have hby := D1.out.dur.bytes P C b1 (fun i hi => (hok i hi).1)
      have hbl : (blocks (fun j => ((S.tick 1).sec (P + j)).dur) C).length = 256 * C := blocks_len fun i hi => (hok (P + i) (by omega)).1.1
      have hcl := clone_row (cap := 256 * S.n - 256 * P) hby (by rw [hbl]; omega) (by rw [hbl]; omega)
      rw [hbl] at hcl
      have HCL := Lib.hid hcl
      have HBL := Lib.hid hbl
      have HOK := Lib.hid hok
      clear u1 hby hcl hbl hok hb0
      go_wp2_with fail
      refine HCL.out.mono ?_
      rintro e w2 ⟨⟨v2, rfl, r2⟩, u2⟩
      have hbl := HBL.out
      obtain ⟨g, cap, rfl, hg, hcm, hcl⟩ := r2.some (by rw [hbl]; omega)
      obtain ⟨cs2, hb2, hs2, _, _, _, hp2⟩ := BlkF.of_row r2 (fun i hi => (HOK.out (P + i) (by omega)).1.1)
      rw [hbl] at hcl ⊢
      have D2 := Lib.hid (D1.out.up u2 (by simp))
      have U2 := Lib.hid (U1.out.step u2 (fun _ h => by cases h))
      have HB2 := Lib.hid hb2
      have HS2 := Lib.hid hs2
      have HP2 := Lib.hid hp2
      have HG := Lib.hid hg
      have HW := Lib.hid U1.out.size
      have HGF : Hid (¬ F g) := fun hf => by have := D1.out.old g hf; omega
      have hcm2 : cap ≤ 9223372036854775807 := by unfold maxLen at hcm; omega
      clear r2 hb2 hs2 hp2 hg u2 hbl hcm
      go_wp2_with fail
      go_loopw [31] (fun i wr => ∃ k : Nat, k ≤ C ∧ i = .int .i64 k ∧ (∃ cur, wr.heap[g]? = some (.cells cur 5 (0, 0)) ∧ cur.size = cap ∧ ∀ q, q < C → ∀ j, j < 256 → cur[256 * q + j]? = some (.int .u8 ((if q < k then (S.sec (P + q)).last else (S.sec (P + q)).dur).getD j 0 : Nat))) ∧ Upd [g] w2 wr) (fun i _ => C - (RowKit.intOf i).toNat)
      case atStart => exact ⟨0, by omega, rfl, ⟨cs2, HB2.out, HS2.out, fun q hq j hj => by rw [if_neg (by omega)]; exact HP2.out q hq j hj⟩, Upd.refl _ _⟩
      case round =>
        obtain ⟨k, hk, rfl, ⟨cur, hb, hs, hp⟩, hU⟩ := hrel
        have HBr := Lib.hid hb
        have HSr := Lib.hid hs
        have HPr := Lib.hid hp
        have HUr := Lib.hid hU
        have DR := Lib.hid (D2.out.up hU (by simpa using HGF.out))
        clear hb hs hp hU
        by_cases hlt : k < C
        · obtain ⟨c0, l0, hb0, _⟩ := DR.out.hd
          obtain ⟨q0, q1, _⟩ := dcell hb0
          have hlk := DR.out.map.look (t := 63) false Tryz.underlying3 Tryz.underlying63 (zeroVers wr) (x := ((P + k : Nat) : Int)) (WalkArith.wf_i64 (by omega))
          rw [mapOf_in (show P + k < (S.tick 1).n by show P + k < S.n; omega), show ((P + k : Nat) : Int) = (P : Int) + (k : Int) by omega] at hlk
          simp only [Bool.false_eq_true, if_false, show (S.tick 1).sec = S.sec from rfl] at hlk
          by_cases hv : (S.sec (P + k)).ver = []
          · rw [if_pos hv] at hlk
            have HL := Lib.hid (Sec.last_nil hv)
            have hlk2 : (Instr.lookup 63 (.map (some L.mb)) (.int .i64 ((P : Int) + (k : Int))) false).run Tryz.prog wr = .ok (.slice none 0 0) wr := hlk
            clear hlk hv hb0
            go_wp2
            go_roundw
            case rel => exact ⟨k + 1, by omega, by go_num, ⟨cur, HBr.out, HSr.out, fun q hq j hj => by
              rw [HPr.out q hq j hj]
              by_cases e : q = k
              · subst e; rw [if_neg (by omega), if_pos (by omega), HL.out]
              · by_cases e2 : q < k
                · rw [if_pos e2, if_pos (by omega)]
                · rw [if_neg e2, if_neg (by omega)]⟩, HUr.out⟩
            case measure => simp [RowKit.intOf]; omega
          · rw [if_neg hv] at hlk
            obtain ⟨cs, hgb, hgs, hgl, hgm, hgc⟩ := DR.out.ver (P + k) (by show P + k < S.n; omega) hv
            obtain ⟨hm1, hlast⟩ := Sec.last_get hv
            obtain ⟨e1, e2, e3⟩ := hgc _ hm1
            simp only [show (S.tick 1).sec = S.sec from rfl] at e1 e3 hgl
            have hlk2 : (Instr.lookup 63 (.map (some L.mb)) (.int .i64 ((P : Int) + (k : Int))) false).run Tryz.prog wr = .ok (.slice (some ⟨L.g (P + k), 0, none⟩) (S.sec (P + k)).ver.length (L.cap (P + k))) wr := hlk
            have hlok := Sec.last_ok (HOK.out (P + k) (by omega))
            rw [← hlast] at e3
            obtain ⟨m, hm⟩ : ∃ m, (S.sec (P + k)).ver.length = m + 1 := ⟨(S.sec (P + k)).ver.length - 1, by omega⟩
            rw [hm] at hlk2 e1 e3 hgl
            simp only [Nat.add_sub_cancel] at e1 e3
            have hcell : wr.cell? ⟨L.g (P + k), m, none⟩ = some (.slice (some ⟨(L.hs (P + k) m).1, (L.hs (P + k) m).2, none⟩) 256 256) := by rw [(cells_of hgb).1]; exact e1
            have hml : m + 1 ≤ 9223372036854775807 := by unfold maxLen at hgm; omega
            have HE3 := Lib.hid e3
            have HLO := Lib.hid hlok
            have hsf : ∀ wz, (Instr.sliceAt 62 (.slice (some ⟨g, 0, none⟩) (256 * C) cap) (some (.int .i64 ((k : Int) * 256))) none none).run Tryz.prog wz = .ok (.slice (some ⟨g, 256 * k, none⟩) (256 * C - 256 * k) (cap - 256 * k)) wz := fun wz => by
              have := run_sl_from (P := Tryz.prog) wz Tryz.underlying62 sizeU8 g 0 (256 * C) cap .i64 ((k : Int) * 256) (by omega) (by omega) (by omega)
              rw [this, show ((k : Int) * 256).toNat = 256 * k by omega, Nat.zero_add]
            clear hlk hv hb0 hgb hgs hgl hgm hgc hm1 hlast e1 e2 e3 hlok hm
            have hw1 : IntKind.i64.wrap ((k : Int) * 256) = (k : Int) * 256 := IntWalk.i64_in _ (by omega)
            have hw2 : IntKind.i64.wrap ((m : Int) + 1 - 1) = (m : Int) := by rw [show (m : Int) + 1 - 1 = m by omega]; exact IntWalk.i64_in _ (by omega)
            have hw3 : IntKind.i64.wrap (m : Int) = (m : Int) := IntWalk.i64_in _ (by omega)
            have hw4 : (m : Int) < (m : Int) + 1 := by omega
            go_upto_region 11 with fail
            go_region_law ((refine step_copyb rfl (.tmp 48) (.tmp 54) rfl rfl rfl HLO.out.1.symm HE3.out HBr.out (by rw [HLO.out.1]; omega) (by rw [HLO.out.1, HSr.out]; omega) ?_; intro w3 hb3 hu3 _))
            all_goals
              have HB3 := Lib.hid hb3
              have HU3 := Lib.hid hu3
              clear hb3 hu3
              go_wp2
              go_roundw
              case rel =>
                obtain ⟨hs1, hs2⟩ := splice_blk (c := C) (f := fun q => if q < k then (S.sec (P + q)).last else (S.sec (P + q)).dur) (by rw [HSr.out]; exact hcl) HPr.out k hlt _ HLO.out.1
                refine ⟨k + 1, by omega, by go_num, ⟨_, HB3.out, by rw [hs1]; exact HSr.out, fun q hq j hj => ?_⟩, (HUr.out.drew).trans HU3.out⟩
                rw [hs2 q hq j hj]
                by_cases e : q = k
                · subst e; rw [setf_same, if_pos (by omega)]
                · rw [setf_other _ _ e]
                  by_cases e2 : q < k
                  · rw [if_pos e2, if_pos (by omega)]
                  · rw [if_neg e2, if_neg (by omega)]
              case measure => simp [RowKit.intOf]; omega
        · obtain rfl : k = C := by omega
          go_wp2
          go_ret2
          rw [HR.out]
          exact ⟨⟨_, rfl, (row_of_blk cur HBr.out HSr.out hcl (by unfold maxLen; omega) (by have := HG.out; have := HW.out; omega) (fun q hq j hj => by rw [HPr.out q hq j hj, if_pos hq]) (fun i hi => (Sec.last_ok (HOK.out (P + i) (by omega))).1) (fun i hi => (Sec.last_ok (HOK.out (P + i) (by omega))).2))⟩, DR.out, U2.out.step HUr.out (fun y hy => .inr (by have := HG.out; have := HW.out; simp at hy; omega))⟩
end Go.Proofs.YtpnpjffhkaejgaaGreatDoor
namespace Go.Proofs.YtpnpjffhkaejgaaGreatDoor
open Go.RowKit

def Dk.flushed (S : Dk) : Dk := { S with sec := fun i => ⟨(S.sec i).last, []⟩ }
def Dk.flush (S : Dk) : Int × Dk := if S.hit 3 || S.down then (12, S.tick 3) else (0, (S.tick 3).flushed.did)
theorem mapOf_some {L : DLay} {S : Dk} {x : Int} {v : Value} (h : mapOf L S x = some v) : ∃ i : Nat, x = i ∧ i < S.n ∧ (S.sec i).ver ≠ [] ∧ v = verV L S i := by
  unfold mapOf at h
  split at h
  · rename_i hc
    obtain ⟨i, rfl⟩ := Int.eq_ofNat_of_zero_le hc.1
    exact ⟨i, rfl, by omega, by simpa using hc.2.2, by simpa using (Option.some.inj h).symm⟩
  · cases h
theorem Dk.Ok.flushed {S : Dk} (h : S.Ok) : S.flushed.Ok := ⟨h.n1, h.n2, fun i hi => ⟨Sec.last_ok (h.sec i hi), fun v hv => by cases hv⟩, h.fall, h.left⟩
theorem Dk.Ok.did {S : Dk} (h : S.Ok) : S.did.Ok := ⟨h.n1, h.n2, h.sec, h.fall, fun k hk => by
  unfold Dk.did at hk
  cases hl : S.left with
  | none => rw [hl] at hk; cases hk
  | some q => rw [hl] at hk; have := h.left q hl; simp at hk; omega⟩
/-- All versions are gone. -/
theorem IsDisk.cleared {w w' : World} {d : Nat} {L : DLay} {F : Nat → Prop} {S S' : Dk} (h : IsDisk w d L F S) (hok : S'.Ok) (hv : ∀ i, (S'.sec i).ver = []) (hh : DHead w' d L S') (hd : BlkF w' L.db S'.n fun i => (S'.sec i).dur)
    (hm : IMap Tryz.prog 3 w' L.mb fun _ => none) (hs : w.heap.size ≤ w'.heap.size) : IsDisk w' d L F S' :=
  ⟨hok, hh, hd, hm.congr fun x => by unfold mapOf; rw [if_neg fun e => e.2.2 (hv _)], fun i _ e => absurd (hv i) e, fun i j _ _ e => absurd (hv i) e, fun i j _ _ e => absurd (hv i) e, h.fd, h.fdb, h.fmb, fun i _ e => absurd (hv i) e, fun i _ j hj => by rw [hv i] at hj; exact absurd hj (Nat.not_lt_zero _), fun x hx => Nat.lt_of_lt_of_le (h.old x hx) hs⟩
theorem dne {w : World} {a b : Nat} {cs cs' : Array Value} {t t' : TypeId} (ha : w.heap[a]? = some (.cells cs t (0, 0))) (hb : w.heap[b]? = some (.cells cs' t' (0, 0))) (h : t ≠ t') : a ≠ b := fun e => by
  subst e; rw [ha] at hb; simp at hb; exact h hb.2
theorem BlkF.congr {w : World} {g c : Nat} {f f' : Nat → List Nat} (h : BlkF w g c f) (e : ∀ i, i < c → f i = f' i) : BlkF w g c f' := by
  obtain ⟨cs, hb, hs, hp⟩ := h
  exact ⟨cs, hb, hs, fun i hi j hj => by rw [hp i hi j hj, e i hi]⟩
theorem BlkF.upd {w w' : World} {g c : Nat} {f : Nat → List Nat} {T : List Nat} (h : BlkF w g c f) (u : Upd T w w') (hs : g ∉ T) : BlkF w' g c f := by
  obtain ⟨cs, hb, r⟩ := h
  exact ⟨cs, u.get hb hs, r⟩
theorem BlkF.splice {w' : World} {g c : Nat} {f : Nat → List Nat} {cs : Array Value} (hs : 256 * c ≤ cs.size) (hp : ∀ i, i < c → ∀ j, j < 256 → cs[256 * i + j]? = some (.int .u8 ((f i).getD j 0 : Nat))) (i : Nat) (hi : i < c) (l : List Nat) (hl : l.length = 256)
    (hb : w'.heap[g]? = some (.cells (splice cs (256 * i) (u8s l)) 5 (0, 0))) : BlkF w' g c (setf f i l) := by
  obtain ⟨h1, h2⟩ := splice_blk hs hp i hi l hl
  exact ⟨_, hb, by rw [h1]; exact hs, h2⟩
theorem DHead.upd {w w' : World} {d : Nat} {L : DLay} {S : Dk} {T : List Nat} (h : DHead w d L S) (u : Upd T w w') (hs : d ∉ T) : DHead w' d L S := by
  obtain ⟨c, l, hb, r⟩ := h
  exact ⟨c, l, u.get hb hs, r⟩
theorem IsDisk.apart3 {w : World} {d : Nat} {L : DLay} {F : Nat → Prop} {S : Dk} (h : IsDisk w d L F S) : d ≠ L.db ∧ d ≠ L.mb ∧ L.db ≠ L.mb := by
  obtain ⟨c, l, hb, _⟩ := h.hd
  obtain ⟨cs, hb2, _⟩ := h.dur
  obtain ⟨es, ck, hb3⟩ := h.map.block
  exact ⟨dne hb hb2 (by decide), (fun e => by rw [e, hb3] at hb; cases hb), (fun e => by rw [e, hb3] at hb2; cases hb2)⟩
end Go.Proofs.YtpnpjffhkaejgaaGreatDoor
