/-
  PROVED HERE: a disk's flush. Conditions: those that each theorem names.
-/
import Derived.Test.YtpnpjffhkaejgaaDoorDiskD
import Derived.StillTail
import Derived.StillTactics
namespace Go.Proofs.YtpnpjffhkaejgaaDoor
open Go.RowKit

def Dk.flushed (S : Dk) : Dk := { S with sec := fun i => ⟨(S.sec i).last, []⟩ }
def Dk.flush (S : Dk) : Int × Dk := if S.hit 3 || S.down then (12, S.tick 3) else (0, (S.tick 3).flushed.did)
theorem mapOf_some {L : DLay} {S : Dk} {x : Int} {v : Value} (h : mapOf L S x = some v) : ∃ i : Nat, x = i ∧ i < S.n ∧ (S.sec i).ver ≠ [] ∧ v = verV L S i := by
  unfold mapOf at h
  split at h
  · rename_i hc
    obtain ⟨i, rfl⟩ := Int.eq_ofNat_of_zero_le hc.1
    exact ⟨i, rfl, by omega, by simpa using hc.2.2, by simpa using (Option.some.inj h).symm⟩
  · cases h
theorem Dk.Ok.flushed {S : Dk} (h : S.Ok) : S.flushed.Ok := ⟨h.n1, h.n2, fun i hi => ⟨Sec.last_ok (h.sec i hi), fun v hv => by cases hv⟩, h.fall, h.left⟩
theorem Dk.Ok.did {S : Dk} (h : S.Ok) : S.did.Ok := ⟨h.n1, h.n2, h.sec, h.fall, fun k hk => by
  unfold Dk.did at hk
  cases hl : S.left with
  | none => rw [hl] at hk; cases hk
  | some q => rw [hl] at hk; have := h.left q hl; simp at hk; omega⟩
/-- All versions are gone. -/
theorem IsDisk.cleared {w w' : World} {d : Nat} {L : DLay} {F : Nat → Prop} {S S' : Dk} (h : IsDisk w d L F S) (hok : S'.Ok) (hv : ∀ i, (S'.sec i).ver = []) (hh : DHead w' d L S') (hd : BlkF w' L.db S'.n fun i => (S'.sec i).dur)
    (hm : IMap Tryd.prog 3 w' L.mb fun _ => none) (hs : w.heap.size ≤ w'.heap.size) : IsDisk w' d L F S' :=
  ⟨hok, hh, hd, hm.congr fun x => by unfold mapOf; rw [if_neg fun e => e.2.2 (hv _)], fun i _ e => absurd (hv i) e, fun i j _ _ e => absurd (hv i) e, fun i j _ _ e => absurd (hv i) e, h.fd, h.fdb, h.fmb, fun i _ e => absurd (hv i) e, fun i _ j hj => by rw [hv i] at hj; exact absurd hj (Nat.not_lt_zero _), fun x hx => Nat.lt_of_lt_of_le (h.old x hx) hs⟩
theorem dne {w : World} {a b : Nat} {cs cs' : Array Value} {t t' : TypeId} (ha : w.heap[a]? = some (.cells cs t (0, 0))) (hb : w.heap[b]? = some (.cells cs' t' (0, 0))) (h : t ≠ t') : a ≠ b := fun e => by
  subst e; rw [ha] at hb; simp at hb; exact h hb.2
theorem BlkF.congr {w : World} {g c : Nat} {f f' : Nat → List Nat} (h : BlkF w g c f) (e : ∀ i, i < c → f i = f' i) : BlkF w g c f' := by
  obtain ⟨cs, hb, hs, hp⟩ := h
  exact ⟨cs, hb, hs, fun i hi j hj => by rw [hp i hi j hj, e i hi]⟩
theorem BlkF.upd {w w' : World} {g c : Nat} {f : Nat → List Nat} {T : List Nat} (h : BlkF w g c f) (u : Upd T w w') (hs : g ∉ T) : BlkF w' g c f := by
  obtain ⟨cs, hb, r⟩ := h
  exact ⟨cs, u.get hb hs, r⟩
theorem BlkF.splice {w' : World} {g c : Nat} {f : Nat → List Nat} {cs : Array Value} (hs : 256 * c ≤ cs.size) (hp : ∀ i, i < c → ∀ j, j < 256 → cs[256 * i + j]? = some (.int .u8 ((f i).getD j 0 : Nat))) (i : Nat) (hi : i < c) (l : List Nat) (hl : l.length = 256)
    (hb : w'.heap[g]? = some (.cells (splice cs (256 * i) (u8s l)) 5 (0, 0))) : BlkF w' g c (setf f i l) := by
  obtain ⟨h1, h2⟩ := splice_blk hs hp i hi l hl
  exact ⟨_, hb, by rw [h1]; exact hs, h2⟩
theorem DHead.upd {w w' : World} {d : Nat} {L : DLay} {S : Dk} {T : List Nat} (h : DHead w d L S) (u : Upd T w w') (hs : d ∉ T) : DHead w' d L S := by
  obtain ⟨c, l, hb, r⟩ := h
  exact ⟨c, l, u.get hb hs, r⟩
theorem IsDisk.apart3 {w : World} {d : Nat} {L : DLay} {F : Nat → Prop} {S : Dk} (h : IsDisk w d L F S) : d ≠ L.db ∧ d ≠ L.mb ∧ L.db ≠ L.mb := by
  obtain ⟨c, l, hb, _⟩ := h.hd
  obtain ⟨cs, hb2, _⟩ := h.dur
  obtain ⟨es, ck, hb3⟩ := h.map.block
  exact ⟨dne hb hb2 (by decide), (fun e => by rw [e, hb3] at hb; cases hb), (fun e => by rw [e, hb3] at hb2; cases hb2)⟩
end Go.Proofs.YtpnpjffhkaejgaaDoor
