/-
  PROVED HERE: Write, the loop over the pieces: what its rounds need. Conditions: those that each theorem names.
-/
import Derived.Test.YtpnpjffhkaejgaaGreatDoorDiskL
namespace Go.Proofs.YtpnpjffhkaejgaaGreatDoor
open Go.RowKit Go.Shelf

attribute [local go_sem] Oper.semAt_some

theorem puts_cons (S : Dk) (fua : Bool) (p : Nat) (l : List Nat) (r : List (List Nat)) : puts S fua p (l :: r) = puts (putV S fua p l) fua (p + 1) r := rfl
theorem puts_sec_ge {fua : Bool} {j : Nat} {ls : List (List Nat)} : ∀ {S : Dk} {p : Nat}, p + ls.length ≤ j → (puts S fua p ls).sec j = S.sec j := by
  induction ls with
  | nil => intro S p _; rfl
  | cons l r ih =>
    intro S p h
    rw [List.length_cons] at h
    rw [puts_cons, ih (by omega), putV_sec (by omega)]
theorem piece_ok {data : List Nat} {c j : Nat} (h : data.length = 256 * c) (hb : BytesOk data) (hj : j < c) : (piece data j).length = 256 ∧ BytesOk (piece data j) := by
  unfold piece
  refine ⟨?_, (hb.drop _).take _⟩
  rw [List.length_take, List.length_drop]
  omega
theorem piece_bytes {w : World} {g : Nat} {data : List Nat} (h : IsBytes w (some ⟨g, 0, none⟩) data) (j : Nat) : IsBytes w (some ⟨g, 256 * j, none⟩) (piece data j) := by
  have := (h.drop (256 * j)).sub 256
  rwa [Nat.zero_add] at this
theorem IsBytes.same {w w' : World} {g o : Nat} {l : List Nat} (h : IsBytes w (some ⟨g, o, none⟩) l) (e : w'.heap[g]? = w.heap[g]?) : IsBytes w' (some ⟨g, o, none⟩) l :=
  ⟨h.1, fun i hi => by
    obtain ⟨b, o', ha, hc⟩ := h.2 i hi
    cases ha
    exact ⟨g, o, rfl, by rw [← hc]; exact World.cell?_of_block e⟩⟩
/-- A step that turns one block, if any. -/
theorem UpdP.of_grown {W W' : World} {row : Option Nat} (hg : W.grownBy W' row) : UpdP (fun x => row = some x) W W' :=
  ⟨hg.os, hg.tape, hg.output, hg.size, fun k hk hn => hg.block k hk fun e => hn e.symm⟩
theorem UpdP.keeps {G : Nat → Prop} {W W' : World} {B : Nat} (u : UpdP G W W') (h : ∀ x, B ≤ x → G x → ∀ o, W.heap[x]? = some o → o.isCells = true) : KeepsFrom B W W' :=
  ⟨u.size, fun k o hB hk ho => (u.block k (lt_of_block hk) fun hx => by rw [h k hB hx o hk] at ho; cases ho).trans hk⟩
/-- Between two rounds: the disk behind so many pieces; the boxes; the clone. -/
structure Rnd (w : World) (d : Nat) (L : DLay) (F : Nat → Prop) (S : Dk) (p : Nat) (data : List Nat) (fua : Bool) (g Bl : Nat) (pre : List Nat) (W : World) : Prop where
  disk : ∃ L' F', L'.db = L.db ∧ L'.mb = L.mb ∧ IsDisk W d L' F' (puts S fua p (pre.map fun x => piece data (x % (data.length / 256)))) ∧ (∀ x, F' x → F x ∨ x = g ∨ Bl ≤ x) ∧ ∀ x, F' x → Bl ≤ x → ∃ o, W.heap[x]? = some o ∧ o.isCells = true
  dbox : W.heap[w.heap.size]? = some (.cells #[.pointer (some ⟨d, 0, none⟩)] 25 (0, 0))
  abox : W.heap[w.heap.size + 1]? = some (.cells #[.int .i64 ((p + pre.length : Nat) : Int)] 3 (0, 0))
  fbox : W.heap[w.heap.size + 2]? = some (.cells #[.bool fua] 4 (0, 0))
  clone : IsBytes W (some ⟨g, 0, none⟩) data
  gsz : g < Bl
  bsz : Bl ≤ W.heap.size
  upd : UpdP F w W
theorem rnd_own {w : World} {d : Nat} {L : DLay} {F : Nat → Prop} {S : Dk} {p : Nat} {data : List Nat} {fua : Bool} {g Bl : Nat} (hF : ∀ x, F x → x < w.heap.size) (hb : w.heap.size + 2 < Bl) : OwnFrom Bl (Rnd w d L F S p data fua g Bl) := by
  intro pre A B row h hg hr
  have up := UpdP.of_grown hg
  have hne : ∀ {x : Nat}, x < Bl → ¬ row = some x := fun hx e => by have := (hr _ e).1; omega
  obtain ⟨L', F', e1, e2, hd, hf1, hf2⟩ := h.disk
  have hFn : ∀ x, F' x → ¬ row = some x := fun x hx e => by
    obtain ⟨hb1, o, ho, hc⟩ := hr _ e
    obtain ⟨o', ho', hc'⟩ := hf2 x hx hb1
    rw [ho] at ho'; cases ho'
    rw [hc] at hc'; cases hc'
  exact {
    disk := ⟨L', F', e1, e2, hd.upd up hFn, hf1, fun x hx hb1 => by
      obtain ⟨o, ho, hc⟩ := hf2 x hx hb1
      exact ⟨o, up.get ho (hFn x hx), hc⟩⟩
    dbox := up.get h.dbox (hne (by omega))
    abox := up.get h.abox (hne (by omega))
    fbox := up.get h.fbox (hne (by omega))
    clone := h.clone.same (up.block g (by have := h.bsz; have := h.gsz; omega) (hne h.gsz))
    gsz := h.gsz
    bsz := Nat.le_trans h.bsz up.size
    upd := h.upd.step up fun x e => .inr (by have := (hr _ e).1; omega) }
end Go.Proofs.YtpnpjffhkaejgaaGreatDoor
