/-
  PROVED HERE: the form's reach bounds a row of superblocks among the arguments. Conditions: it can be read as data.
-/
import Derived.Test.YtpnpjffhkaejgaaDoorOpenSup
import Derived.SizedLaws
namespace Go.Proofs.YtpnpjffhkaejgaaDoor
open Go.ChangeShapes Go.WideShapes Go.Deep Go.RowKit
section
variable {H : Type} {enc : TypeId × Value → H} {w : World} {base : Nat} {spare : Nat → Bool} {held : Bool}
/-- A datum of so many elements. -/
def SupLen (d : DataW H) (n : Nat) : Prop := (d = .nil ∧ n = 0) ∨ ∃ es sp, d = .slice es sp ∧ es.length = n
set_option maxRecDepth 100000 in
theorem sups_len {a : Option Addr} {n cap : Nat} {d : DataW H} {p : List MemPlace} (h : DataW.Trod enc Tryd.prog w base spare held 28 (.slice a n cap) d p) : SupLen d n := by
  obtain ⟨fuel, hf⟩ := h
  simp only [Value.cells] at hf
  rcases open_slice_fields Tryd.underlying28 Tryd.underlying23 (by kernel_rfl) (by kernel_rfl) hf with ⟨hcs, hx⟩ | ⟨a', len, cap', m, D, Pl, hcs, _, hl, hm, hmm, hx, hi⟩
  · cases hcs
    cases hx
    exact .inl ⟨rfl, rfl⟩
  · cases hcs
    cases hx
    exact .inr ⟨_, _, rfl, by simp⟩
theorem bytesSup : Tryd.prog.bytesOf 23 = 56 := by kernel_rfl
theorem sized_sups {ts : List TypeId} {ds : List (DataW H)} (hsz : (DataW.weightsEach Tryd.prog ts ds).all (· ≤ reachBytes) = true) {j n : Nat} {d : DataW H} (ht : ts[j]? = some 28) (hd : ds[j]? = some d) (hl : SupLen d n) : n ≤ 2513169434900 := by
  rcases hl with ⟨_, rfl⟩ | ⟨es, sp, rfl, rfl⟩
  · omega
  · have h := sized_slice hsz ht hd Tryd.underlying28
    rw [bytesSup] at h
    simp only [reachBytes] at h
    omega
end
end Go.Proofs.YtpnpjffhkaejgaaDoor
