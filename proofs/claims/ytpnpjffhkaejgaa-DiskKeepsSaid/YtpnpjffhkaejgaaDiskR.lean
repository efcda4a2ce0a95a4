/-
  PROVED HERE: the disk's methods in a law: what else the law holds stays. Conditions: those that each theorem names.
-/
import Derived.Test.YtpnpjffhkaejgaaDiskQ
namespace Go.Proofs.Ytpnpjffhkaejgaa
open Go.RowKit

/-- Bytes of the law's own. -/
def OwnB (w : World) (F : Nat → Prop) (l : List Nat) (n : Nat) (e : Ending) (w' : World) : Prop := ∃ g cap, e = .returned (.slice (some ⟨g, 0, none⟩) n cap) ∧ n ≤ cap ∧ cap ≤ 9223372036854775807 ∧ w.heap.size ≤ g ∧ ¬ F g ∧ g < w'.heap.size ∧ IsBytes w' (some ⟨g, 0, none⟩) l ∧ ∃ B, IsRow w' B (.slice (some ⟨g, 0, none⟩) n cap) l
theorem ld_data {w wr : World} {d : Nat} {F : Nat → Prop} {T : List (Nat × Obj)} {S : Dk} (h : LawD w wr d F T S) (k a c b f : Int) (u : Bool) (p : Value) {n : Nat} (hn : (opData c b f).length = n) (h0 : 0 < n) :
    Calls Try.prog 14 #[.agg #[.int .i64 k, .int .i64 a, .int .i64 c, .int .i64 b, .int .i64 f, .bool u, p]] wr fun e w' => OwnB wr F (opData c b f) n e w' ∧ LawD w w' d F T S :=
  (data_any k a c b f u p).mono fun e w' ⟨⟨v, he, hr⟩, hu⟩ => by
    obtain ⟨g, cap, rfl, hg, hgl, hc1, hc2, hb⟩ := row_some hr hn h0
    exact ⟨⟨g, cap, he, hc1, hc2, hg, fun e => by have := h.1.old _ e; omega, hgl, hb, _, hr⟩, h.up hu⟩
end Go.Proofs.Ytpnpjffhkaejgaa
