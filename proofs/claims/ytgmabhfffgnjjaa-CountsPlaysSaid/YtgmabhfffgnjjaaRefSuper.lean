/-
  PROVED HERE: the document's PutSuper and GetSuper (package polderref02). Conditions: the bytes can be read.
-/
import Derived.Test.YtgmabhfffgnjjaaGetSuper
import Derived.Lib.SlBytesConst
namespace Go.Proofs.Ytgmabhfffgnjjaa
open Go.RowKit

theorem number_b {w : World} {a : Option Addr} {l : List Nat} {cap : Nat} (at_ k : Nat) (hb : IsBytes w a l) (hl : l.length ≤ 9223372036854775807) (hk : k ≤ 8) (ha : at_ ≤ 1000) :
    Calls Try.prog 43 #[.slice a l.length cap, .int .i64 at_, .int .i64 k] w fun e w' => e = .returned (.int .i64 (numi (seg l at_ k))) ∧ w = w' :=
  (number_any hb hl hk ha).mono fun _ _ ⟨h, h1⟩ => ⟨h, h1.symm⟩
theorem number_i {w : World} {a : Option Addr} {l : List Nat} {cap : Nat} (x k : Int) (hb : IsBytes w a l) (hl : l.length ≤ 9223372036854775807) (h0 : 0 ≤ k) (hk : k ≤ 8) (h1 : 0 ≤ x) (ha : x ≤ 1000) :
    Calls Try.prog 43 #[.slice a l.length cap, .int .i64 x, .int .i64 k] w fun e w' => e = .returned (.int .i64 (numi (seg l x.toNat k.toNat))) ∧ w = w' := by
  obtain ⟨x, rfl⟩ := Int.eq_ofNat_of_zero_le h1
  obtain ⟨k, rfl⟩ := Int.eq_ofNat_of_zero_le h0
  exact number_b x k hb hl (by omega) (by omega)
theorem isOut_lit {w : World} {B g : Nat} {l : List Nat} {ty : TypeId} {fr : Nat × Nat} (h : w.heap[g]? = some (.cells (u8s l).toArray ty fr)) (ok : BytesOk l) (hB : B ≤ g) (hl : l.length ≤ 1000000) : IsOut w B (.slice (some ⟨g, 0, none⟩) l.length l.length) l :=
  ⟨.inr ⟨g, _, _, _, rfl, hB, h, fun i hi => by rw [List.getElem?_toArray, u8s_get, List.getElem?_eq_getElem hi]; rfl, hl⟩, ok⟩
/-- The numbers of a superblock lie in a block of their own. -/
def Nums (w : World) (l : List Int) (e : Ending) (w' : World) : Prop := ∃ b, e = .returned (.slice (some ⟨b, 0, none⟩) l.length l.length) ∧ w.heap.size ≤ b ∧ w'.heap[b]? = some (.cells (i64s l).toArray 3 (0, 0)) ∧ Upd [] w w'
end Go.Proofs.Ytgmabhfffgnjjaa
