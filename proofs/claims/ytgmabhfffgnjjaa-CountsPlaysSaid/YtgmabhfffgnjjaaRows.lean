/-
  No cell of these rows narrows 'for every input' (looked for: loops, veiled, ifaces, maps, wideKeys, modest, calm, conditions, laid).
  DERIVED. THE GIVEN ROWS OF THIS SEAT. 3 by the template 'for every input the law returns true; each argument reads behind the call as it read before'; 0 by the template 'total and deterministic' (their statements: YtgmabhfffgnjjaaTotals.lean).
  GIVEN WITH THE SEED: the statements are not yours to turn. If you find one false, say at which input.
  Laid BY PROGRAM, IN A SANDBOX (cutbox-rows.mjs): the forced cells as the released guide's own fill.sh prints them over the translation 91544e768553fef8… (all of the seat's roots in one cut). By AI agents, Wed Nov 11 2026. No macro, syntax, notation, axiom, sorry.
-/
import Derived.Test.YtgmabhfffgnjjaaChecked
import GoSem.Claim
import GoSem.ClaimJoined
import GoSem.ClaimMapViews
import Derived.JoinedTies
import Derived.KernelRfl
namespace Go.Proofs.Ytgmabhfffgnjjaa
/- THE CELL 'sum', in the pinned program and in every row, IS THE sha256 OF THE DUMP (.gsa) THAT YtgmabhfffgnjjaaProg.lean LOADS. Nothing in Lean hashes anything: it is a label: what it is worth is what the hold of that sum in a sandbox is worth. -/
noncomputable def Try.pinned : Pinned := { name := "ytgmabhfffgnjjaa", sum := "91544e768553fef848f828ea3f8953fb9b3976478a2be730c73be1a19a1bb6ad", checked := Try.checked }
namespace Rows
def none {H : Type} : Left H := { results := [], args := [] }

/-- 'polderlaw09.CountsApart': WHATEVER THE INPUT: true; the input reads as it did. -/
def countsApartSpec : ChangeSpec := { name := "countsApart", fn := fun _ => fun
  | [d1, d2, d3] => { results := [.lit (.bool true)], args := [d1, d2, d3] }
  | _ => none }
def countsApartRow : OpenClaim := { program := "ytgmabhfffgnjjaa", sum := "91544e768553fef848f828ea3f8953fb9b3976478a2be730c73be1a19a1bb6ad", func := "polder/polderlaw09.CountsApart", spec := "countsApart", unfollowed := true, recurses := true, apart := false }
def CountsApartSaid : Prop := countsApartRow.holds Try.pinned (OpenSpec.ofChange countsApartSpec)

/-- ITS FALSE NEIGHBOUR: 'it returns false'. Refute it at one input. -/
def countsApartWrong : ChangeSpec := { name := "countsApart", fn := fun _ => fun
  | [d1, d2, d3] => { results := [.lit (.bool false)], args := [d1, d2, d3] }
  | _ => none }
def CountsApartWrongFalsely : Prop := countsApartRow.holds Try.pinned (OpenSpec.ofChange countsApartWrong)

/-- 'polderlaw09.CountsBack': WHATEVER THE INPUT: true; the input reads as it did. -/
def countsBackSpec : ChangeSpec := { name := "countsBack", fn := fun _ => fun
  | [d1, d2] => { results := [.lit (.bool true)], args := [d1, d2] }
  | _ => none }
def countsBackRow : OpenClaim := { program := "ytgmabhfffgnjjaa", sum := "91544e768553fef848f828ea3f8953fb9b3976478a2be730c73be1a19a1bb6ad", func := "polder/polderlaw09.CountsBack", spec := "countsBack", unfollowed := true, recurses := true, apart := false }
def CountsBackSaid : Prop := countsBackRow.holds Try.pinned (OpenSpec.ofChange countsBackSpec)

/-- ITS FALSE NEIGHBOUR: 'it returns false'. Refute it at one input. -/
def countsBackWrong : ChangeSpec := { name := "countsBack", fn := fun _ => fun
  | [d1, d2] => { results := [.lit (.bool false)], args := [d1, d2] }
  | _ => none }
def CountsBackWrongFalsely : Prop := countsBackRow.holds Try.pinned (OpenSpec.ofChange countsBackWrong)

/-- 'polderlaw09.CountsPlays': WHATEVER THE INPUT: true; the input reads as it did. -/
def countsPlaysSpec : ChangeSpec := { name := "countsPlays", fn := fun _ => fun
  | [d1, d2] => { results := [.lit (.bool true)], args := [d1, d2] }
  | _ => none }
def countsPlaysRow : OpenClaim := { program := "ytgmabhfffgnjjaa", sum := "91544e768553fef848f828ea3f8953fb9b3976478a2be730c73be1a19a1bb6ad", func := "polder/polderlaw09.CountsPlays", spec := "countsPlays", unfollowed := true, recurses := true, apart := false }
def CountsPlaysSaid : Prop := countsPlaysRow.holds Try.pinned (OpenSpec.ofChange countsPlaysSpec)

/-- ITS FALSE NEIGHBOUR: 'it returns false'. Refute it at one input. -/
def countsPlaysWrong : ChangeSpec := { name := "countsPlays", fn := fun _ => fun
  | [d1, d2] => { results := [.lit (.bool false)], args := [d1, d2] }
  | _ => none }
def CountsPlaysWrongFalsely : Prop := countsPlaysRow.holds Try.pinned (OpenSpec.ofChange countsPlaysWrong)

/- THE SECOND FORM. 'bulk': how many values and letters a reading holds, each counted each time it is reached (what is shared counts as often as it is met; a slice's spare places count too). A statement '..UptoSaid' is the law's where the arguments, and the package variables that the reading takes, are together of bulk at most 1048576: NARROWER than '..Said'. Prove '..Said' where nothing that the law and all that it calls make is longer than what came in: it says more and counts as full. Else prove '..UptoSaid'. A law counts once. -/
mutual
def uptoBulk {H : Type} : DataW H → Nat
  | .lit (.string bytes) => bytes.length + 1
  | .lit _ => 1
  | .nil => 1
  | .ptr d => uptoBulk d + 1
  | .slice elems spare => uptoBulkAll elems + uptoBulkAll spare + 1
  | .agg parts => uptoBulkAll parts + 1
  | .iface _ d => uptoBulk d + 1
  | .map entries => uptoBulkEntries entries + 1
  | .held _ => 1
def uptoBulkAll {H : Type} : List (DataW H) → Nat
  | [] => 0
  | d :: r => uptoBulk d + uptoBulkAll r
def uptoBulkEntries {H : Type} : List (Lit × DataW H) → Nat
  | [] => 0
  | x :: r => uptoBulkEntry x + uptoBulkEntries r
def uptoBulkEntry {H : Type} : Lit × DataW H → Nat
  | (.string bytes, d) => bytes.length + uptoBulk d + 1
  | (_, d) => uptoBulk d + 1
 end
def uptoSmall : (H : Type) → List (DataW H) → Bool := fun _ ds => decide (uptoBulkAll ds ≤ 1048576)
def OpenSpec.upto (s : _root_.Go.ChangeSpec) : _root_.Go.OpenSpec := { _root_.Go.OpenSpec.ofChange s with cond := some uptoSmall }

/-- 'polderlaw09.CountsApart', WHERE WHAT IT READS IS OF BULK AT MOST 1048576: true; the input reads as it did. -/
def countsApartUptoRow : OpenClaim := { program := "ytgmabhfffgnjjaa", sum := "91544e768553fef848f828ea3f8953fb9b3976478a2be730c73be1a19a1bb6ad", func := "polder/polderlaw09.CountsApart", spec := "countsApart", unfollowed := true, recurses := true, apart := false, narrowed := true }
def CountsApartUptoSaid : Prop := countsApartUptoRow.holds Try.pinned (OpenSpec.upto countsApartSpec)

/-- 'polderlaw09.CountsBack', WHERE WHAT IT READS IS OF BULK AT MOST 1048576: true; the input reads as it did. -/
def countsBackUptoRow : OpenClaim := { program := "ytgmabhfffgnjjaa", sum := "91544e768553fef848f828ea3f8953fb9b3976478a2be730c73be1a19a1bb6ad", func := "polder/polderlaw09.CountsBack", spec := "countsBack", unfollowed := true, recurses := true, apart := false, narrowed := true }
def CountsBackUptoSaid : Prop := countsBackUptoRow.holds Try.pinned (OpenSpec.upto countsBackSpec)

/-- 'polderlaw09.CountsPlays', WHERE WHAT IT READS IS OF BULK AT MOST 1048576: true; the input reads as it did. -/
def countsPlaysUptoRow : OpenClaim := { program := "ytgmabhfffgnjjaa", sum := "91544e768553fef848f828ea3f8953fb9b3976478a2be730c73be1a19a1bb6ad", func := "polder/polderlaw09.CountsPlays", spec := "countsPlays", unfollowed := true, recurses := true, apart := false, narrowed := true }
def CountsPlaysUptoSaid : Prop := countsPlaysUptoRow.holds Try.pinned (OpenSpec.upto countsPlaysSpec)

end Rows
end Go.Proofs.Ytgmabhfffgnjjaa
