/-
  PROVED HERE: what the row's list gives of the library's variables that a number's reading uses, and a world in which all listed variables hold what their initialisers lay. Conditions: none.
-/
import Derived.Test.YtlhdjgibkiffaaaGreatDoorRowKit
import Derived.Test.YtlhdjgibkiffaaaGreatDoorKeyN
import Derived.Lib.LaidTab
import Derived.Stop.LaidErr
namespace Go.Proofs.YtlhdjgibkiffaaaGreatDoor
open Go.ChangeShapes Go.WideShapes Go.ChangeAt Go.RowKit

theorem var?_below {P : Program} {W W' : World} {n : String} {cs : Array Value} (h : W.var? P n = some cs) (hb : Below W.heap.size W W') : W'.var? P n = some cs := by
  unfold World.var? at h ⊢
  cases hg : P.globalNamed n with
  | none => simp [hg] at h
  | some g =>
    simp only [hg, Option.bind_some] at h ⊢
    have hlt : g < W.heap.size := by
      rcases Nat.lt_or_ge g W.heap.size with h' | h'
      · exact h'
      · simp [Array.getElem?_eq_none h'] at h
    rw [hb.block g hlt]
    exact h
theorem Vars.below {W W' : World} (h : Vars W) (hb : Below W.heap.size W W') : Vars W' := by
  obtain ⟨⟨t1, p1, h1⟩, ⟨t2, p2, h2⟩, h3⟩ := h
  exact ⟨⟨t1, p1, var?_below h1 hb⟩, ⟨t2, p2, var?_below h2 hb⟩, var?_below h3 hb⟩
theorem gPow : Tryz.prog.globalNamed "internal/strconv.uint64pow10" = some 6 := by kernel_rfl
theorem gPowType : (Tryz.prog.globals[6]?).map (·.type) = some 163 := by kernel_rfl
theorem cellsPow : Tryz.prog.cellsOf 163 = 20 := by kernel_rfl
theorem cellsU64 : Tryz.prog.cellsOf 145 = 1 := by kernel_rfl
theorem gSyn : Tryz.prog.globalNamed "strconv.ErrSyntax" = some 4 := by kernel_rfl
theorem gSynType : (Tryz.prog.globals[4]?).map (·.type) = some 89 := by kernel_rfl
theorem gRan : Tryz.prog.globalNamed "strconv.ErrRange" = some 5 := by kernel_rfl
theorem gRanType : (Tryz.prog.globals[5]?).map (·.type) = some 89 := by kernel_rfl
theorem cellsErr : Tryz.prog.cellsOf 161 = 1 := by kernel_rfl
theorem cellsStr : Tryz.prog.cellsOf 9 = 1 := by kernel_rfl
theorem starErr : "*" ++ "errors.errorString" = "*errors.errorString" := by decide
theorem rowErr (u : TypeId) (h : Tryz.prog.typeName? 3 u = some "*errors.errorString") : u = 159 :=
  typeName_ptr_named (nm := "errors.errorString") (by rw [starErr]; kernel_rfl) (by kernel_rfl) (by decide) u (by rw [starErr]; exact h)
/-- What the rows list. -/
abbrev laid8 : List (String × DataW Unit) := [("math/bits.deBruijn32tab", Rows.laid_math_bits_deBruijn32tab), ("math/bits.deBruijn64tab", Rows.laid_math_bits_deBruijn64tab), ("internal/strconv.uint64pow10", Rows.laid_internal_strconv_uint64pow10), ("unicode/utf8.acceptRanges", Rows.laid_unicode_utf8_acceptRanges), ("strconv.ErrRange", Rows.laid_strconv_ErrRange), ("strconv.ErrSyntax", Rows.laid_strconv_ErrSyntax), ("bytes.ErrTooLarge", Rows.laid_bytes_ErrTooLarge), ("unicode/utf8.first", Rows.laid_unicode_utf8_first)]
theorem vars_of_laid {W : World} (h : laidMetH Tryz.prog laid8 W) : Vars W := by
  have h0 : laidMet Tryz.prog laid8 W := h
  have h2 := h0.tail.tail
  have h2' : laidMet Tryz.prog (("internal/strconv.uint64pow10", Lib.tabData .u64 Lib.pow10Tab) :: laid8.drop 3) W := h2
  have h4 := h2.tail.tail
  obtain ⟨a0, s0, hv0, -, -, -⟩ := laid_sentinel h4 gRan gRanType Tryz.underlying89 rowErr Tryz.underlying159 Tryz.underlying161 rfl rfl Tryz.underlying9 cellsErr cellsStr
  obtain ⟨a1, s1, hv1, -, -, -⟩ := laid_sentinel h4.tail gSyn gSynType Tryz.underlying89 rowErr Tryz.underlying159 Tryz.underlying161 rfl rfl Tryz.underlying9 cellsErr cellsStr
  exact ⟨⟨_, _, hv1⟩, ⟨_, _, hv0⟩, Lib.tabIs_of_head (rest := laid8.drop 3) gPow gPowType Tryz.underlying163 Tryz.underlying145 cellsU64 cellsPow h2'⟩
def litV {H : Type} : DataW H → List Value
  | .lit (.int k n) => [.int k n]
  | _ => []
def flatV {H : Type} : DataW H → List Value
  | .agg l => l.flatMap fun d => match d with | .agg m => m.flatMap litV | d => litV d
  | _ => []
def holds (l : List Value) : Obj → Obj
  | .cells _ t frozen => .cells l.toArray t frozen
  | o => o
def errText {H : Type} : DataW H → ByteArray
  | .iface _ (.ptr (.agg [.lit (.string s)])) => ⟨s.toArray⟩
  | _ => ⟨#[]⟩
noncomputable def low : Nat := (World.holding Tryz.prog default ⟨#[], #[], []⟩).heap.size
def errAt (b : Nat) : List Value := [.iface 159 (.pointer (some ⟨b, 0, none⟩))]
/-- A world for the witness: the settled one, the listed variables holding what their initialisers lay. -/
noncomputable def laidWorld (os : Os) : World :=
  let w0 := World.holding Tryz.prog os ⟨#[.cells #[.string (errText (Rows.laid_strconv_ErrRange : DataW Unit))] 161, .cells #[.string (errText (Rows.laid_strconv_ErrSyntax : DataW Unit))] 161, .cells #[.string (errText (Rows.laid_bytes_ErrTooLarge : DataW Unit))] 161], #[], []⟩
  { w0 with heap := (((((((w0.heap.modify 7 (holds (flatV (Rows.laid_math_bits_deBruijn32tab : DataW Unit)))).modify 8 (holds (flatV (Rows.laid_math_bits_deBruijn64tab : DataW Unit)))).modify 6 (holds (flatV (Rows.laid_internal_strconv_uint64pow10 : DataW Unit)))).modify 3 (holds (flatV (Rows.laid_unicode_utf8_acceptRanges : DataW Unit)))).modify 2 (holds (flatV Rows.laid_unicode_utf8_first))).modify 5 (holds (errAt low))).modify 4 (holds (errAt (low + 1)))).modify 1 (holds (errAt (low + 2))) }
end Go.Proofs.YtlhdjgibkiffaaaGreatDoor
