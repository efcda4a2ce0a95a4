/-
  PROVED HERE: arguments that are rows of bytes are opened; what the narrow form's bound says of them. Conditions: they can be read as data.
-/
import Derived.Test.YtlhdjgibkiffaaaGreatDoorOpenAgg
import Derived.Test.YtlhdjgibkiffaaaGreatDoorKeyS
import Derived.Test.YtlhdjgibkiffaaaGreatDoorProg
import Derived.SizedLaws
import Derived.Test.YtlhdjgibkiffaaaGreatDoorKeyB
import Derived.Test.YtlhdjgibkiffaaaGreatDoorRows
namespace Go.Proofs.YtlhdjgibkiffaaaGreatDoor
open Go.ChangeShapes Go.WideShapes Go.Deep Go.RowKit
section
variable {H : Type} {enc : TypeId × Value → H} {w : World} {base : Nat} {spare : Nat → Bool} {held : Bool}
def LenIs (d : DataW H) (n : Nat) : Prop := (d = .nil ∧ n = 0) ∨ ∃ es sp, d = .slice es sp ∧ es.length = n
theorem trod_txt {fuel : Nat} {v : Value} {y : DataW H × List MemPlace} (h : DataW.trod enc Tryz.prog w base spare held fuel 28 [v] = some y) :
    ∃ l, IsTxtV w v l ∧ LenIs y.1 l.length := by
  rcases open_slice1 Tryz.underlying28 (by kernel_rfl) h with ⟨hcs, hx⟩ | ⟨a, len, cap, m, n, V, D, Pl, hcs, hb, hl, hm, hmm, hx, hi⟩
  · simp only [List.cons.injEq, and_true] at hcs
    subst hcs
    exact ⟨[], IsTxtV.nil w, .inl ⟨by rw [hx], rfl⟩⟩
  · simp only [List.cons.injEq, and_true] at hcs
    subst hcs
    have hlm : len ≤ m := by rw [hmm]; split <;> omega
    obtain ⟨l, hll, hlx⟩ := list_of (Q := fun i (k : UInt8) => w.cell? (a.add i) = some (.int .u8 (k.toNat : Int))) len fun i hil => by
      obtain ⟨h1, h2⟩ := hi i (by omega)
      obtain ⟨k, e, _, hw⟩ := DataW.trod_int Tryz.underlying5 h2
      simp only [List.cons.injEq, and_true] at e
      have hr : 0 ≤ k ∧ k ≤ 255 := by
        simp only [Lit.wf, Bool.and_eq_true, decide_eq_true_eq] at hw
        exact hw
      obtain ⟨k, rfl⟩ := Int.eq_ofNat_of_zero_le hr.1
      refine ⟨UInt8.ofNat k, ?_⟩
      have hk : (UInt8.ofNat k).toNat = k := UInt8.toNat_ofNat_of_lt' (by have := hr.2; show k < 256; omega)
      rw [h1, e, hk]
    refine ⟨l, ⟨some a, cap, by rw [hll], fun i h => ?_, by omega, fun e => (by cases e), hm⟩, .inr ⟨_, _, by rw [hx], by simp [hll]⟩⟩
    have h0 := hlx 0 (by omega)
    have hlt := World.block_lt_of_cell? _ _ h0
    have ha : a = ⟨a.block, a.off, none⟩ := by
      have e : a.add 0 = a := by simp [Addr.add]
      rw [e] at h0
      exact addr_plain h0
    have hc := hlx i h
    rw [ha, add_off] at hc
    exact ⟨a.block, a.off, by rw [← ha], hlt, hc⟩
set_option maxRecDepth 100000 in
theorem open_txt_arg {r : Reach} {b0 : Nat} {v : Value} {d : DataW H} {p : List MemPlace} (hv : Value.okWide Tryz.prog w r b0 28 v) (h : DataW.Trod enc Tryz.prog w base spare held 28 v d p) :
    ∃ l, IsTxtV w v l ∧ LenIs d l.length := by
  obtain ⟨a, len, cap, rfl⟩ := okWide_slice Tryz.underlying28 hv
  obtain ⟨fuel, hf⟩ := h
  simp only [Value.cells] at hf
  exact trod_txt hf
theorem one_le_bulk (d : DataW H) : 1 ≤ Rows.uptoBulk d := by
  cases d with
  | lit l => cases l <;> simp [Rows.uptoBulk]
  | nil => simp [Rows.uptoBulk]
  | ptr d => simp [Rows.uptoBulk]
  | slice elems spare => simp [Rows.uptoBulk]
  | agg parts => simp [Rows.uptoBulk]
  | iface t d => simp [Rows.uptoBulk]
  | map entries => simp [Rows.uptoBulk]
  | held h => simp [Rows.uptoBulk]
theorem length_le_bulk (l : List (DataW H)) : l.length ≤ Rows.uptoBulkAll l := by
  induction l with
  | nil => simp [Rows.uptoBulkAll]
  | cons x r ih => have := one_le_bulk x; simp only [Rows.uptoBulkAll, List.length_cons]; omega
theorem part_le_bulk {d : DataW H} {l : List (DataW H)} (h : d ∈ l) : Rows.uptoBulk d ≤ Rows.uptoBulkAll l := by
  induction l with
  | nil => cases h
  | cons x r ih =>
    simp only [Rows.uptoBulkAll]
    cases List.mem_cons.1 h with
    | inl e => subst e; omega
    | inr e => have := ih e; omega
/-- What the narrow form's bound says of a row of bytes. -/
theorem bulk_len {ds : List (DataW H)} (hk : Rows.uptoSmall H ds = true) {d : DataW H} (hd : d ∈ ds) {n : Nat} (hl : LenIs d n) : n ≤ 1048576 := by
  have h1 : Rows.uptoBulkAll ds ≤ 1048576 := of_decide_eq_true hk
  have h2 := part_le_bulk hd
  rcases hl with ⟨_, rfl⟩ | ⟨es, sp, rfl, rfl⟩
  · omega
  · have h3 := length_le_bulk es
    simp only [Rows.uptoBulk] at h2
    omega
end
end Go.Proofs.YtlhdjgibkiffaaaGreatDoor
