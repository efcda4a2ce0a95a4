/-
  PROVED HERE: slices of numbers: read, and of the call's own; the statements' comparing of two (ints). Conditions: those that each theorem names.
-/
import Derived.Test.YtgmabhfffgnjjaaPutKit
import Derived.Test.YtgmabhfffgnjjaaPutSuper
import Derived.Deep.QuietTactic
import Derived.BigQuiet
namespace Go.Proofs.Ytgmabhfffgnjjaa
open Go.RowKit

/-- The numbers that a slice reads as. -/
def IsInts (w : World) (a : Option Addr) (l : List Int) : Prop := ∀ i (h : i < l.length), ∃ b o, a = some ⟨b, o, none⟩ ∧ w.cell? ⟨b, o + i, none⟩ = some (.int .i64 l[i])
theorem IsInts.upd {w w' : World} {a : Option Addr} {l : List Int} {S : List Nat} (h : IsInts w a l) (u : Upd S w w') (hs : ∀ b o, a = some ⟨b, o, none⟩ → b ∉ S) : IsInts w' a l := fun i hi => by
  obtain ⟨b, o, ha, hc⟩ := h i hi
  exact ⟨b, o, ha, by rw [← hc]; exact World.cell?_of_block (u.block b (World.block_lt_of_cell? _ _ hc) (hs b o ha))⟩
theorem IsInts.lt {w : World} {a : Option Addr} {l : List Int} (h : IsInts w a l) (h0 : 0 < l.length) : ∀ b o, a = some ⟨b, o, none⟩ → b < w.heap.size := fun b o e => by
  obtain ⟨b', o', e', hc⟩ := h 0 h0
  rw [e'] at e
  cases e
  exact World.block_lt_of_cell? _ _ hc
theorem i64s_len (l : List Int) : (i64s l).length = l.length := by simp [i64s]
theorem i64s_get (l : List Int) (i : Nat) : (i64s l)[i]? = l[i]?.map (Value.int .i64) := by simp [i64s]
/-- The value v is a slice of the call's own that holds the numbers l. -/
def IntsOut (w : World) (B : Nat) (v : Value) (l : List Int) : Prop := w.ownsRow B 3 1 v l.length (i64s l)
theorem IntsOut.nil (w : World) (B : Nat) : IntsOut w B (.slice none 0 0) [] := ⟨rfl, .inl ⟨rfl, rfl⟩⟩
theorem IntsOut.upd {w w' : World} {B : Nat} {v : Value} {l : List Int} {S : List Nat} (h : IntsOut w B v l) (u : Upd S w w') (hs : ∀ x ∈ v.ownBlock.toList, x ∉ S) : IntsOut w' B v l := ownsRow_upd h u hs
theorem IntsOut.base {w : World} {B C : Nat} {v : Value} {l : List Int} (h : IntsOut w B v l) (hC : C ≤ B) : IntsOut w C v l := by
  obtain ⟨hl, ⟨rfl, h0⟩ | ⟨g, cap, cur, rfl, hg, r⟩⟩ := h
  · exact ⟨hl, .inl ⟨rfl, h0⟩⟩
  · exact ⟨hl, .inr ⟨g, cap, cur, rfl, Nat.le_trans hC hg, r⟩⟩
theorem IntsOut.low {w : World} {B : Nat} {v : Value} {l : List Int} (h : IntsOut w B v l) : ∀ x ∈ v.ownBlock.toList, B ≤ x ∧ x < w.heap.size := by
  intro x hx
  obtain ⟨hl, ⟨rfl, h0⟩ | ⟨g, cap, cur, rfl, hg, hb, r⟩⟩ := h
  · simp [Value.ownBlock] at hx
  · obtain rfl : x = g := by simpa [Value.ownBlock] using hx
    exact ⟨hg, lt_of_block hb⟩
theorem IntsOut.slice {w : World} {B : Nat} {v : Value} {l : List Int} (h : IntsOut w B v l) : ∃ a cap, v = .slice a l.length cap ∧ IsInts w a l ∧ (∀ b o, a = some ⟨b, o, none⟩ → b ∈ v.ownBlock.toList) ∧ l.length ≤ cap ∧ cap ≤ 9223372036854775807 := by
  obtain ⟨hl, ⟨rfl, h0⟩ | ⟨g, cap, cur, rfl, hg, hb, hc, hm, hs, ht⟩⟩ := h
  · refine ⟨none, 0, by rw [h0], fun i hi => by omega, (by simp), by omega, by decide⟩
  · refine ⟨some ⟨g, 0, none⟩, cap, rfl, fun i hi => ⟨g, 0, rfl, ?_⟩, (by rintro b o ⟨⟩; simp [Value.ownBlock]), hc, by unfold maxLen at hm; omega⟩
    rw [(cells_of hb).1, Nat.zero_add]
    have e : (cur.toList.take (l.length * 1))[i]? = (i64s l)[i]? := by rw [ht]
    rw [List.getElem?_take_of_lt (by omega), i64s_get, List.getElem?_eq_getElem hi] at e
    simpa using e
theorem infoInt : (Try.prog.info? 3).map (fun i => (i.zero, i.size, i.bytes)) = some (some (.int .i64 0), 1, 8) := by kernel_rfl
theorem wpList_pushi {w : World} {ops : Array Oper} {rest : List Oper} {o : Oper} {a : Act} {Q : Exit → Act → World → Prop} (hgd : o.guard = none) (s x : Operand)
    (ho : o.op = .call { callee := .builtin .append, args := #[s, x], argTypes := #[32, 32] }) {B : Nat} {v : Value} {l : List Int} (hs : a.eval s = v) (hown : IntsOut w B v l)
    (g : Nat) (c : Nat) (n : Int) (hx : a.eval x = .slice (some ⟨g, 0, none⟩) 1 c) (hc : w.cell? ⟨g, 0, none⟩ = some (.int .i64 n)) (hr : l.length ≤ 10000000000000) (hB : B ≤ w.heap.size)
    (h : ∀ v' w', IntsOut w' B v' (l ++ [n]) → Mine v w v' w' → wpList Try.prog ops Q rest (a.put o.dst v') w') : wpList Try.prog ops Q (o :: rest) a w := by
  obtain ⟨i0, hi, hz0, hz1, hz2⟩ := info_parts infoInt
  refine wpList_append_blk w hgd s x 32 ho B 3 i0 _ 1 8 Try.underlying32 hi hz0 hz1 hz2 rfl (by decide) v _ _ hs hown ⟨g, 0, none⟩ 1 c [.int .i64 n] hx rfl ?_ ?_ (by unfold maxLen; omega) (by omega) hB fun v' w' h1 h2 => h v' w' ?_ h2
  · intro j u hj
    cases j with
    | zero => rw [add_off, hc]; simpa using hj
    | succ j => simp at hj
  · simp [Value.oneCell']
  · unfold IntsOut
    rw [List.length_append, show i64s (l ++ [n]) = i64s l ++ [.int .i64 n] by simp [i64s]]
    exact h1
/-- What a reading function hands back: numbers in a slice of its own, and whether there were any. -/
def IntsRes (B : Nat) (o : Option (List Int)) (e : Ending) (w' : World) : Prop := ∃ v, e = .returned (.tuple #[v, .bool o.isSome]) ∧ IntsOut w' B v (o.getD [])
theorem IntsRes.no (B : Nat) (w : World) : IntsRes B none (.returned (.tuple #[.slice none 0 0, .bool false])) w := ⟨_, rfl, IntsOut.nil w B⟩
theorem IntsRes.yes {B : Nat} {w : World} {l : List Int} {v : Value} (h : IntsOut w B v l) : IntsRes B (some l) (.returned (.tuple #[v, .bool true])) w := ⟨_, rfl, h⟩

end Go.Proofs.Ytgmabhfffgnjjaa
