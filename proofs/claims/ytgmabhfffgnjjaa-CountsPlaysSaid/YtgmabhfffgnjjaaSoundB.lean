/-
  PROVED HERE: whether bytes are a sector that begins with a word, and its sum. Conditions: the bytes can be read; the table may be used, and does not hold them.
  PROVED HERE: what package codec's sound answers of any bytes: it tells just whether they are a sector with its sum that begins with a word. Conditions: the bytes can be read; the table may be used, and does not hold them.
-/
import Derived.Test.YtgmabhfffgnjjaaTrim
import Derived.Deep.RegionHeld3
import Derived.Laws.BytesArg
import Derived.Laws.ResultCell
namespace Go.Proofs.Ytgmabhfffgnjjaa
open Go.RowKit

theorem toList_ne {a b : ByteArray} (h : ¬ a = b) : (a.toList == b.toList) = false := by
  simp only [ByteArray.toList_eq, beq_eq_false_iff_ne]
  exact fun e => h (Go.WideShapes.bytes_inj e)
theorem buildRd (a : Option Addr) (n c : Nat) (w : World) : (Instr.build 70 #[(0, .slice a n c)]).run Try.prog w = .ok (.agg #[.slice a n c]) w := run_build w _ _ _ (by kernel_rfl)
theorem buildRd0 (w : World) : (Instr.build 70 #[]).run Try.prog w = .ok (.agg #[.slice none 0 0]) w := run_build w _ _ _ (by kernel_rfl)
/-- What a function returns whose results are a struct in a cell's block and a slot. -/
theorem results_block_tmp {P : Program} {fn : Func} {p u : Tmp} {ty : TypeId} (h : fn.results = #[.cell p ty, .tmp u]) (tmps : Array Value) (w : World) (g n : Nat) (t : TypeId) (cs : Array Value) (fr : Nat × Nat) (d : TypeDesc)
    (hp : tmps.getD p undef = .pointer (some ⟨g, 0, none⟩)) (hg : w.heap[g]? = some (.cells cs t fr)) (hu : P.underlying ty = some d) (hd : (match d with | .struct _ | .array _ _ => true | _ => false) = true)
    (hi : (P.info? ty).map (·.size) = some n) (hn : cs.size = n) : (results fn tmps).run P w = .ok (.tuple #[.agg cs, tmps.getD u undef]) w := by
  subst hn
  have hl := run_loadVar_row (P := P) w g t ty cs fr d hg hu (by cases d <;> simp_all) hi
  rw [results_cell_tmp h, hp]
  simp only [asAddr, Sem.run_pure, Result.andThen_ok, hl]
/-- What is read: the four cells of the sum, and the word. -/
def Eyes (b o cap : Nat) (x0 x1 x2 x3 : Int) (z : ByteArray) (w : World) : Prop :=
  w.cell? ⟨b, o + 252, none⟩ = some (.int .u8 x0) ∧ w.cell? ⟨b, o + 252 + 1, none⟩ = some (.int .u8 x1) ∧ w.cell? ⟨b, o + 252 + 2, none⟩ = some (.int .u8 x2) ∧ w.cell? ⟨b, o + 252 + 3, none⟩ = some (.int .u8 x3) ∧
  (convert 23 9 (.slice (some ⟨b, o, none⟩) 4 cap)).run Try.prog w = .ok (.string z) w
/-- A sector with its sum, that begins with a word? -/
def soundL (l : List Nat) (word : List Nat) : Bool := decide (l.length = 256 ∧ l.drop 252 = le4 (crc (l.take 252)) ∧ l.take 4 = word)
end Go.Proofs.Ytgmabhfffgnjjaa
namespace Go.Proofs.Ytgmabhfffgnjjaa
open Go.RowKit

theorem drop4 {l : List Nat} (h : l.length = 256) : l.drop 252 = [l.getD 252 0, l.getD 253 0, l.getD 254 0, l.getD 255 0] := by
  apply List.ext_getElem?
  intro i
  rw [List.getElem?_drop]
  by_cases hi : i < 4
  · have e : l[252 + i]? = some (l.getD (252 + i) 0) := by rw [List.getD_eq_getElem?_getD, List.getElem?_eq_getElem (by omega)]; rfl
    rw [e]
    rcases i with _ | _ | _ | _ | i <;> first | rfl | omega
  · rw [List.getElem?_eq_none (by omega), List.getElem?_eq_none (by simp; omega)]
theorem sum_eq {l : List Nat} (h : l.length = 256) (n : Nat) : (((l.getD 252 0 : Nat) : Int) == ((n % 256 : Nat) : Int) && ((l.getD 253 0 : Nat) : Int) == ((n / 256 % 256 : Nat) : Int) && ((l.getD 254 0 : Nat) : Int) == ((n / 65536 % 256 : Nat) : Int) && ((l.getD 255 0 : Nat) : Int) == ((n / 16777216 % 256 : Nat) : Int)) = decide (l.drop 252 = le4 n) := by
  rw [drop4 h]
  have hi : ∀ a b : Nat, ((a : Int) == (b : Int)) = decide (a = b) := fun a b => by
    by_cases e : a = b
    · subst e; simp
    · simp [e]; omega
  simp only [hi, le4, List.cons.injEq, and_true, Bool.decide_and, Bool.and_assoc]
theorem bytes_take {l : List Nat} (h : BytesOk l) (s : ByteArray) (k : Nat) : (strOfNums ((l.take k).map fun n : Nat => (n : Int)) = s) ↔ l.take k = strBytes s := by
  have hd : strBytes (strOfNums ((l.take k).map fun n : Nat => (n : Int))) = l.take k := by
    unfold strBytes
    rw [strOfNums_data, List.map_map, List.map_map]
    apply List.ext_getElem?
    intro i
    simp only [List.getElem?_map]
    cases e : (l.take k)[i]? with
    | none => rfl
    | some x =>
      have : x < 256 := h x (List.mem_of_mem_take (List.mem_of_getElem? e))
      simp [Function.comp, Nat.mod_eq_of_lt this]
  constructor
  · rintro rfl; exact hd.symm
  · intro e
    rw [e] at hd
    apply Go.WideShapes.bytes_inj
    have hi : ∀ (a b : List UInt8), a.map UInt8.toNat = b.map UInt8.toNat → a = b := fun a b h => (List.map_inj_right (fun x y => UInt8.toNat_inj.1)).1 h
    rw [e]
    exact hi _ _ hd
theorem IsBytes.sub {w : World} {b o : Nat} {l : List Nat} (h : IsBytes w (some ⟨b, o, none⟩) l) (n : Nat) : IsBytes w (some ⟨b, o, none⟩) (l.take n) :=
  ⟨BytesOk.take h.1 n, fun i hi => by
    rw [List.length_take] at hi
    obtain ⟨b', o', e, hc⟩ := h.2 i (by omega)
    cases e
    exact ⟨b, o, rfl, by rw [List.getElem_take]; exact hc⟩⟩
theorem IsBytes.at {w : World} {b o : Nat} {l : List Nat} (h : IsBytes w (some ⟨b, o, none⟩) l) (i : Nat) (hi : i < l.length) : w.cell? ⟨b, o + i, none⟩ = some (.int .u8 (l.getD i 0 : Nat)) := by
  obtain ⟨b', o', e, hc⟩ := h.2 i hi
  cases e
  rw [← getD_of hi]; exact hc
theorem IsBytes.text {w : World} {b o : Nat} {l : List Nat} (h : IsBytes w (some ⟨b, o, none⟩) l) (k cap : Nat) (hk : k ≤ l.length) : (convert 23 9 (.slice (some ⟨b, o, none⟩) k cap)).run Try.prog w = .ok (.string (strOfNums ((l.take k).map fun n : Nat => (n : Int)))) w :=
  run_convert_bytes_arg (P := Try.prog) w 23 5 Try.underlying23 Try.underlying5 b o k cap _ (by simp; omega) (fun i hi => by
    rw [h.at i (by omega)]
    simp [List.getD_eq_getElem?_getD, hi]
    cases e : l[i]? with
    | none => rw [List.getElem?_eq_none_iff] at e; omega
    | some x => simp) 9 Try.underlying9
/-- The eyes of a sector. -/
theorem IsBytes.eyes {w : World} {b o cap : Nat} {l : List Nat} (h : IsBytes w (some ⟨b, o, none⟩) l) (hl : l.length = 256) : Eyes b o cap ((l.getD 252 0 : Nat) : Int) ((l.getD 253 0 : Nat) : Int) ((l.getD 254 0 : Nat) : Int) ((l.getD 255 0 : Nat) : Int) (strOfNums ((l.take 4).map fun n : Nat => (n : Int))) w :=
  ⟨h.at 252 (by omega), h.at 253 (by omega), h.at 254 (by omega), h.at 255 (by omega), h.text 4 cap (by omega)⟩
end Go.Proofs.Ytgmabhfffgnjjaa
