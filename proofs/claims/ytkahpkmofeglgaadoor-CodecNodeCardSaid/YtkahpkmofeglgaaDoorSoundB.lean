/-
  PROVED HERE: what package codec's sound answers of any bytes: it tells just whether they are a sector with its sum that begins with a word. Conditions: the bytes can be read; the table may be used, and does not hold them.
-/
import Derived.Test.YtkahpkmofeglgaaDoorSound
namespace Go.Proofs.YtkahpkmofeglgaaDoor
open Go.RowKit

theorem drop4 {l : List Nat} (h : l.length = 256) : l.drop 252 = [l.getD 252 0, l.getD 253 0, l.getD 254 0, l.getD 255 0] := by
  apply List.ext_getElem?
  intro i
  rw [List.getElem?_drop]
  by_cases hi : i < 4
  · have e : l[252 + i]? = some (l.getD (252 + i) 0) := by rw [List.getD_eq_getElem?_getD, List.getElem?_eq_getElem (by omega)]; rfl
    rw [e]
    rcases i with _ | _ | _ | _ | i <;> first | rfl | omega
  · rw [List.getElem?_eq_none (by omega), List.getElem?_eq_none (by simp; omega)]
theorem sum_eq {l : List Nat} (h : l.length = 256) (n : Nat) : (((l.getD 252 0 : Nat) : Int) == ((n % 256 : Nat) : Int) && ((l.getD 253 0 : Nat) : Int) == ((n / 256 % 256 : Nat) : Int) && ((l.getD 254 0 : Nat) : Int) == ((n / 65536 % 256 : Nat) : Int) && ((l.getD 255 0 : Nat) : Int) == ((n / 16777216 % 256 : Nat) : Int)) = decide (l.drop 252 = le4 n) := by
  rw [drop4 h]
  have hi : ∀ a b : Nat, ((a : Int) == (b : Int)) = decide (a = b) := fun a b => by
    by_cases e : a = b
    · subst e; simp
    · simp [e]; omega
  simp only [hi, le4, List.cons.injEq, and_true, Bool.decide_and, Bool.and_assoc]
theorem bytes_take {l : List Nat} (h : BytesOk l) (s : ByteArray) (k : Nat) : (strOfNums ((l.take k).map fun n : Nat => (n : Int)) = s) ↔ l.take k = strBytes s := by
  have hd : strBytes (strOfNums ((l.take k).map fun n : Nat => (n : Int))) = l.take k := by
    unfold strBytes
    rw [strOfNums_data, List.map_map, List.map_map]
    apply List.ext_getElem?
    intro i
    simp only [List.getElem?_map]
    cases e : (l.take k)[i]? with
    | none => rfl
    | some x =>
      have : x < 256 := h x (List.mem_of_mem_take (List.mem_of_getElem? e))
      simp [Function.comp, Nat.mod_eq_of_lt this]
  constructor
  · rintro rfl; exact hd.symm
  · intro e
    rw [e] at hd
    apply Go.WideShapes.bytes_inj
    have hi : ∀ (a b : List UInt8), a.map UInt8.toNat = b.map UInt8.toNat → a = b := fun a b h => (List.map_inj_right (fun x y => UInt8.toNat_inj.1)).1 h
    rw [e]
    exact hi _ _ hd
theorem IsBytes.sub {w : World} {b o : Nat} {l : List Nat} (h : IsBytes w (some ⟨b, o, none⟩) l) (n : Nat) : IsBytes w (some ⟨b, o, none⟩) (l.take n) :=
  ⟨BytesOk.take h.1 n, fun i hi => by
    rw [List.length_take] at hi
    obtain ⟨b', o', e, hc⟩ := h.2 i (by omega)
    cases e
    exact ⟨b, o, rfl, by rw [List.getElem_take]; exact hc⟩⟩
theorem IsBytes.at {w : World} {b o : Nat} {l : List Nat} (h : IsBytes w (some ⟨b, o, none⟩) l) (i : Nat) (hi : i < l.length) : w.cell? ⟨b, o + i, none⟩ = some (.int .u8 (l.getD i 0 : Nat)) := by
  obtain ⟨b', o', e, hc⟩ := h.2 i hi
  cases e
  rw [← getD_of hi]; exact hc
theorem IsBytes.text {w : World} {b o : Nat} {l : List Nat} (h : IsBytes w (some ⟨b, o, none⟩) l) (k cap : Nat) (hk : k ≤ l.length) : (convert 27 9 (.slice (some ⟨b, o, none⟩) k cap)).run Tryd.prog w = .ok (.string (strOfNums ((l.take k).map fun n : Nat => (n : Int)))) w :=
  run_convert_bytes_arg (P := Tryd.prog) w 27 5 Tryd.underlying27 Tryd.underlying5 b o k cap _ (by simp; omega) (fun i hi => by
    rw [h.at i (by omega)]
    simp [List.getD_eq_getElem?_getD, hi]
    cases e : l[i]? with
    | none => rw [List.getElem?_eq_none_iff] at e; omega
    | some x => simp) 9 Tryd.underlying9
/-- The eyes of a sector. -/
theorem IsBytes.eyes {w : World} {b o cap : Nat} {l : List Nat} (h : IsBytes w (some ⟨b, o, none⟩) l) (hl : l.length = 256) : Eyes b o cap ((l.getD 252 0 : Nat) : Int) ((l.getD 253 0 : Nat) : Int) ((l.getD 254 0 : Nat) : Int) ((l.getD 255 0 : Nat) : Int) (strOfNums ((l.take 4).map fun n : Nat => (n : Int))) w :=
  ⟨h.at 252 (by omega), h.at 253 (by omega), h.at 254 (by omega), h.at 255 (by omega), h.text 4 cap (by omega)⟩
theorem soundSum {w : World} {t b o cap : Nat} {l : List Nat} (ht : TabOk w t) (hb : IsBytes w (some ⟨b, o, none⟩) l) (hne : b ≠ t) (hl : l.length = 256) :
    ∀ w', Upd [] w w' → Calls Tryd.prog 62 #[pt t, .slice (some ⟨b, o, none⟩) 252 cap] w' fun e w'' => e = .returned (.agg #[.int .u8 ((crc (l.take 252) % 256 : Nat) : Int), .int .u8 ((crc (l.take 252) / 256 % 256 : Nat) : Int), .int .u8 ((crc (l.take 252) / 65536 % 256 : Nat) : Int), .int .u8 ((crc (l.take 252) / 16777216 % 256 : Nat) : Int)]) ∧ IsTab w'' t 1 0 tword ∧ Upd [t] w' w'' := by
  intro w' u
  have hlt : (l.take 252).length = 252 := by rw [List.length_take]; omega
  have h := sum_any (cap := cap) (ht.upd u (by simp)) ((hb.sub 252).upd u (by simp)) (by rintro b' o' ⟨⟩; exact hne) (by omega)
  rw [hlt] at h
  refine h.mono ?_
  rintro e w'' ⟨rfl, r⟩
  exact ⟨by simp [u8s, le4], r⟩
theorem sound_true {w : World} {t : Nat} {a : Option Addr} {l : List Nat} {cap : Nat} {s : ByteArray} (ht : TabOk w t) (hb : IsBytes w a l) (hsep : ∀ b o, a = some ⟨b, o, none⟩ → b ≠ t) (hc : l.length ≤ cap) (hm : cap ≤ 9223372036854775807) (hs : soundL l (strBytes s) = true) :
    ∃ b o, a = some ⟨b, o, none⟩ ∧ Calls Tryd.prog 59 #[pt t, .slice a l.length cap, .string s] w fun e w' => e = .returned (.tuple #[.agg #[.slice (some ⟨b, o + 4, none⟩) 248 (cap - 4)], .bool true]) ∧ IsTab w' t 1 0 tword ∧ Upd [t] w w' := by
  unfold soundL at hs
  simp only [decide_eq_true_eq] at hs
  obtain ⟨hl, hsum, hw⟩ := hs
  obtain ⟨b, o, rfl, _⟩ := hb.2 0 (by omega)
  have hne := hsep b o rfl
  refine ⟨b, o, rfl, ?_⟩
  rw [hl]
  exact sound_yes (fun w' u => (hb.upd u (by rintro b' o' ⟨⟩; simpa using hne)).eyes hl) (by omega) hm ht.lt (soundSum ht hb hne hl) (by rw [sum_eq hl]; exact decide_eq_true hsum) ((bytes_take hb.1 s 4).2 hw)
theorem sound_false {w : World} {t : Nat} {a : Option Addr} {l : List Nat} {cap : Nat} {s : ByteArray} (ht : TabOk w t) (hb : IsBytes w a l) (hsep : ∀ b o, a = some ⟨b, o, none⟩ → b ≠ t) (hc : l.length ≤ cap) (hm : cap ≤ 9223372036854775807) (hs : soundL l (strBytes s) = false) :
    Calls Tryd.prog 59 #[pt t, .slice a l.length cap, .string s] w fun e w' => e = .returned (.tuple #[.agg #[.slice none 0 0], .bool false]) ∧ TabOk w' t ∧ Upd [t] w w' := by
  by_cases hl : l.length = 256
  · obtain ⟨b, o, rfl, _⟩ := hb.2 0 (by omega)
    have hne := hsep b o rfl
    unfold soundL at hs
    simp only [decide_eq_false_iff_not] at hs
    have hE : ∀ w', Upd [t] w w' → Eyes b o cap ((l.getD 252 0 : Nat) : Int) ((l.getD 253 0 : Nat) : Int) ((l.getD 254 0 : Nat) : Int) ((l.getD 255 0 : Nat) : Int) (strOfNums ((l.take 4).map fun n : Nat => (n : Int))) w' := fun w' u => (hb.upd u (by rintro b' o' ⟨⟩; simpa using hne)).eyes hl
    rw [hl]
    by_cases hsum : l.drop 252 = le4 (crc (l.take 252))
    · refine (sound_no_word hE (by omega) hm ht.lt (soundSum ht hb hne hl) (by rw [sum_eq hl]; exact decide_eq_true hsum) (fun e => hs ⟨hl, hsum, (bytes_take hb.1 s 4).1 e⟩)).mono ?_
      rintro e w' ⟨rfl, h1, h2⟩
      exact ⟨rfl, .inr h1, h2⟩
    · refine (sound_no_sum hE (by omega) hm ht.lt (soundSum ht hb hne hl) (by rw [sum_eq hl]; exact decide_eq_false hsum)).mono ?_
      rintro e w' ⟨rfl, h1, h2⟩
      exact ⟨rfl, .inr h1, h2⟩
  · refine (sound_len (t := some ⟨t, 0, none⟩) (.inr (by omega)) (by omega)).mono ?_
    rintro e w' ⟨rfl, u⟩
    exact ⟨rfl, ht.upd u (by simp), u.mono (by simp)⟩
end Go.Proofs.YtkahpkmofeglgaaDoor
