/-
  PROVED HERE: bytes.Trim at the cutset of one nought: empty just if there are noughts alone. A reader is bare just then. Conditions: the bytes can be read.
-/
import Derived.Test.YtpnpjffhkaejgaaDoorReader
import Derived.BigQuiet
namespace Go.Proofs.YtpnpjffhkaejgaaDoor
open Go.RowKit

theorem last_nonzero (l : List Nat) : ∃ m, m ≤ l.length ∧ (∀ i, m ≤ i → l.getD i 0 = 0) ∧ (m = 0 ∨ l.getD (m - 1) 0 ≠ 0) := by
  have : ∀ n, (∀ i, n ≤ i → l.getD i 0 = 0) → ∃ m, m ≤ n ∧ (∀ i, m ≤ i → l.getD i 0 = 0) ∧ (m = 0 ∨ l.getD (m - 1) 0 ≠ 0) := by
    intro n
    induction n with
    | zero => exact fun h => ⟨0, Nat.le_refl _, h, .inl rfl⟩
    | succ n ih =>
      intro h
      by_cases h0 : l.getD n 0 = 0
      · obtain ⟨m, hm, r⟩ := ih fun i hi => by
          by_cases e : i = n
          · rw [e]; exact h0
          · exact h i (by omega)
        exact ⟨m, by omega, r⟩
      · exact ⟨n + 1, Nat.le_refl _, h, .inr h0⟩
  exact this l.length fun i hi => by rw [List.getD_eq_getElem?_getD, List.getElem?_eq_none hi]; rfl
theorem first_nonzero (l : List Nat) (k : Nat) (hk : l.getD k 0 ≠ 0) : ∃ z, z ≤ k ∧ (∀ i, i < z → l.getD i 0 = 0) ∧ l.getD z 0 ≠ 0 := by
  have : ∀ d n, n + d = k → (∀ i, i < n → l.getD i 0 = 0) → ∃ z, z ≤ k ∧ (∀ i, i < z → l.getD i 0 = 0) ∧ l.getD z 0 ≠ 0 := by
    intro d
    induction d with
    | zero => intro n hn h; exact ⟨n, by omega, h, by rw [show n = k by omega]; exact hk⟩
    | succ d ih =>
      intro n hn h
      by_cases h0 : l.getD n 0 = 0
      · exact ih (n + 1) (by omega) fun i hi => by
          by_cases e : i = n
          · rw [e]; exact h0
          · exact h i (by omega)
      · exact ⟨n, by omega, h, h0⟩
  exact this k 0 (by omega) fun i hi => by omega
set_option maxRecDepth 100000 in
set_option maxHeartbeats 1600000 in
theorem trimRight_any {w : World} {a : Option Addr} {l : List Nat} {cap m : Nat} (hb : IsBytes w a l) (hm : m ≤ l.length) (hz : ∀ i, m ≤ i → l.getD i 0 = 0) (hn : m = 0 ∨ l.getD (m - 1) 0 ≠ 0) (hc : l.length ≤ cap) (hl : cap ≤ 9223372036854775807) :
    Calls Tryd.prog 55 #[.slice a l.length cap, .int .u8 0] w fun e w' => e = .returned (.slice a m cap) ∧ w' = w := by
  have HB := Lib.hid hb
  have HZ := Lib.hid hz
  have HN := Lib.hid hn
  clear hb hz hn
  go_enter Tryd.func55, Tryd.ntmps55
  go_wp2
  go_loop [0] (fun s => ∃ n : Nat, m ≤ n ∧ n ≤ l.length ∧ s = .slice a n cap) (fun s => (match s with | .slice _ n _ => n | _ => 0))
  case atStart => exact ⟨l.length, hm, Nat.le_refl _, rfl⟩
  case round =>
    obtain ⟨n, hmn, hnl, rfl⟩ := hrel
    by_cases h0 : n = 0
    · subst h0
      obtain rfl : m = 0 := by omega
      go_wp2
      go_ret
      exact ⟨rfl, rfl⟩
    · have hn1 : ((n : Int) - 1).toNat = n - 1 := by omega
      obtain ⟨b, o, rfl, hcell⟩ := HB.out.2 (n - 1) (by omega)
      rw [getD_of (show n - 1 < l.length by omega)] at hcell
      by_cases hlt : m < n
      · have h00 := HZ.out (n - 1) (by omega)
        rw [h00] at hcell
        clear h00
        go_wp2
        go_round
        case rel => exact ⟨n - 1, by omega, by omega, by first | rfl | (congr 1; omega)⟩
        case measure => simp; omega
      · obtain rfl : m = n := by omega
        have h00 : l.getD (m - 1) 0 ≠ 0 := by
          rcases HN.out with h | h
          · exact absurd h h0
          · exact h
        generalize l.getD (m - 1) 0 = x at *
        have hx : ¬ ((x : Int) = 0) := by omega
        go_wp2
        go_ret
        exact ⟨rfl, rfl⟩
theorem trimLeft_nil {w : World} {a : Option Addr} {cap : Nat} :
    Calls Tryd.prog 54 #[.slice a 0 cap, .int .u8 0] w fun e w' => e = .returned (.slice none 0 0) ∧ w' = w := by
  go_enter Tryd.func54, Tryd.ntmps54
  go_wp2
  go_loop [0] (fun s => s = .slice a 0 cap) (fun _ => 0)
  case atStart => rfl
  case round =>
    subst hrel
    go_wp2
    go_ret
    exact ⟨rfl, rfl⟩
set_option maxRecDepth 100000 in
set_option maxHeartbeats 1600000 in
theorem trimLeft_any {w : World} {b o : Nat} {l : List Nat} {cap z : Nat} (hb : IsBytes w (some ⟨b, o, none⟩) l) (hzl : z < l.length) (hz : ∀ i, i < z → l.getD i 0 = 0) (hn : l.getD z 0 ≠ 0) (hc : l.length ≤ cap) (hl : cap ≤ 9223372036854775807) :
    Calls Tryd.prog 54 #[.slice (some ⟨b, o, none⟩) l.length cap, .int .u8 0] w fun e w' => e = .returned (.slice (some ⟨b, o + z, none⟩) (l.length - z) (cap - z)) ∧ w' = w := by
  have HB := Lib.hid hb
  have HZ := Lib.hid hz
  have HN := Lib.hid hn
  clear hb hz hn
  go_enter Tryd.func54, Tryd.ntmps54
  go_wp2
  go_loop [0] (fun s => ∃ j : Nat, j ≤ z ∧ s = .slice (some ⟨b, o + j, none⟩) (l.length - j) (cap - j)) (fun s => (match s with | .slice _ n _ => n | _ => 0))
  case atStart => exact ⟨0, Nat.zero_le _, rfl⟩
  case round =>
    obtain ⟨j, hj, rfl⟩ := hrel
    obtain ⟨b', o', e, hcell⟩ := HB.out.2 j (by omega)
    cases e
    rw [getD_of (show j < l.length by omega)] at hcell
    have hp : 0 < l.length - j := by omega
    have hp1 : 1 ≤ l.length - j := by omega
    have hp2 : l.length - j ≤ cap - j := by omega
    have hp3 : cap - j ≤ 9223372036854775807 := by omega
    by_cases hlt : j < z
    · have h00 := HZ.out j hlt
      rw [h00] at hcell
      clear h00
      have hp4 : ¬ cap - j = 1 := by omega
      go_wp2
      go_round
      case rel => exact ⟨j + 1, by omega, by rw [Nat.sub_sub, Nat.sub_sub, Nat.add_assoc]⟩
      case measure => simp; omega
    · obtain rfl : j = z := by omega
      have h00 := HN.out
      generalize l.getD j 0 = x at *
      have hx : ¬ ((x : Int) = 0) := by omega
      go_wp2
      go_ret
      exact ⟨rfl, rfl⟩
/-- Noughts alone? -/
def bare (l : List Nat) : Bool := l.all (· == 0)
theorem bare_iff (l : List Nat) : bare l = true ↔ ∀ i, l.getD i 0 = 0 := by
  unfold bare
  rw [List.all_eq_true]
  constructor
  · intro h i
    rw [List.getD_eq_getElem?_getD]
    cases e : l[i]? with
    | none => rfl
    | some x => simpa using h x (List.mem_of_getElem? e)
  · intro h x hx
    obtain ⟨i, hi, rfl⟩ := List.mem_iff_getElem.1 hx
    rw [getD_of hi, h i]; rfl
set_option maxRecDepth 100000 in
set_option maxHeartbeats 1600000 in
theorem trim_any {w : World} {a : Option Addr} {l : List Nat} {cap : Nat} (hb : IsBytes w a l) (hc : l.length ≤ cap) (hl : cap ≤ 9223372036854775807) :
    Calls Tryd.prog 48 #[.slice a l.length cap, .string ⟨#[0]⟩] w fun e w' => (∃ a' n c, e = .returned (.slice a' n c) ∧ n ≤ 9223372036854775807 ∧ decide (n = 0) = bare l) ∧ Upd [] w w' := by
  obtain ⟨m, hm, hz, hn⟩ := last_nonzero l
  have HB := Lib.hid hb
  have HR : Hid (∀ w', Upd [] w w' → Calls Tryd.prog 55 #[.slice a l.length cap, .int .u8 0] w' fun e w'' => e = .returned (.slice a m cap) ∧ w'' = w') := fun w' u => trimRight_any (hb.upd u (by simp)) hm hz hn hc hl
  by_cases h0 : l.length = 0
  · have hb0 : bare l = true := by rw [List.length_eq_zero_iff.1 h0]; rfl
    have HB0 := Lib.hid hb0
    clear hb hz hn hb0
    go_enter Tryd.func48, Tryd.ntmps48
    rw [h0]
    go_wp2
    go_ret
    exact ⟨⟨_, _, _, rfl, by decide, by rw [HB0.out]; rfl⟩, Upd.refl _ _⟩
  · have hg0 : ((⟨#[0]⟩ : ByteArray)[0]'Nat.zero_lt_one) = 0 := rfl
    by_cases hm0 : m = 0
    · subst hm0
      have HB0 := Lib.hid ((bare_iff l).2 fun i => hz i (Nat.zero_le _))
      have HL : Hid (∀ w', Calls Tryd.prog 54 #[.slice a 0 cap, .int .u8 0] w' fun e w'' => e = .returned (.slice none 0 0) ∧ w'' = w') := fun w' => trimLeft_nil
      clear hb hz hn
      go_enter Tryd.func48, Tryd.ntmps48
      go_wp2
      go_quiet (first | (go_at_call 55; exact Calls.quiet_of_same (HR.out _ ⟨rfl, rfl, rfl, Nat.le_refl _, fun _ _ _ => rfl⟩)) | (go_at_call 54; exact Calls.quiet_of_same (HL.out _)))
      go_wp2
      go_ret
      exact ⟨⟨_, _, _, rfl, by decide, by rw [HB0.out]; rfl⟩, ⟨rfl, rfl, rfl, Nat.le_refl _, fun _ _ _ => rfl⟩⟩
    · have hnz : l.getD (m - 1) 0 ≠ 0 := by
        rcases hn with h | h
        · exact absurd h hm0
        · exact h
      obtain ⟨z, hzm, hzz, hzn⟩ := first_nonzero l (m - 1) hnz
      obtain ⟨b, o, rfl, hc0⟩ := hb.2 0 (by omega)
      clear hc0
      have htl : (l.take m).length = m := by rw [List.length_take]; omega
      have hbt : IsBytes w (some ⟨b, o, none⟩) (l.take m) := ⟨BytesOk.take hb.1 m, fun i hi => by
        rw [htl] at hi
        obtain ⟨b', o', e, hcell⟩ := hb.2 i (by omega)
        exact ⟨b', o', e, by rw [List.getElem_take]; exact hcell⟩⟩
      have hgt : ∀ i, i < m → (l.take m).getD i 0 = l.getD i 0 := fun i hi => by rw [List.getD_eq_getElem?_getD, List.getD_eq_getElem?_getD, List.getElem?_take_of_lt hi]
      have HL : Hid (∀ w', Upd [] w w' → Calls Tryd.prog 54 #[.slice (some ⟨b, o, none⟩) m cap, .int .u8 0] w' fun e w'' => e = .returned (.slice (some ⟨b, o + z, none⟩) (m - z) (cap - z)) ∧ w'' = w') := fun w' u => by
        have := trimLeft_any (z := z) (cap := cap) (hbt.upd u (by simp)) (by omega) (fun i hi => by rw [hgt i (by omega)]; exact hzz i hi) (by rw [hgt z (by omega)]; exact hzn) (by omega) hl
        rw [htl] at this
        exact this
      have hnb : bare l = false := by
        cases hbb : bare l with
        | false => rfl
        | true => exact absurd ((bare_iff l).1 hbb z) hzn
      have HB0 := Lib.hid hnb
      clear hb hz hn hnz hzz hzn htl hbt hgt hnb
      go_enter Tryd.func48, Tryd.ntmps48
      go_wp2
      go_quiet (first | (go_at_call 55; exact Calls.quiet_of_same (HR.out _ ⟨rfl, rfl, rfl, Nat.le_refl _, fun _ _ _ => rfl⟩)) | (go_at_call 54; exact Calls.quiet_of_same (HL.out _ ⟨rfl, rfl, rfl, Nat.le_refl _, fun _ _ _ => rfl⟩)))
      go_wp2
      go_ret
      exact ⟨⟨_, _, _, rfl, by omega, by rw [HB0.out]; simp; omega⟩, ⟨rfl, rfl, rfl, Nat.le_refl _, fun _ _ _ => rfl⟩⟩
set_option maxRecDepth 100000 in
set_option maxHeartbeats 1600000 in
theorem bare_any {w : World} {r : Nat} {q : Option Nat} {l : List Nat} (h : IsRd w r q l) :
    Calls Tryd.prog 40 #[pt r] w fun e w' => e = .returned (.bool (bare l)) ∧ Upd [] w w' := by
  obtain ⟨⟨a, cap, hb, hy, hc, hm, hq⟩, hne⟩ := h
  have hcell := (cells_of hb).1 0
  have hfz := (cells_of hb).2 0
  simp only [List.getElem?_toArray, List.getElem?_cons_zero] at hcell
  unfold maxLen at hm
  have HY := Lib.hid hy
  clear hb hy hq hne
  go_enter Tryd.func40, Tryd.ntmps40
  go_wp2_with fail
  refine (trim_any HY.out hc (by omega)).mono ?_
  rintro e w1 ⟨⟨a', n, c, rfl, hn, hbr⟩, u⟩
  have HBR := Lib.hid hbr
  have HU := Lib.hid u
  clear hbr u
  go_wp2
  go_ret
  rw [← HBR.out]
  exact ⟨by by_cases h : n = 0 <;> simp [h], HU.out⟩
end Go.Proofs.YtpnpjffhkaejgaaDoor
