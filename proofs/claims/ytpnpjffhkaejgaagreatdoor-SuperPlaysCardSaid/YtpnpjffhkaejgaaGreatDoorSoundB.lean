/-
  PROVED HERE: what package codec's reader does: numbers are taken from the bytes that are left. Conditions: the reader's block is its own, and does not hold the bytes; as many are left as are taken.
  PROVED HERE: bytes.Trim at the cutset of one nought: empty just if there are noughts alone. A reader is bare just then. Conditions: the bytes can be read.
  PROVED HERE: whether bytes are a sector that begins with a word, and its sum. Conditions: the bytes can be read; the table may be used, and does not hold them.
  PROVED HERE: what package codec's sound answers of any bytes: it tells just whether they are a sector with its sum that begins with a word. Conditions: the bytes can be read; the table may be used, and does not hold them.
-/
import Derived.Test.YtpnpjffhkaejgaaGreatDoorFramed
import Derived.BigQuiet
import Derived.Deep.RegionHeld3
import Derived.Laws.BytesArg
import Derived.Laws.ResultCell
namespace Go.Proofs.YtpnpjffhkaejgaaGreatDoor
open Go.RowKit

/-- Block r is a reader of which the bytes l are left; they lie in block q. -/
structure IsRd (w : World) (r : Nat) (q : Option Nat) (l : List Nat) : Prop where
  blk : ∃ a cap, w.heap[r]? = some (.cells #[.slice a l.length cap] 102 (0, 0)) ∧ IsBytes w a l ∧ l.length ≤ cap ∧ cap ≤ maxLen ∧ (∀ b o, a = some ⟨b, o, none⟩ → some b = q)
  ne : some r ≠ q
theorem IsRd.upd {w w' : World} {r : Nat} {q : Option Nat} {l : List Nat} {S : List Nat} (h : IsRd w r q l) (u : Upd S w w') (hr : r ∉ S) (hq : ∀ b, q = some b → b ∉ S) : IsRd w' r q l := by
  obtain ⟨⟨a, cap, hb, hy, h1, h2, h3⟩, h4⟩ := h
  exact ⟨⟨a, cap, u.get hb hr, hy.upd u (fun b o e => hq b (h3 b o e).symm), h1, h2, h3⟩, h4⟩
theorem IsBytes.drop {w : World} {b o : Nat} {l : List Nat} (h : IsBytes w (some ⟨b, o, none⟩) l) (k : Nat) : IsBytes w (some ⟨b, o + k, none⟩) (l.drop k) :=
  ⟨BytesOk.drop h.1 k, fun i hi => by
    rw [List.length_drop] at hi
    obtain ⟨b', o', e, hc⟩ := h.2 (k + i) (by omega)
    cases e
    exact ⟨b, o + k, rfl, by rw [List.getElem_drop, Nat.add_assoc]; exact hc⟩⟩
theorem IsRd.moved {w : World} {r n cap' : Nat} {q : Option Nat} {x : Value} {a' : Option Addr} {l' : List Nat} (hb : w.heap[r]? = some (.cells #[x] 102 (0, 0))) (hy : IsBytes w a' l') (hn : n = l'.length)
    (hc : n ≤ cap') (hm : cap' ≤ maxLen) (hq : ∀ b o, a' = some ⟨b, o, none⟩ → some b = q) (hne : some r ≠ q) : IsRd (w.setCell ⟨r, 0, none⟩ (.slice a' n cap')) r q l' ∧ Upd [r] w (w.setCell ⟨r, 0, none⟩ (.slice a' n cap')) := by
  subst hn
  have hu : Upd [r] w (w.setCell ⟨r, 0, none⟩ (.slice a' l'.length cap')) := (Upd.refl _ _).setCell (.inl (by simp)) _
  refine ⟨⟨⟨a', cap', by simpa using heap_setCell_same w r 0 _ _ (.slice a' l'.length cap') hb, hy.upd hu fun b o e hm => ?_, hc, hm, hq⟩, hne⟩, hu⟩
  rw [List.mem_singleton] at hm
  subst hm
  exact hne (hq _ _ e)
theorem numi_snoc {l : List Nat} {b : Nat} (hm : num l < 72057594037927936) (hb : b < 256) : numi (l ++ [b]) = bits .or .i64 (wrap64 ((num l : Int) * 256)) (b : Int) := by
  rw [shift_or _ _ hm hb]; unfold numi; rw [num_snoc]
set_option maxRecDepth 100000 in
set_option maxHeartbeats 1600000 in
theorem get_any {w : World} {r k : Nat} {q : Option Nat} {l : List Nat} (h : IsRd w r q l) (hk : k ≤ 8) (h1 : k ≤ l.length) :
    Calls Tryz.prog 48 #[pt r, .int .i64 k] w fun e w' => e = .returned (.int .i64 (numi (l.take k))) ∧ IsRd w' r q (l.drop k) ∧ Upd [r] w w' := by
  obtain ⟨⟨a, cap, hb, hy, hc, hm, hq⟩, hne⟩ := h
  have hcell := (cells_of hb).1 0
  have hfz := (cells_of hb).2 0
  simp only [List.getElem?_toArray, List.getElem?_cons_zero] at hcell
  unfold maxLen at hm
  have HB := Lib.hid hb
  have HY := Lib.hid hy
  have HQ := Lib.hid hq
  have HNE := Lib.hid hne
  clear hb hy hq hne
  go_enter Tryz.func48, Tryz.ntmps48
  go_wp2
  go_loop [5, 7, 15] (fun n _ i => ∃ j : Nat, j ≤ k ∧ i = .int .i64 j ∧ n = .int .i64 (numi (l.take j))) (fun _ _ i => k - (intOf i).toNat)
  case atStart => exact ⟨0, by omega, rfl, by rw [List.take_zero, numi_nil]⟩
  case round =>
    obtain ⟨j, hj, rfl, rfl⟩ := hrel
    by_cases hlt : j < k
    · obtain ⟨b, o, rfl, hcj⟩ := HY.out.2 j (by omega)
      have hv := HY.out.1 l[j] (List.getElem_mem (by omega))
      have ht : BytesOk (l.take j) := BytesOk.take HY.out.1 j
      have hn := num_lt ht
      have hp : 256 ^ (l.take j).length ≤ 256 ^ 7 := Nat.pow_le_pow_right (by decide) (by rw [List.length_take]; omega)
      have h7 : (256 : Nat) ^ 7 = 72057594037927936 := by decide
      have hm7 : num (l.take j) < 72057594037927936 := by omega
      have hst : numi (l.take (j + 1)) = bits .or .i64 (wrap64 ((num (l.take j) : Int) * 256)) (l[j] : Int) := by
        rw [List.take_succ_eq_append_getElem (by omega), numi_snoc hm7 hv]
      have hni := numi_eq ht (by rw [List.length_take]; omega)
      rw [hni]
      have HST := Lib.hid hst
      clear hn hp h7 hni hst ht
      generalize num (l.take j) = m at *
      generalize l[j] = v at *
      go_wp2
      go_round
      case rel => exact ⟨j + 1, by omega, by go_num, by rw [HST.out]⟩
      case measure => simp [intOf]; omega
    · obtain rfl : j = k := by omega
      go_wp2
      all_goals go_ret
      · subst h
        have e : l.drop cap = [] := List.drop_eq_nil_of_le hc
        have := IsRd.moved (l' := l.drop cap) (a' := a) (n := l.length - cap) (cap' := 0) HB.out ⟨BytesOk.drop HY.out.1 _, fun i hi => by rw [e] at hi; cases hi⟩ (by simp) (by omega) (by decide) HQ.out HNE.out
        exact ⟨rfl, this.1, this.2⟩
      · have hy : IsBytes w (Option.map (fun x => x.add j) a) (l.drop j) := by
          refine ⟨BytesOk.drop HY.out.1 _, fun i hi => ?_⟩
          rw [List.length_drop] at hi
          obtain ⟨b, o, rfl, hcj⟩ := HY.out.2 (j + i) (by omega)
          exact ⟨b, o + j, by simp [add_off], by rw [List.getElem_drop, Nat.add_assoc]; exact hcj⟩
        have hq : ∀ b o, Option.map (fun x => Addr.add x j) a = some ⟨b, o, none⟩ → some b = q := by
          intro b o e
          by_cases h0 : j = 0
          · subst h0
            refine HQ.out b o ?_
            cases a with
            | none => simp at e
            | some x => simpa [Addr.add] using e
          · obtain ⟨b', o', rfl, _⟩ := HY.out.2 0 (by omega)
            rw [Option.map_some, add_off] at e
            cases e
            exact HQ.out _ _ rfl
        have := IsRd.moved (l' := l.drop j) (n := l.length - j) (cap' := cap - j) HB.out hy (by simp) (by omega) (by unfold maxLen; omega) hq HNE.out
        exact ⟨rfl, this.1, this.2⟩
end Go.Proofs.YtpnpjffhkaejgaaGreatDoor
namespace Go.Proofs.YtpnpjffhkaejgaaGreatDoor
open Go.RowKit

theorem last_nonzero (l : List Nat) : ∃ m, m ≤ l.length ∧ (∀ i, m ≤ i → l.getD i 0 = 0) ∧ (m = 0 ∨ l.getD (m - 1) 0 ≠ 0) := by
  have : ∀ n, (∀ i, n ≤ i → l.getD i 0 = 0) → ∃ m, m ≤ n ∧ (∀ i, m ≤ i → l.getD i 0 = 0) ∧ (m = 0 ∨ l.getD (m - 1) 0 ≠ 0) := by
    intro n
    induction n with
    | zero => exact fun h => ⟨0, Nat.le_refl _, h, .inl rfl⟩
    | succ n ih =>
      intro h
      by_cases h0 : l.getD n 0 = 0
      · obtain ⟨m, hm, r⟩ := ih fun i hi => by
          by_cases e : i = n
          · rw [e]; exact h0
          · exact h i (by omega)
        exact ⟨m, by omega, r⟩
      · exact ⟨n + 1, Nat.le_refl _, h, .inr h0⟩
  exact this l.length fun i hi => by rw [List.getD_eq_getElem?_getD, List.getElem?_eq_none hi]; rfl
theorem first_nonzero (l : List Nat) (k : Nat) (hk : l.getD k 0 ≠ 0) : ∃ z, z ≤ k ∧ (∀ i, i < z → l.getD i 0 = 0) ∧ l.getD z 0 ≠ 0 := by
  have : ∀ d n, n + d = k → (∀ i, i < n → l.getD i 0 = 0) → ∃ z, z ≤ k ∧ (∀ i, i < z → l.getD i 0 = 0) ∧ l.getD z 0 ≠ 0 := by
    intro d
    induction d with
    | zero => intro n hn h; exact ⟨n, by omega, h, by rw [show n = k by omega]; exact hk⟩
    | succ d ih =>
      intro n hn h
      by_cases h0 : l.getD n 0 = 0
      · exact ih (n + 1) (by omega) fun i hi => by
          by_cases e : i = n
          · rw [e]; exact h0
          · exact h i (by omega)
      · exact ⟨n, by omega, h, h0⟩
  exact this k 0 (by omega) fun i hi => by omega
set_option maxRecDepth 100000 in
set_option maxHeartbeats 1600000 in
theorem trimRight_any {w : World} {a : Option Addr} {l : List Nat} {cap m : Nat} (hb : IsBytes w a l) (hm : m ≤ l.length) (hz : ∀ i, m ≤ i → l.getD i 0 = 0) (hn : m = 0 ∨ l.getD (m - 1) 0 ≠ 0) (hc : l.length ≤ cap) (hl : cap ≤ 9223372036854775807) :
    Calls Tryz.prog 66 #[.slice a l.length cap, .int .u8 0] w fun e w' => e = .returned (.slice a m cap) ∧ w' = w := by
  have HB := Lib.hid hb
  have HZ := Lib.hid hz
  have HN := Lib.hid hn
  clear hb hz hn
  go_enter Tryz.func66, Tryz.ntmps66
  go_wp2
  go_loop [0] (fun s => ∃ n : Nat, m ≤ n ∧ n ≤ l.length ∧ s = .slice a n cap) (fun s => (match s with | .slice _ n _ => n | _ => 0))
  case atStart => exact ⟨l.length, hm, Nat.le_refl _, rfl⟩
  case round =>
    obtain ⟨n, hmn, hnl, rfl⟩ := hrel
    by_cases h0 : n = 0
    · subst h0
      obtain rfl : m = 0 := by omega
      go_wp2
      go_ret
      exact ⟨rfl, rfl⟩
    · have hn1 : ((n : Int) - 1).toNat = n - 1 := by omega
      obtain ⟨b, o, rfl, hcell⟩ := HB.out.2 (n - 1) (by omega)
      rw [getD_of (show n - 1 < l.length by omega)] at hcell
      by_cases hlt : m < n
      · have h00 := HZ.out (n - 1) (by omega)
        rw [h00] at hcell
        clear h00
        go_wp2
        go_round
        case rel => exact ⟨n - 1, by omega, by omega, by first | rfl | (congr 1; omega)⟩
        case measure => simp; omega
      · obtain rfl : m = n := by omega
        have h00 : l.getD (m - 1) 0 ≠ 0 := by
          rcases HN.out with h | h
          · exact absurd h h0
          · exact h
        generalize l.getD (m - 1) 0 = x at *
        have hx : ¬ ((x : Int) = 0) := by omega
        go_wp2
        go_ret
        exact ⟨rfl, rfl⟩
theorem trimLeft_nil {w : World} {a : Option Addr} {cap : Nat} :
    Calls Tryz.prog 65 #[.slice a 0 cap, .int .u8 0] w fun e w' => e = .returned (.slice none 0 0) ∧ w' = w := by
  go_enter Tryz.func65, Tryz.ntmps65
  go_wp2
  go_loop [0] (fun s => s = .slice a 0 cap) (fun _ => 0)
  case atStart => rfl
  case round =>
    subst hrel
    go_wp2
    go_ret
    exact ⟨rfl, rfl⟩
set_option maxRecDepth 100000 in
set_option maxHeartbeats 1600000 in
theorem trimLeft_any {w : World} {b o : Nat} {l : List Nat} {cap z : Nat} (hb : IsBytes w (some ⟨b, o, none⟩) l) (hzl : z < l.length) (hz : ∀ i, i < z → l.getD i 0 = 0) (hn : l.getD z 0 ≠ 0) (hc : l.length ≤ cap) (hl : cap ≤ 9223372036854775807) :
    Calls Tryz.prog 65 #[.slice (some ⟨b, o, none⟩) l.length cap, .int .u8 0] w fun e w' => e = .returned (.slice (some ⟨b, o + z, none⟩) (l.length - z) (cap - z)) ∧ w' = w := by
  have HB := Lib.hid hb
  have HZ := Lib.hid hz
  have HN := Lib.hid hn
  clear hb hz hn
  go_enter Tryz.func65, Tryz.ntmps65
  go_wp2
  go_loop [0] (fun s => ∃ j : Nat, j ≤ z ∧ s = .slice (some ⟨b, o + j, none⟩) (l.length - j) (cap - j)) (fun s => (match s with | .slice _ n _ => n | _ => 0))
  case atStart => exact ⟨0, Nat.zero_le _, rfl⟩
  case round =>
    obtain ⟨j, hj, rfl⟩ := hrel
    obtain ⟨b', o', e, hcell⟩ := HB.out.2 j (by omega)
    cases e
    rw [getD_of (show j < l.length by omega)] at hcell
    have hp : 0 < l.length - j := by omega
    have hp1 : 1 ≤ l.length - j := by omega
    have hp2 : l.length - j ≤ cap - j := by omega
    have hp3 : cap - j ≤ 9223372036854775807 := by omega
    by_cases hlt : j < z
    · have h00 := HZ.out j hlt
      rw [h00] at hcell
      clear h00
      have hp4 : ¬ cap - j = 1 := by omega
      go_wp2
      go_round
      case rel => exact ⟨j + 1, by omega, by rw [Nat.sub_sub, Nat.sub_sub, Nat.add_assoc]⟩
      case measure => simp; omega
    · obtain rfl : j = z := by omega
      have h00 := HN.out
      generalize l.getD j 0 = x at *
      have hx : ¬ ((x : Int) = 0) := by omega
      go_wp2
      go_ret
      exact ⟨rfl, rfl⟩
/-- Noughts alone? -/
def bare (l : List Nat) : Bool := l.all (· == 0)
theorem bare_iff (l : List Nat) : bare l = true ↔ ∀ i, l.getD i 0 = 0 := by
  unfold bare
  rw [List.all_eq_true]
  constructor
  · intro h i
    rw [List.getD_eq_getElem?_getD]
    cases e : l[i]? with
    | none => rfl
    | some x => simpa using h x (List.mem_of_getElem? e)
  · intro h x hx
    obtain ⟨i, hi, rfl⟩ := List.mem_iff_getElem.1 hx
    rw [getD_of hi, h i]; rfl
set_option maxRecDepth 100000 in
set_option maxHeartbeats 1600000 in
theorem trim_any {w : World} {a : Option Addr} {l : List Nat} {cap : Nat} (hb : IsBytes w a l) (hc : l.length ≤ cap) (hl : cap ≤ 9223372036854775807) :
    Calls Tryz.prog 59 #[.slice a l.length cap, .string ⟨#[0]⟩] w fun e w' => (∃ a' n c, e = .returned (.slice a' n c) ∧ n ≤ 9223372036854775807 ∧ decide (n = 0) = bare l) ∧ Upd [] w w' := by
  obtain ⟨m, hm, hz, hn⟩ := last_nonzero l
  have HB := Lib.hid hb
  have HR : Hid (∀ w', Upd [] w w' → Calls Tryz.prog 66 #[.slice a l.length cap, .int .u8 0] w' fun e w'' => e = .returned (.slice a m cap) ∧ w'' = w') := fun w' u => trimRight_any (hb.upd u (by simp)) hm hz hn hc hl
  by_cases h0 : l.length = 0
  · have hb0 : bare l = true := by rw [List.length_eq_zero_iff.1 h0]; rfl
    have HB0 := Lib.hid hb0
    clear hb hz hn hb0
    go_enter Tryz.func59, Tryz.ntmps59
    rw [h0]
    go_wp2
    go_ret
    exact ⟨⟨_, _, _, rfl, by decide, by rw [HB0.out]; rfl⟩, Upd.refl _ _⟩
  · have hg0 : ((⟨#[0]⟩ : ByteArray)[0]'Nat.zero_lt_one) = 0 := rfl
    by_cases hm0 : m = 0
    · subst hm0
      have HB0 := Lib.hid ((bare_iff l).2 fun i => hz i (Nat.zero_le _))
      have HL : Hid (∀ w', Calls Tryz.prog 65 #[.slice a 0 cap, .int .u8 0] w' fun e w'' => e = .returned (.slice none 0 0) ∧ w'' = w') := fun w' => trimLeft_nil
      clear hb hz hn
      go_enter Tryz.func59, Tryz.ntmps59
      go_wp2
      go_quiet (first | (go_at_call 66; exact Calls.quiet_of_same (HR.out _ ⟨rfl, rfl, rfl, Nat.le_refl _, fun _ _ _ => rfl⟩)) | (go_at_call 65; exact Calls.quiet_of_same (HL.out _)))
      go_wp2
      go_ret
      exact ⟨⟨_, _, _, rfl, by decide, by rw [HB0.out]; rfl⟩, ⟨rfl, rfl, rfl, Nat.le_refl _, fun _ _ _ => rfl⟩⟩
    · have hnz : l.getD (m - 1) 0 ≠ 0 := by
        rcases hn with h | h
        · exact absurd h hm0
        · exact h
      obtain ⟨z, hzm, hzz, hzn⟩ := first_nonzero l (m - 1) hnz
      obtain ⟨b, o, rfl, hc0⟩ := hb.2 0 (by omega)
      clear hc0
      have htl : (l.take m).length = m := by rw [List.length_take]; omega
      have hbt : IsBytes w (some ⟨b, o, none⟩) (l.take m) := ⟨BytesOk.take hb.1 m, fun i hi => by
        rw [htl] at hi
        obtain ⟨b', o', e, hcell⟩ := hb.2 i (by omega)
        exact ⟨b', o', e, by rw [List.getElem_take]; exact hcell⟩⟩
      have hgt : ∀ i, i < m → (l.take m).getD i 0 = l.getD i 0 := fun i hi => by rw [List.getD_eq_getElem?_getD, List.getD_eq_getElem?_getD, List.getElem?_take_of_lt hi]
      have HL : Hid (∀ w', Upd [] w w' → Calls Tryz.prog 65 #[.slice (some ⟨b, o, none⟩) m cap, .int .u8 0] w' fun e w'' => e = .returned (.slice (some ⟨b, o + z, none⟩) (m - z) (cap - z)) ∧ w'' = w') := fun w' u => by
        have := trimLeft_any (z := z) (cap := cap) (hbt.upd u (by simp)) (by omega) (fun i hi => by rw [hgt i (by omega)]; exact hzz i hi) (by rw [hgt z (by omega)]; exact hzn) (by omega) hl
        rw [htl] at this
        exact this
      have hnb : bare l = false := by
        cases hbb : bare l with
        | false => rfl
        | true => exact absurd ((bare_iff l).1 hbb z) hzn
      have HB0 := Lib.hid hnb
      clear hb hz hn hnz hzz hzn htl hbt hgt hnb
      go_enter Tryz.func59, Tryz.ntmps59
      go_wp2
      go_quiet (first | (go_at_call 66; exact Calls.quiet_of_same (HR.out _ ⟨rfl, rfl, rfl, Nat.le_refl _, fun _ _ _ => rfl⟩)) | (go_at_call 65; exact Calls.quiet_of_same (HL.out _ ⟨rfl, rfl, rfl, Nat.le_refl _, fun _ _ _ => rfl⟩)))
      go_wp2
      go_ret
      exact ⟨⟨_, _, _, rfl, by omega, by rw [HB0.out]; simp; omega⟩, ⟨rfl, rfl, rfl, Nat.le_refl _, fun _ _ _ => rfl⟩⟩
set_option maxRecDepth 100000 in
set_option maxHeartbeats 1600000 in
theorem bare_any {w : World} {r : Nat} {q : Option Nat} {l : List Nat} (h : IsRd w r q l) :
    Calls Tryz.prog 49 #[pt r] w fun e w' => e = .returned (.bool (bare l)) ∧ Upd [] w w' := by
  obtain ⟨⟨a, cap, hb, hy, hc, hm, hq⟩, hne⟩ := h
  have hcell := (cells_of hb).1 0
  have hfz := (cells_of hb).2 0
  simp only [List.getElem?_toArray, List.getElem?_cons_zero] at hcell
  unfold maxLen at hm
  have HY := Lib.hid hy
  clear hb hy hq hne
  go_enter Tryz.func49, Tryz.ntmps49
  go_wp2_with fail
  refine (trim_any HY.out hc (by omega)).mono ?_
  rintro e w1 ⟨⟨a', n, c, rfl, hn, hbr⟩, u⟩
  have HBR := Lib.hid hbr
  have HU := Lib.hid u
  clear hbr u
  go_wp2
  go_ret
  rw [← HBR.out]
  exact ⟨by by_cases h : n = 0 <;> simp [h], HU.out⟩
end Go.Proofs.YtpnpjffhkaejgaaGreatDoor
namespace Go.Proofs.YtpnpjffhkaejgaaGreatDoor
open Go.RowKit

theorem toList_ne {a b : ByteArray} (h : ¬ a = b) : (a.toList == b.toList) = false := by
  simp only [ByteArray.toList_eq, beq_eq_false_iff_ne]
  exact fun e => h (Go.WideShapes.bytes_inj e)
theorem arr4 (w : World) (g o c : Nat) : (Instr.arrayAt 115 (.slice (some ⟨g, o, none⟩) 4 c)).run Tryz.prog w = .ok (.pointer (some ⟨g, o, none⟩)) w := by
  simp [Instr.arrayAt, run_underlying (P := Tryz.prog) Tryz.underlying115 w]
theorem eq4 (x0 x1 x2 x3 c0 c1 c2 c3 : Int) (w : World) : (Op.equalIn 10000 115 (.agg #[.int .u8 x0, .int .u8 x1, .int .u8 x2, .int .u8 x3]) (.agg #[.int .u8 c0, .int .u8 c1, .int .u8 c2, .int .u8 c3])).run Tryz.prog w = .ok (x0 == c0 && x1 == c1 && x2 == c2 && x3 == c3) w := by
  have u5 := run_underlying (P := Tryz.prog) Tryz.underlying5
  have a5 := Tryz.isAgg5
  have z5 := Tryz.sizeOf5
  rw [show (10000 : Nat) = 9999 + 1 from rfl, Op.equalIn]
  simp only [Sem.run_bind, run_underlying Tryz.underlying115, Result.andThen_ok]
  simp only [Std.Legacy.Range.forIn_eq_forIn_range', Std.Legacy.Range.size, Nat.sub_zero, Nat.add_sub_cancel, Nat.div_one, List.range'_succ, List.range'_zero, List.forIn_cons, List.forIn_nil]
  go_simp
  by_cases h1 : x0 = c0 <;> by_cases h2 : x1 = c1 <;> by_cases h3 : x2 = c2 <;> by_cases h4 : x3 = c3 <;> simp [h1, h2, h3, h4]
theorem buildRd (a : Option Addr) (n c : Nat) (w : World) : (Instr.build 102 #[(0, .slice a n c)]).run Tryz.prog w = .ok (.agg #[.slice a n c]) w := run_build w _ _ _ (by kernel_rfl)
theorem buildRd0 (w : World) : (Instr.build 102 #[]).run Tryz.prog w = .ok (.agg #[.slice none 0 0]) w := run_build w _ _ _ (by kernel_rfl)
/-- What a function returns whose results are a struct in a cell's block and a slot. -/
theorem results_block_tmp {P : Program} {fn : Func} {p u : Tmp} {ty : TypeId} (h : fn.results = #[.cell p ty, .tmp u]) (tmps : Array Value) (w : World) (g n : Nat) (t : TypeId) (cs : Array Value) (fr : Nat × Nat) (d : TypeDesc)
    (hp : tmps.getD p undef = .pointer (some ⟨g, 0, none⟩)) (hg : w.heap[g]? = some (.cells cs t fr)) (hu : P.underlying ty = some d) (hd : (match d with | .struct _ | .array _ _ => true | _ => false) = true)
    (hi : (P.info? ty).map (·.size) = some n) (hn : cs.size = n) : (results fn tmps).run P w = .ok (.tuple #[.agg cs, tmps.getD u undef]) w := by
  subst hn
  have hl := run_loadVar_row (P := P) w g t ty cs fr d hg hu (by cases d <;> simp_all) hi
  rw [results_cell_tmp h, hp]
  simp only [asAddr, Sem.run_pure, Result.andThen_ok, hl]
/-- What is read: the four cells of the sum, and the word. -/
def Eyes (b o cap : Nat) (x0 x1 x2 x3 : Int) (z : ByteArray) (w : World) : Prop :=
  w.cell? ⟨b, o + 252, none⟩ = some (.int .u8 x0) ∧ w.cell? ⟨b, o + 252 + 1, none⟩ = some (.int .u8 x1) ∧ w.cell? ⟨b, o + 252 + 2, none⟩ = some (.int .u8 x2) ∧ w.cell? ⟨b, o + 252 + 3, none⟩ = some (.int .u8 x3) ∧
  (convert 62 9 (.slice (some ⟨b, o, none⟩) 4 cap)).run Tryz.prog w = .ok (.string z) w
set_option maxRecDepth 100000 in
set_option maxHeartbeats 1600000 in
theorem sound_yes {w : World} {t b o cap : Nat} {x0 x1 x2 x3 c0 c1 c2 c3 : Int} {s z : ByteArray} (hE : ∀ w', Upd [t] w w' → Eyes b o cap x0 x1 x2 x3 z w') (hc : 256 ≤ cap) (hl : cap ≤ 9223372036854775807) (ht : t < w.heap.size)
    (hsum : ∀ w', Upd [] w w' → Calls Tryz.prog 55 #[pt t, .slice (some ⟨b, o, none⟩) 252 cap] w' fun e w'' => e = .returned (.agg #[.int .u8 c0, .int .u8 c1, .int .u8 c2, .int .u8 c3]) ∧ IsTab w'' t 1 0 tword ∧ Upd [t] w' w'')
    (hx : (x0 == c0 && x1 == c1 && x2 == c2 && x3 == c3) = true) (hz : z = s) :
    Calls Tryz.prog 47 #[pt t, .slice (some ⟨b, o, none⟩) 256 cap, .string s] w fun e w' => e = .returned (.tuple #[.agg #[.slice (some ⟨b, o + 4, none⟩) 248 (cap - 4)], .bool true]) ∧ IsTab w' t 1 0 tword ∧ Upd [t] w w' := by
  subst hz
  have hU : Upd [] w (w.alloc (.cells #[.slice none 0 0] 102)).drew := ((Upd.refl _ _).alloc _).drew
  have HE0 := Lib.hid (hE _ (hU.mono (by simp)))
  have HE := Lib.hid hE
  have HU := Lib.hid hU
  have HS := Lib.hid (hsum _ hU)
  have HN := Lib.hid (heap_alloc_new w (.cells #[.slice none 0 0] 102))
  have HT := Lib.hid ht
  clear hE hsum hU ht
  go_enter Tryz.func47, Tryz.ntmps47
  have hc4 : ¬ cap = 252 := by omega
  have hc6 : (252 : Int) ≤ cap := by omega
  have hc7 : (4 : Int) ≤ cap := by omega
  have hA := fun w c => arr4 w b (o + 252) c
  have hQ := fun w => eq4 x0 x1 x2 x3 c0 c1 c2 c3 w
  rw [hx] at hQ
  clear hx
  go_wp2_with fail
  have hE0 := HE0.out
  unfold Eyes at hE0
  go_region_held3 (fun w' => w'.cell? ⟨b, o + 252, none⟩ = some (.int .u8 x0) ∧ w'.cell? ⟨b, o + 252 + 1, none⟩ = some (.int .u8 x1) ∧ w'.cell? ⟨b, o + 252 + 2, none⟩ = some (.int .u8 x2) ∧ w'.cell? ⟨b, o + 252 + 3, none⟩ = some (.int .u8 x3) ∧
    (convert 62 9 (.slice (some ⟨b, o, none⟩) 4 cap)).run Tryz.prog w' = .ok (.string z) w') (first | exact hE0 | exact hE1) (first
    | (go_at_call 55; (with_reducible refine HS.out.mono ?_); rintro e w1 ⟨rfl, ht1, u1⟩; have hE1 := HE.out _ ((HU.out.mono (by simp)).trans u1)))
  all_goals (
    have hn := u1.get (show (w.alloc (.cells #[.slice none 0 0] 102)).drew.heap[w.heap.size]? = _ from HN.out) (by have := HT.out; simp; omega)
    obtain ⟨k1, k2⟩ := cells_of hn
    have k10 := k1 0
    have k20 := k2 0
    simp only [List.getElem?_toArray, List.getElem?_cons_zero] at k10
    have HN1 := Lib.hid hn
    have HT1 := Lib.hid ht1
    have HU1 := Lib.hid ((HU.out.mono (by simp)).trans u1)
    clear hn k1 k2 ht1 u1 hE1 hE0 hA hQ
    have hbd := fun a w => buildRd a 248 (cap - 4) w
    have hc8 : ¬ cap = 4 := by omega
    go_wp2
    have hg := heap_setCell_same w1 w.heap.size 0 _ _ (.slice (some ⟨b, o + 4, none⟩) 248 (cap - 4)) HN1.out
    have hu : Upd [t] w (w1.setCell ⟨w.heap.size, 0, none⟩ (.slice (some ⟨b, o + 4, none⟩) 248 (cap - 4))) := HU1.out.setCell (.inr (Nat.le_refl _)) _
    have hu1 : Upd [w.heap.size] w1 (w1.setCell ⟨w.heap.size, 0, none⟩ (.slice (some ⟨b, o + 4, none⟩) 248 (cap - 4))) := (Upd.refl _ _).setCell (.inl (by simp)) _
    refine bodyPost_ret (results_block_tmp Tryz.results47 _ _ w.heap.size 1 _ _ _ _ rfl hg Tryz.underlying102 rfl (by kernel_rfl) rfl) rfl ⟨rfl, HT1.out.upd hu1 (by have := HT.out; simp; omega), hu⟩)

set_option maxRecDepth 100000 in
set_option maxHeartbeats 1600000 in
theorem sound_no_sum {w : World} {t b o cap : Nat} {x0 x1 x2 x3 c0 c1 c2 c3 : Int} {s z : ByteArray} (hE : ∀ w', Upd [t] w w' → Eyes b o cap x0 x1 x2 x3 z w') (hc : 256 ≤ cap) (hl : cap ≤ 9223372036854775807) (ht : t < w.heap.size)
    (hsum : ∀ w', Upd [] w w' → Calls Tryz.prog 55 #[pt t, .slice (some ⟨b, o, none⟩) 252 cap] w' fun e w'' => e = .returned (.agg #[.int .u8 c0, .int .u8 c1, .int .u8 c2, .int .u8 c3]) ∧ IsTab w'' t 1 0 tword ∧ Upd [t] w' w'')
    (hx : (x0 == c0 && x1 == c1 && x2 == c2 && x3 == c3) = false) :
    Calls Tryz.prog 47 #[pt t, .slice (some ⟨b, o, none⟩) 256 cap, .string s] w fun e w' => e = .returned (.tuple #[.agg #[.slice none 0 0], .bool false]) ∧ IsTab w' t 1 0 tword ∧ Upd [t] w w' := by
  have hU : Upd [] w (w.alloc (.cells #[.slice none 0 0] 102)).drew := ((Upd.refl _ _).alloc _).drew
  have HE0 := Lib.hid (hE _ (hU.mono (by simp)))
  have HE := Lib.hid hE
  have HU := Lib.hid hU
  have HS := Lib.hid (hsum _ hU)
  have HN := Lib.hid (heap_alloc_new w (.cells #[.slice none 0 0] 102))
  have HT := Lib.hid ht
  clear hE hsum hU ht
  go_enter Tryz.func47, Tryz.ntmps47
  have hc4 : ¬ cap = 252 := by omega
  have hc6 : (252 : Int) ≤ cap := by omega
  have hc7 : (4 : Int) ≤ cap := by omega
  have hA := fun w c => arr4 w b (o + 252) c
  have hQ := fun w => eq4 x0 x1 x2 x3 c0 c1 c2 c3 w
  rw [hx] at hQ
  clear hx
  go_wp2_with fail
  have hE0 := HE0.out
  unfold Eyes at hE0
  first | (go_region_held (fun w' => w'.cell? ⟨b, o + 252, none⟩ = some (.int .u8 x0) ∧ w'.cell? ⟨b, o + 252 + 1, none⟩ = some (.int .u8 x1) ∧ w'.cell? ⟨b, o + 252 + 2, none⟩ = some (.int .u8 x2) ∧ w'.cell? ⟨b, o + 252 + 3, none⟩ = some (.int .u8 x3) ∧
    (convert 62 9 (.slice (some ⟨b, o, none⟩) 4 cap)).run Tryz.prog w' = .ok (.string z) w') (first | exact hE0 | exact hE1) (first
    | (go_at_call 55; (with_reducible refine HS.out.mono ?_); rintro e w1 ⟨rfl, ht1, u1⟩; have hE1 := HE.out _ ((HU.out.mono (by simp)).trans u1)))) | fail
  all_goals (
    have hn := u1.get (show (w.alloc (.cells #[.slice none 0 0] 102)).drew.heap[w.heap.size]? = _ from HN.out) (by have := HT.out; simp; omega)
    obtain ⟨k1, k2⟩ := cells_of hn
    have k10 := k1 0
    have k20 := k2 0
    simp only [List.getElem?_toArray, List.getElem?_cons_zero] at k10
    have HN1 := Lib.hid hn
    have HT1 := Lib.hid ht1
    have HU1 := Lib.hid ((HU.out.mono (by simp)).trans u1)
    clear hn k1 k2 ht1 u1 hE1 hE0 hA hQ
    have hbd := fun w => buildRd0 w
    have hc8 : ¬ cap = 4 := by omega
    go_wp2
    have hg := heap_setCell_same w1 w.heap.size 0 _ _ (.slice none 0 0) HN1.out
    have hu : Upd [t] w (w1.setCell ⟨w.heap.size, 0, none⟩ (.slice none 0 0)) := HU1.out.setCell (.inr (Nat.le_refl _)) _
    have hu1 : Upd [w.heap.size] w1 (w1.setCell ⟨w.heap.size, 0, none⟩ (.slice none 0 0)) := (Upd.refl _ _).setCell (.inl (by simp)) _
    refine bodyPost_ret (results_block_tmp Tryz.results47 _ _ w.heap.size 1 _ _ _ _ rfl hg Tryz.underlying102 rfl (by kernel_rfl) rfl) rfl ⟨rfl, HT1.out.upd hu1 (by have := HT.out; simp; omega), hu⟩)

set_option maxRecDepth 100000 in
set_option maxHeartbeats 1600000 in
theorem sound_no_word {w : World} {t b o cap : Nat} {x0 x1 x2 x3 c0 c1 c2 c3 : Int} {s z : ByteArray} (hE : ∀ w', Upd [t] w w' → Eyes b o cap x0 x1 x2 x3 z w') (hc : 256 ≤ cap) (hl : cap ≤ 9223372036854775807) (ht : t < w.heap.size)
    (hsum : ∀ w', Upd [] w w' → Calls Tryz.prog 55 #[pt t, .slice (some ⟨b, o, none⟩) 252 cap] w' fun e w'' => e = .returned (.agg #[.int .u8 c0, .int .u8 c1, .int .u8 c2, .int .u8 c3]) ∧ IsTab w'' t 1 0 tword ∧ Upd [t] w' w'')
    (hx : (x0 == c0 && x1 == c1 && x2 == c2 && x3 == c3) = true) (hz : ¬ z = s) :
    Calls Tryz.prog 47 #[pt t, .slice (some ⟨b, o, none⟩) 256 cap, .string s] w fun e w' => e = .returned (.tuple #[.agg #[.slice none 0 0], .bool false]) ∧ IsTab w' t 1 0 tword ∧ Upd [t] w w' := by
  have hzs := toList_ne hz
  clear hz
  have hU : Upd [] w (w.alloc (.cells #[.slice none 0 0] 102)).drew := ((Upd.refl _ _).alloc _).drew
  have HE0 := Lib.hid (hE _ (hU.mono (by simp)))
  have HE := Lib.hid hE
  have HU := Lib.hid hU
  have HS := Lib.hid (hsum _ hU)
  have HN := Lib.hid (heap_alloc_new w (.cells #[.slice none 0 0] 102))
  have HT := Lib.hid ht
  clear hE hsum hU ht
  go_enter Tryz.func47, Tryz.ntmps47
  have hc4 : ¬ cap = 252 := by omega
  have hc6 : (252 : Int) ≤ cap := by omega
  have hc7 : (4 : Int) ≤ cap := by omega
  have hA := fun w c => arr4 w b (o + 252) c
  have hQ := fun w => eq4 x0 x1 x2 x3 c0 c1 c2 c3 w
  rw [hx] at hQ
  clear hx
  go_wp2_with fail
  have hE0 := HE0.out
  unfold Eyes at hE0
  first | (go_region_held3 (fun w' => w'.cell? ⟨b, o + 252, none⟩ = some (.int .u8 x0) ∧ w'.cell? ⟨b, o + 252 + 1, none⟩ = some (.int .u8 x1) ∧ w'.cell? ⟨b, o + 252 + 2, none⟩ = some (.int .u8 x2) ∧ w'.cell? ⟨b, o + 252 + 3, none⟩ = some (.int .u8 x3) ∧
    (convert 62 9 (.slice (some ⟨b, o, none⟩) 4 cap)).run Tryz.prog w' = .ok (.string z) w') (first | exact hE0 | exact hE1) (first
    | (go_at_call 55; (with_reducible refine HS.out.mono ?_); rintro e w1 ⟨rfl, ht1, u1⟩; have hE1 := HE.out _ ((HU.out.mono (by simp)).trans u1)))) | fail
  all_goals (
    have hn := u1.get (show (w.alloc (.cells #[.slice none 0 0] 102)).drew.heap[w.heap.size]? = _ from HN.out) (by have := HT.out; simp; omega)
    obtain ⟨k1, k2⟩ := cells_of hn
    have k10 := k1 0
    have k20 := k2 0
    simp only [List.getElem?_toArray, List.getElem?_cons_zero] at k10
    have HN1 := Lib.hid hn
    have HT1 := Lib.hid ht1
    have HU1 := Lib.hid ((HU.out.mono (by simp)).trans u1)
    clear hn k1 k2 ht1 u1 hE1 hE0 hA hQ
    have hbd := fun w => buildRd0 w
    have hc8 : ¬ cap = 4 := by omega
    go_wp2
    have hg := heap_setCell_same w1 w.heap.size 0 _ _ (.slice none 0 0) HN1.out
    have hu : Upd [t] w (w1.setCell ⟨w.heap.size, 0, none⟩ (.slice none 0 0)) := HU1.out.setCell (.inr (Nat.le_refl _)) _
    have hu1 : Upd [w.heap.size] w1 (w1.setCell ⟨w.heap.size, 0, none⟩ (.slice none 0 0)) := (Upd.refl _ _).setCell (.inl (by simp)) _
    refine bodyPost_ret (results_block_tmp Tryz.results47 _ _ w.heap.size 1 _ _ _ _ rfl hg Tryz.underlying102 rfl (by kernel_rfl) rfl) rfl ⟨rfl, HT1.out.upd hu1 (by have := HT.out; simp; omega), hu⟩)

theorem sound_len {w : World} {a t : Option Addr} {n cap : Nat} {s : ByteArray} (h : t = none ∨ ¬ (n : Int) = 256) (_hn : n ≤ 9223372036854775807) :
    Calls Tryz.prog 47 #[.pointer t, .slice a n cap, .string s] w fun e w' => e = .returned (.tuple #[.agg #[.slice none 0 0], .bool false]) ∧ Upd [] w w' := by
  have HN := Lib.hid (heap_alloc_new w (.cells #[.slice none 0 0] 102))
  obtain ⟨k1, k2⟩ := cells_of (heap_alloc_new w (.cells #[.slice none 0 0] 102))
  have k10 := k1 0
  have k20 := k2 0
  simp only [List.getElem?_toArray, List.getElem?_cons_zero] at k10
  have K1 := Lib.hid k10
  have K2 := Lib.hid k20
  clear k1 k2 k10 k20
  have hbd := fun w => buildRd0 w
  have h' : (t = none) ∨ (t.isSome = true ∧ decide ((n : Int) = 256) = false ∧ ¬ (n : Int) = 256) := by
    rcases h with h | h
    · exact .inl h
    · cases t with
      | none => exact .inl rfl
      | some x => exact .inr ⟨rfl, by simpa using h, h⟩
  clear h
  have hfin : ∀ q, Upd [] w (((w.alloc (.cells #[.slice none 0 0] 102)).drewN q).setCell ⟨w.heap.size, 0, none⟩ (.slice none 0 0)) := fun q =>
    ((Upd.refl [] w).alloc _ |>.trans (show Upd [] _ ((w.alloc (.cells #[.slice none 0 0] 102)).drewN q) from ⟨rfl, rfl, rfl, Nat.le_refl _, fun _ _ _ => rfl⟩)).setCell (.inr (Nat.le_refl _)) _
  have HF := Lib.hid hfin
  have hblk : ∀ q, (((w.alloc (.cells #[.slice none 0 0] 102)).drewN q).setCell ⟨w.heap.size, 0, none⟩ (.slice none 0 0)).heap[w.heap.size]? = some (.cells #[.slice none 0 0] 102 (0, 0)) := fun q => by
    simpa using heap_setCell_same ((w.alloc (.cells #[.slice none 0 0] 102)).drewN q) w.heap.size 0 _ _ (.slice none 0 0) (show ((w.alloc (.cells #[.slice none 0 0] 102)).drewN q).heap[w.heap.size]? = _ from HN.out)
  have HB := Lib.hid hblk
  clear hfin hblk
  rcases h' with rfl | ⟨ht, hd, hne⟩
  · go_enter Tryz.func47, Tryz.ntmps47
    go_wp2_with fail
    go_quiet (fail)
    have k10 : ((w.alloc (.cells #[.slice none 0 0] 102)).drewN nq).cell? ⟨w.heap.size, 0, none⟩ = some (.slice none 0 0) := K1.out
    have k20 : ((w.alloc (.cells #[.slice none 0 0] 102)).drewN nq).frozen? ⟨w.heap.size, 0, none⟩ = false := K2.out
    go_wp2
    refine bodyPost_ret (results_block_tmp Tryz.results47 _ _ w.heap.size 1 _ _ _ _ rfl (HB.out nq) Tryz.underlying102 rfl (by kernel_rfl) rfl) rfl ⟨rfl, HF.out nq⟩
  · obtain ⟨⟨tb, to, tm⟩, rfl⟩ := Option.isSome_iff_exists.1 ht
    go_enter Tryz.func47, Tryz.ntmps47
    go_wp2_with fail
    go_quiet (fail)
    have k10 : ((w.alloc (.cells #[.slice none 0 0] 102)).drewN nq).cell? ⟨w.heap.size, 0, none⟩ = some (.slice none 0 0) := K1.out
    have k20 : ((w.alloc (.cells #[.slice none 0 0] 102)).drewN nq).frozen? ⟨w.heap.size, 0, none⟩ = false := K2.out
    go_wp2
    refine bodyPost_ret (results_block_tmp Tryz.results47 _ _ w.heap.size 1 _ _ _ _ rfl (HB.out nq) Tryz.underlying102 rfl (by kernel_rfl) rfl) rfl ⟨rfl, HF.out nq⟩

/-- A sector with its sum, that begins with a word? -/
def soundL (l : List Nat) (word : List Nat) : Bool := decide (l.length = 256 ∧ l.drop 252 = le4 (crc (l.take 252)) ∧ l.take 4 = word)
end Go.Proofs.YtpnpjffhkaejgaaGreatDoor
namespace Go.Proofs.YtpnpjffhkaejgaaGreatDoor
open Go.RowKit

theorem drop4 {l : List Nat} (h : l.length = 256) : l.drop 252 = [l.getD 252 0, l.getD 253 0, l.getD 254 0, l.getD 255 0] := by
  apply List.ext_getElem?
  intro i
  rw [List.getElem?_drop]
  by_cases hi : i < 4
  · have e : l[252 + i]? = some (l.getD (252 + i) 0) := by rw [List.getD_eq_getElem?_getD, List.getElem?_eq_getElem (by omega)]; rfl
    rw [e]
    rcases i with _ | _ | _ | _ | i <;> first | rfl | omega
  · rw [List.getElem?_eq_none (by omega), List.getElem?_eq_none (by simp; omega)]
theorem sum_eq {l : List Nat} (h : l.length = 256) (n : Nat) : (((l.getD 252 0 : Nat) : Int) == ((n % 256 : Nat) : Int) && ((l.getD 253 0 : Nat) : Int) == ((n / 256 % 256 : Nat) : Int) && ((l.getD 254 0 : Nat) : Int) == ((n / 65536 % 256 : Nat) : Int) && ((l.getD 255 0 : Nat) : Int) == ((n / 16777216 % 256 : Nat) : Int)) = decide (l.drop 252 = le4 n) := by
  rw [drop4 h]
  have hi : ∀ a b : Nat, ((a : Int) == (b : Int)) = decide (a = b) := fun a b => by
    by_cases e : a = b
    · subst e; simp
    · simp [e]; omega
  simp only [hi, le4, List.cons.injEq, and_true, Bool.decide_and, Bool.and_assoc]
theorem bytes_take {l : List Nat} (h : BytesOk l) (s : ByteArray) (k : Nat) : (strOfNums ((l.take k).map fun n : Nat => (n : Int)) = s) ↔ l.take k = strBytes s := by
  have hd : strBytes (strOfNums ((l.take k).map fun n : Nat => (n : Int))) = l.take k := by
    unfold strBytes
    rw [strOfNums_data, List.map_map, List.map_map]
    apply List.ext_getElem?
    intro i
    simp only [List.getElem?_map]
    cases e : (l.take k)[i]? with
    | none => rfl
    | some x =>
      have : x < 256 := h x (List.mem_of_mem_take (List.mem_of_getElem? e))
      simp [Function.comp, Nat.mod_eq_of_lt this]
  constructor
  · rintro rfl; exact hd.symm
  · intro e
    rw [e] at hd
    apply Go.WideShapes.bytes_inj
    have hi : ∀ (a b : List UInt8), a.map UInt8.toNat = b.map UInt8.toNat → a = b := fun a b h => (List.map_inj_right (fun x y => UInt8.toNat_inj.1)).1 h
    rw [e]
    exact hi _ _ hd
theorem IsBytes.sub {w : World} {b o : Nat} {l : List Nat} (h : IsBytes w (some ⟨b, o, none⟩) l) (n : Nat) : IsBytes w (some ⟨b, o, none⟩) (l.take n) :=
  ⟨BytesOk.take h.1 n, fun i hi => by
    rw [List.length_take] at hi
    obtain ⟨b', o', e, hc⟩ := h.2 i (by omega)
    cases e
    exact ⟨b, o, rfl, by rw [List.getElem_take]; exact hc⟩⟩
theorem IsBytes.at {w : World} {b o : Nat} {l : List Nat} (h : IsBytes w (some ⟨b, o, none⟩) l) (i : Nat) (hi : i < l.length) : w.cell? ⟨b, o + i, none⟩ = some (.int .u8 (l.getD i 0 : Nat)) := by
  obtain ⟨b', o', e, hc⟩ := h.2 i hi
  cases e
  rw [← getD_of hi]; exact hc
theorem IsBytes.text {w : World} {b o : Nat} {l : List Nat} (h : IsBytes w (some ⟨b, o, none⟩) l) (k cap : Nat) (hk : k ≤ l.length) : (convert 62 9 (.slice (some ⟨b, o, none⟩) k cap)).run Tryz.prog w = .ok (.string (strOfNums ((l.take k).map fun n : Nat => (n : Int)))) w :=
  run_convert_bytes_arg (P := Tryz.prog) w 62 5 Tryz.underlying62 Tryz.underlying5 b o k cap _ (by simp; omega) (fun i hi => by
    rw [h.at i (by omega)]
    simp [List.getD_eq_getElem?_getD, hi]
    cases e : l[i]? with
    | none => rw [List.getElem?_eq_none_iff] at e; omega
    | some x => simp) 9 Tryz.underlying9
/-- The eyes of a sector. -/
theorem IsBytes.eyes {w : World} {b o cap : Nat} {l : List Nat} (h : IsBytes w (some ⟨b, o, none⟩) l) (hl : l.length = 256) : Eyes b o cap ((l.getD 252 0 : Nat) : Int) ((l.getD 253 0 : Nat) : Int) ((l.getD 254 0 : Nat) : Int) ((l.getD 255 0 : Nat) : Int) (strOfNums ((l.take 4).map fun n : Nat => (n : Int))) w :=
  ⟨h.at 252 (by omega), h.at 253 (by omega), h.at 254 (by omega), h.at 255 (by omega), h.text 4 cap (by omega)⟩
theorem soundSum {w : World} {t b o cap : Nat} {l : List Nat} (ht : TabOk w t) (hb : IsBytes w (some ⟨b, o, none⟩) l) (hne : b ≠ t) (hl : l.length = 256) :
    ∀ w', Upd [] w w' → Calls Tryz.prog 55 #[pt t, .slice (some ⟨b, o, none⟩) 252 cap] w' fun e w'' => e = .returned (.agg #[.int .u8 ((crc (l.take 252) % 256 : Nat) : Int), .int .u8 ((crc (l.take 252) / 256 % 256 : Nat) : Int), .int .u8 ((crc (l.take 252) / 65536 % 256 : Nat) : Int), .int .u8 ((crc (l.take 252) / 16777216 % 256 : Nat) : Int)]) ∧ IsTab w'' t 1 0 tword ∧ Upd [t] w' w'' := by
  intro w' u
  have hlt : (l.take 252).length = 252 := by rw [List.length_take]; omega
  have h := sum_any (cap := cap) (ht.upd u (by simp)) ((hb.sub 252).upd u (by simp)) (by rintro b' o' ⟨⟩; exact hne) (by omega)
  rw [hlt] at h
  refine h.mono ?_
  rintro e w'' ⟨rfl, r⟩
  exact ⟨by simp [u8s, le4], r⟩
theorem sound_true {w : World} {t : Nat} {a : Option Addr} {l : List Nat} {cap : Nat} {s : ByteArray} (ht : TabOk w t) (hb : IsBytes w a l) (hsep : ∀ b o, a = some ⟨b, o, none⟩ → b ≠ t) (hc : l.length ≤ cap) (hm : cap ≤ 9223372036854775807) (hs : soundL l (strBytes s) = true) :
    ∃ b o, a = some ⟨b, o, none⟩ ∧ Calls Tryz.prog 47 #[pt t, .slice a l.length cap, .string s] w fun e w' => e = .returned (.tuple #[.agg #[.slice (some ⟨b, o + 4, none⟩) 248 (cap - 4)], .bool true]) ∧ IsTab w' t 1 0 tword ∧ Upd [t] w w' := by
  unfold soundL at hs
  simp only [decide_eq_true_eq] at hs
  obtain ⟨hl, hsum, hw⟩ := hs
  obtain ⟨b, o, rfl, _⟩ := hb.2 0 (by omega)
  have hne := hsep b o rfl
  refine ⟨b, o, rfl, ?_⟩
  rw [hl]
  exact sound_yes (fun w' u => (hb.upd u (by rintro b' o' ⟨⟩; simpa using hne)).eyes hl) (by omega) hm ht.lt (soundSum ht hb hne hl) (by rw [sum_eq hl]; exact decide_eq_true hsum) ((bytes_take hb.1 s 4).2 hw)
theorem sound_false {w : World} {t : Nat} {a : Option Addr} {l : List Nat} {cap : Nat} {s : ByteArray} (ht : TabOk w t) (hb : IsBytes w a l) (hsep : ∀ b o, a = some ⟨b, o, none⟩ → b ≠ t) (hc : l.length ≤ cap) (hm : cap ≤ 9223372036854775807) (hs : soundL l (strBytes s) = false) :
    Calls Tryz.prog 47 #[pt t, .slice a l.length cap, .string s] w fun e w' => e = .returned (.tuple #[.agg #[.slice none 0 0], .bool false]) ∧ TabOk w' t ∧ Upd [t] w w' := by
  by_cases hl : l.length = 256
  · obtain ⟨b, o, rfl, _⟩ := hb.2 0 (by omega)
    have hne := hsep b o rfl
    unfold soundL at hs
    simp only [decide_eq_false_iff_not] at hs
    have hE : ∀ w', Upd [t] w w' → Eyes b o cap ((l.getD 252 0 : Nat) : Int) ((l.getD 253 0 : Nat) : Int) ((l.getD 254 0 : Nat) : Int) ((l.getD 255 0 : Nat) : Int) (strOfNums ((l.take 4).map fun n : Nat => (n : Int))) w' := fun w' u => (hb.upd u (by rintro b' o' ⟨⟩; simpa using hne)).eyes hl
    rw [hl]
    by_cases hsum : l.drop 252 = le4 (crc (l.take 252))
    · refine (sound_no_word hE (by omega) hm ht.lt (soundSum ht hb hne hl) (by rw [sum_eq hl]; exact decide_eq_true hsum) (fun e => hs ⟨hl, hsum, (bytes_take hb.1 s 4).1 e⟩)).mono ?_
      rintro e w' ⟨rfl, h1, h2⟩
      exact ⟨rfl, .inr h1, h2⟩
    · refine (sound_no_sum hE (by omega) hm ht.lt (soundSum ht hb hne hl) (by rw [sum_eq hl]; exact decide_eq_false hsum)).mono ?_
      rintro e w' ⟨rfl, h1, h2⟩
      exact ⟨rfl, .inr h1, h2⟩
  · refine (sound_len (t := some ⟨t, 0, none⟩) (.inr (by omega)) (by omega)).mono ?_
    rintro e w' ⟨rfl, u⟩
    exact ⟨rfl, ht.upd u (by simp), u.mono (by simp)⟩
end Go.Proofs.YtpnpjffhkaejgaaGreatDoor
