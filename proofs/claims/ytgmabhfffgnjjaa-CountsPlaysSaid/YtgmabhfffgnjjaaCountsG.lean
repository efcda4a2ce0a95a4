/-
  PROVED HERE: plain laws on counts as bytes. Conditions: those that each theorem names; no program's text is used.
  PROVED HERE: PutCounts and GetCounts of package codec, and the document's. Conditions: the arguments can be read.
  PROVED HERE: GetCounts of package codec, and the document's. Conditions: the bytes can be read.
-/
import Derived.Test.YtgmabhfffgnjjaaRecs
import Derived.Test.YtgmabhfffgnjjaaPutSuper
import Derived.Test.YtgmabhfffgnjjaaInts
import Derived.Test.YtgmabhfffgnjjaaRefSuper
namespace Go.Proofs.Ytgmabhfffgnjjaa
open Go.RowKit

def okCounts (l : List Int) : Bool := l.all (inB · 1000)
def countBytes (l : List Int) : List Nat := l.flatMap fun n => be n.toNat 2
def putCounts (l : List Int) : Option (List Nat) := if okCounts l && decide (l.length = 120) then some (countBytes l) else none
def countsOf (b : List Nat) : List Int := (List.range 120).map fun k => numi (seg b (2 * k) 2)
def getCounts (b : List Nat) : Option (List Int) := if decide (b.length = 240) && okCounts (countsOf b) then some (countsOf b) else none
theorem countBytes_len (l : List Int) : (countBytes l).length = 2 * l.length := by
  unfold countBytes
  rw [List.length_flatMap]
  simp only [be_len]
  induction l with
  | nil => rfl
  | cons a l ih => simp at ih ⊢; omega
theorem countBytes_take (l : List Int) (k : Nat) (hk : k < l.length) : countBytes (l.take (k + 1)) = countBytes (l.take k) ++ be l[k].toNat 2 := by
  unfold countBytes
  rw [List.take_succ_eq_append_getElem hk, List.flatMap_append]
  simp
theorem countBytes_ok (l : List Int) : BytesOk (countBytes l) := fun x hx => by
  obtain ⟨n, _, hn⟩ := List.mem_flatMap.1 hx
  exact be_lt _ _ x hn
theorem okCounts_not {l : List Int} {k : Nat} (hk : k < l.length) (h : inB l[k] 1000 = false) : okCounts l = false := by
  unfold okCounts
  rw [List.all_eq_false]
  exact ⟨l[k], List.getElem_mem hk, by rw [h]; decide⟩
theorem putCounts_no {l : List Int} {k : Nat} (hk : k < l.length) (h : inB l[k] 1000 = false) : putCounts l = none := by
  unfold putCounts; rw [okCounts_not hk h]; rfl
theorem okCounts_of {l : List Int} (h : ∀ k (hk : k < l.length), inB l[k] 1000 = true) : okCounts l = true := by
  unfold okCounts
  rw [List.all_eq_true]
  intro x hx
  obtain ⟨k, hk, rfl⟩ := List.mem_iff_getElem.1 hx
  exact h k hk
theorem countsOf_len (b : List Nat) : (countsOf b).length = 120 := by unfold countsOf; rw [List.length_map, List.length_range]
theorem countsOf_get (b : List Nat) (k : Nat) (hk : k < (countsOf b).length) : (countsOf b)[k] = numi (seg b (2 * k) 2) := by
  unfold countsOf at hk ⊢
  rw [List.getElem_map, List.getElem_range]
theorem countsOf_take (b : List Nat) (k : Nat) (hk : k < 120) : (countsOf b).take (k + 1) = (countsOf b).take k ++ [numi (seg b (2 * k) 2)] := by
  rw [List.take_succ_eq_append_getElem (by rw [countsOf_len]; exact hk), countsOf_get]
theorem seg_ok2 {b : List Nat} (hb : BytesOk b) (k : Nat) : numi (seg b (2 * k) 2) = (num (seg b (2 * k) 2) : Int) := numi_eq (seg_ok hb _ _) (by rw [seg_len]; decide)
/-- What was read of a body is written as that body. -/
theorem countBytes_of {b : List Nat} (hb : BytesOk b) (hl : b.length = 240) : countBytes (countsOf b) = b := by
  have h : ∀ n, n ≤ 120 → countBytes ((countsOf b).take n) = b.take (2 * n) := by
    intro n
    induction n with
    | zero => intro _; simp [countBytes]
    | succ n ih =>
      intro hn
      rw [countsOf_take b n (by omega), show countBytes ((countsOf b).take n ++ [numi (seg b (2 * n) 2)]) = countBytes ((countsOf b).take n) ++ be (numi (seg b (2 * n) 2)).toNat 2 by simp [countBytes], ih (by omega), seg_ok2 hb, Int.toNat_natCast]
      have e := be_num (seg_ok hb (2 * n) 2)
      rw [seg_len] at e
      rw [e, seg_eq (by omega), show 2 * (n + 1) = 2 * n + 2 by omega, List.take_add]
  have := h 120 (Nat.le_refl _)
  rw [List.take_of_length_le (by rw [countsOf_len]; exact Nat.le_refl _), List.take_of_length_le (by omega)] at this
  exact this
theorem countsOf_bytes {l : List Int} (hl : l.length = 120) (ho : okCounts l = true) : countsOf (countBytes l) = l := by
  apply List.ext_getElem
  · rw [countsOf_len, hl]
  intro k h1 h2
  rw [countsOf_get]
  have hin := inB_true.1 (List.all_eq_true.1 ho l[k] (List.getElem_mem h2))
  have e1 : countBytes l = countBytes (l.take k) ++ (be l[k].toNat 2 ++ countBytes (l.drop (k + 1))) := by
    rw [← List.append_assoc, ← countBytes_take l k h2]
    unfold countBytes
    rw [← List.flatMap_append, List.take_append_drop]
  have hlk : (countBytes (l.take k)).length = 2 * k := by rw [countBytes_len, List.length_take, Nat.min_eq_left (by omega)]
  have e2 : seg (countBytes l) (2 * k) 2 = be l[k].toNat 2 := by
    rw [seg_eq (by rw [countBytes_len]; omega), e1, ← hlk, List.drop_append_of_le_length (Nat.le_refl _), List.drop_of_length_le (Nat.le_refl _), List.nil_append, List.take_append_of_le_length (by rw [be_len]; decide), List.take_of_length_le (by rw [be_len]; decide)]
  rw [e2, numi_eq (be_lt _ _) (by rw [be_len]; decide), num_be_of_lt (by
    have : (256 : Nat) ^ 2 = 65536 := by decide
    omega)]
  omega
/-- As the document reads. -/
def refCounts (b : List Nat) : Option (List Int) := if okCounts (countsOf b) && decide (countBytes (countsOf b) = b) then some (countsOf b) else none
theorem getCounts_ref {b : List Nat} (hb : BytesOk b) : getCounts b = refCounts b := by
  unfold getCounts refCounts
  have e : decide (b.length = 240) = decide (countBytes (countsOf b) = b) := by
    by_cases h : b.length = 240
    · rw [decide_eq_true h, decide_eq_true (countBytes_of hb h)]
    · rw [decide_eq_false h, decide_eq_false]
      intro hc
      have := congrArg List.length hc
      rw [countBytes_len, countsOf_len] at this
      omega
  rw [e, Bool.and_comm]
theorem getCounts_of_put {l : List Int} : getCounts ((putCounts l).getD []) = (putCounts l).map fun _ => l := by
  unfold putCounts
  by_cases h : okCounts l = true ∧ l.length = 120
  · have e : (okCounts l && decide (l.length = 120)) = true := by simp [h.1, h.2]
    rw [if_pos e, Option.getD_some, Option.map_some]
    unfold getCounts
    rw [countsOf_bytes h.2 h.1, h.1, countBytes_len, h.2]
    rfl
  · have e : ¬ (okCounts l && decide (l.length = 120)) = true := by simpa using h
    rw [if_neg e]
    rfl
end Go.Proofs.Ytgmabhfffgnjjaa
namespace Go.Proofs.Ytgmabhfffgnjjaa
open Go.RowKit

set_option maxRecDepth 100000 in
set_option maxHeartbeats 1600000 in
theorem putCounts_any {w : World} {a : Option Addr} {l : List Int} {cap : Nat} (hb : IsInts w a l) (_hl : l.length ≤ 9223372036854775807) :
    Calls Try.prog 31 #[.slice a l.length cap] w fun e w' => PutOut w.heap.size (putCounts l) e w' ∧ Upd [] w w' := by
  have HB := Lib.hid hb
  clear hb
  by_cases h120 : l.length = 120
  · rw [h120]
    have H120 := Lib.hid h120
    clear _hl h120
    have HW := Lib.hid (isW_made w)
    have HA := Lib.hid (fun o => (Upd.refl [] w).alloc o)
    go_enter Try.func31, Try.ntmps31
    go_wp2
    go_loopw [12] (fun i wr => ∃ k : Nat, k ≤ 120 ∧ i = .int .i64 k ∧ (∀ j (hj : j < k) (h7 : j < l.length), inB l[j] 1000 = true) ∧ IsW wr w.heap.size (countBytes (l.take k)) ∧ Upd [] w wr) (fun i _ => 120 - (intOf i).toNat)
    case atStart => exact ⟨0, by decide, rfl, fun j hj => absurd hj (by omega), by simpa [countBytes] using HW.out, HA.out _⟩
    case round =>
      obtain ⟨k, hk, rfl, hin, hW, hU⟩ := hrel
      have HIN := Lib.hid hin
      have HWR := Lib.hid hW
      have HU := Lib.hid hU
      clear hin hW hU
      by_cases hlt : k < 120
      · have hkl : k < l.length := by have := H120.out; omega
        obtain ⟨b, o, rfl, hc⟩ := (HB.out.upd HU.out (by simp)) k hkl
        have HS := Lib.hid (countBytes_take l k hkl)
        have HL := Lib.hid (countBytes_len (l.take k))
        have HN := Lib.hid (fun h => putCounts_no (l := l) hkl h)
        generalize hx : l[k] = x at hc HS HN
        have HX := Lib.hid hx
        clear hx
        cases hI : inB x 1000
        · go_wp2_with (go_at_call 39; refine (in_b _ _ _).mono ?_; rintro e w' ⟨rfl, rfl⟩)
          go_ret2
          rw [HN.out hI]
          exact ⟨PutOut.no _ _, HU.out⟩
        · obtain ⟨m, rfl⟩ := Int.eq_ofNat_of_zero_le (inB_true.1 hI).1
          have hm := (inB_true.1 hI).2
          go_wp2_with (first | (go_at_call 39; refine (in_b _ _ _).mono ?_; rintro e w' ⟨rfl, rfl⟩) | (go_at_call 40; refine (put_any (k := 2) HWR.out (by decide) (by omega) (by rw [HL.out, List.length_take]; omega)).mono ?_; rintro e w2 ⟨rfl, h2, u2⟩; have H2 := Lib.hid h2; have U2 := Lib.hid u2; clear h2 u2))
          go_roundw
          case rel =>
            refine ⟨k + 1, by omega, by go_num, fun j hj h7 => ?_, by rw [HS.out]; exact H2.out, HU.out.step U2.out (fun x hx => .inr (by simp at hx; omega))⟩
            by_cases e : j = k
            · subst e; rw [HX.out]; exact hI
            · exact HIN.out j (by omega) h7
          case measure => simp [intOf]; omega
      · obtain rfl : k = 120 := by omega
        have HO := Lib.hid (okCounts_of (l := l) fun k hk => HIN.out k (by have := H120.out; omega) hk)
        have hl240 : (countBytes (l.take 120)).length = 240 := by rw [countBytes_len, List.length_take]; have := H120.out; omega
        have HLE := Lib.hid hl240
        clear hl240
        go_wp2_with (go_at_call 41; refine (body_any HWR.out (by rw [HLE.out]; exact Nat.le_refl _)).mono ?_; rintro e w2 ⟨rfl, rfl, h2⟩; have H2 := Lib.hid h2; clear h2)
        go_ret2
        have e : putCounts l = some (pad (countBytes (l.take 120)) 240) := by
          unfold putCounts pad
          rw [HO.out, decide_eq_true H120.out, Bool.and_self, if_pos rfl, HLE.out, List.take_of_length_le (by have := H120.out; omega)]
          simp
        rw [e]
        exact ⟨PutOut.yes (H2.out.ret (Nat.le_refl _) (pad_len (by rw [HLE.out]; exact Nat.le_refl _)) (by decide)), HU.out⟩
  · have hni : ¬ (l.length : Int) = 120 := by omega
    have hp : putCounts l = none := by unfold putCounts; rw [decide_eq_false h120, Bool.and_false]; rfl
    have HP := Lib.hid hp
    clear hp
    go_enter Try.func31, Try.ntmps31
    go_wp2
    go_ret2
    rw [HP.out]
    exact ⟨PutOut.no _ _, Upd.refl _ _⟩
set_option maxRecDepth 100000 in
set_option maxHeartbeats 1600000 in
theorem rputCounts_any {w : World} {a : Option Addr} {l : List Int} {cap : Nat} (hb : IsInts w a l) (hl : l.length ≤ 20000000000000) :
    Calls Try.prog 34 #[.slice a l.length cap] w fun e w' => PutOut w.heap.size (putCounts l) e w' ∧ Upd [] w w' := by
  have HB := Lib.hid hb
  clear hb
  go_enter Try.func34, Try.ntmps34
  go_wp2
  go_loopw [4, 5] (fun v i wr => ∃ k : Nat, k ≤ l.length ∧ i = .int .i64 k ∧ (∀ j (hj : j < k) (h7 : j < l.length), inB l[j] 1000 = true) ∧ IsOut wr w.heap.size v (countBytes (l.take k)) ∧ Mine (.slice none 0 0) w v wr) (fun _ i _ => l.length - (intOf i).toNat)
  case atStart => exact ⟨0, by omega, rfl, fun j hj => absurd hj (by omega), by simpa [countBytes] using IsOut.nil w w.heap.size, Mine.refl _ _⟩
  case round =>
    obtain ⟨k, hk, rfl, hin, hV, hM⟩ := hrel
    have HIN := Lib.hid hin
    have HV := Lib.hid hV
    have HM := Lib.hid hM
    have HU := Lib.hid hM.fresh
    clear hin hV hM
    by_cases hlt : k < l.length
    · obtain ⟨b, o, rfl, hc⟩ := (HB.out.upd HU.out (by simp)) k hlt
      have HS := Lib.hid (countBytes_take l k hlt)
      have HL := Lib.hid (countBytes_len (l.take k))
      have HN := Lib.hid (fun h => putCounts_no (l := l) hlt h)
      generalize hx : l[k] = x at hc HS HN
      have HX := Lib.hid hx
      clear hx
      cases hI : inB x 1000
      · go_wp2_with (go_at_call 45; refine (rin_b _ _ _).mono ?_; rintro e w' ⟨rfl, rfl⟩)
        go_ret2
        rw [HN.out hI]
        exact ⟨PutOut.no _ _, HU.out⟩
      · obtain ⟨m, rfl⟩ := Int.eq_ofNat_of_zero_le (inB_true.1 hI).1
        have HSZ := Lib.hid HU.out.size
        go_wp2_with (first | (go_at_call 45; refine (rin_b _ _ _).mono ?_; rintro e w' ⟨rfl, rfl⟩) | (go_at_call 46; refine (rput_any (k := 2) HV.out HSZ.out (by decide) (by rw [HL.out, List.length_take]; omega)).mono ?_; rintro e w2 ⟨v2, rfl, h2, m2⟩; have H2 := Lib.hid h2; have M2 := Lib.hid m2; clear h2 m2))
        go_roundw
        case rel =>
          refine ⟨k + 1, by omega, by go_num, fun j hj h7 => ?_, by rw [HS.out]; exact H2.out, HM.out.trans M2.out⟩
          by_cases e : j = k
          · subst e; rw [HX.out]; exact hI
          · exact HIN.out j (by omega) h7
        case measure => simp [intOf]; omega
    · obtain rfl : k = l.length := by omega
      have HO := Lib.hid (okCounts_of (l := l) fun k hk => HIN.out k (by omega) hk)
      have hV := HV.out
      rw [List.take_length] at hV
      have HV2 := Lib.hid hV
      clear hV
      by_cases h120 : l.length = 120
      · have hni : (l.length : Int) = 120 := by omega
        have hp : putCounts l = some (countBytes l) := by unfold putCounts; rw [HO.out, decide_eq_true h120]; rfl
        have HP := Lib.hid hp
        clear hp
        go_wp2
        go_ret2
        rw [HP.out]
        exact ⟨PutOut.yes HV2.out.ret, HU.out⟩
      · have hni : ¬ (l.length : Int) = 120 := by omega
        have hp : putCounts l = none := by unfold putCounts; rw [decide_eq_false h120, Bool.and_false]; rfl
        have HP := Lib.hid hp
        clear hp
        go_wp2
        go_ret2
        rw [HP.out]
        exact ⟨PutOut.no _ _, HU.out⟩
end Go.Proofs.Ytgmabhfffgnjjaa
namespace Go.Proofs.Ytgmabhfffgnjjaa
open Go.RowKit

theorem getCounts_not {b : List Nat} {k : Nat} (hk : k < 120) (h : inB (numi (seg b (2 * k) 2)) 1000 = false) : getCounts b = none := by
  have hk' : k < (countsOf b).length := by rw [countsOf_len]; exact hk
  unfold getCounts
  rw [okCounts_not hk' (by rw [countsOf_get]; exact h), Bool.and_false]
  rfl
theorem okCounts_all {b : List Nat} (h : ∀ j, j < 120 → inB (numi (seg b (2 * j) 2)) 1000 = true) : okCounts (countsOf b) = true :=
  okCounts_of fun k hk => by rw [countsOf_get]; exact h k (by rw [countsOf_len] at hk; exact hk)
set_option maxRecDepth 100000 in
set_option maxHeartbeats 3200000 in
theorem getCounts_any {w : World} {a : Option Addr} {l : List Nat} {cap : Nat} (hb : IsBytes w a l) (hc : l.length ≤ cap) (hm : cap ≤ 9223372036854775807) :
    Calls Try.prog 32 #[.slice a l.length cap] w fun e w' => IntsRes w.heap.size (getCounts l) e w' ∧ Upd [] w w' := by
  by_cases h240 : l.length = 240
  · obtain ⟨b, o, rfl, hc00⟩ := hb.2 0 (by omega)
    have hbl : b < w.heap.size := World.block_lt_of_cell? _ _ hc00
    clear hc00
    have hR : IsRd (w.alloc (.cells #[.slice (some ⟨b, o, none⟩) l.length cap] 70)) w.heap.size (some b) l :=
      ⟨⟨some ⟨b, o, none⟩, cap, heap_alloc_new w _, hb.upd ((Upd.refl [] w).alloc _) (by simp), hc, by unfold maxLen; omega, by rintro b' o' ⟨⟩; rfl⟩, by intro e; simp only [Option.some.injEq] at e; omega⟩
    have HR := Lib.hid hR
    have HOK := Lib.hid hb.1
    have HL := Lib.hid h240
    have hbd := fun a n c w => buildRd a n c w
    rw [h240] at HR ⊢
    clear hb hR h240 hc
    go_enter Try.func32, Try.ntmps32
    go_wp2
    go_loopw [5, 12] (fun v i wr => ∃ k : Nat, k ≤ 120 ∧ i = .int .i64 k ∧ (∀ j, j < k → inB (numi (seg l (2 * j) 2)) 1000 = true) ∧ IsRd wr w.heap.size (some b) (l.drop (2 * k)) ∧ IntsOut wr (w.heap.size + 1) v ((countsOf l).take k) ∧ Upd [] w wr) (fun _ i _ => 120 - (intOf i).toNat)
    case atStart => exact ⟨0, by decide, rfl, fun j hj => absurd hj (by omega), HR.out, by simpa using IntsOut.nil _ _, (Upd.refl [] w).alloc _⟩
    case round =>
      obtain ⟨k, hk, rfl, hin, hR, hV, hU⟩ := hrel
      have HIN := Lib.hid hin
      have HU := Lib.hid hU
      have HV := Lib.hid hV
      have HRD := Lib.hid hR
      clear hin hR hV hU
      by_cases hlt : k < 120
      · have hget := get_any (k := 2) HRD.out (by decide) (by rw [List.length_drop, HL.out]; omega)
        have hsg : (l.drop (2 * k)).take 2 = seg l (2 * k) 2 := (seg_eq (by have := HL.out; omega)).symm
        rw [hsg] at hget
        have HGET := Lib.hid hget
        have HN := Lib.hid (getCounts_not (b := l) hlt)
        have HT := Lib.hid (countsOf_take l k hlt)
        have HLN := Lib.hid (show ((countsOf l).take k).length ≤ 10000000000000 by rw [List.length_take, countsOf_len]; omega)
        clear hget hsg
        generalize hx : numi (seg l (2 * k) 2) = x at HGET HN HT
        have HX := Lib.hid hx
        clear hx
        cases hI : inB x 1000
        · go_wp2_with (first
            | (go_at_call 42; refine HGET.out.mono ?_; rintro e w2 ⟨rfl, h2, u2⟩; have U2 := Lib.hid u2; clear h2 u2)
            | (go_at_call 39; refine (in_b _ _ _).mono ?_; rintro e w' ⟨rfl, rfl⟩))
          go_ret2
          rw [HN.out hI]
          exact ⟨IntsRes.no _ _, HU.out.step U2.out (fun x hx => .inr (by simp at hx; omega))⟩
        · have hsz := HU.out.size
          have hrd := HRD.out
          obtain ⟨⟨_, _, hrb, _⟩, _⟩ := hrd
          have hlt0 := lt_of_block hrb
          clear hrb
          go_wp2_with (first
            | (go_at_call 42; refine HGET.out.mono ?_; rintro e w2 ⟨rfl, h2, u2⟩; have H2 := Lib.hid h2; have U2 := Lib.hid u2; have hsz2 := u2.size; have HV2 := Lib.hid (HV.out.upd u2 (fun y hy hy2 => by have := HV.out.low y hy; simp at hy2; omega)); clear h2 u2)
            | (go_at_call 39; refine (in_b _ _ _).mono ?_; rintro e w' ⟨rfl, rfl⟩)
            | (at_builtin; refine wpList_pushi rfl (.tmp 18) (.tmp 20) rfl rfl (HV2.out.upd ((Upd.refl [] _).alloc _) (by simp)) w2.heap.size 1 x rfl (news_at _ _ _ 0 _ rfl) HLN.out (by simp; omega) ?_; intro v' w3 hn3 hx3; have HN3 := Lib.hid hn3; have HX3 := Lib.hid hx3; clear hn3 hx3))
          go_roundw
          case rel =>
            have u3 : Upd u5.ownBlock.toList w2 w3 := ((Upd.refl _ w2).alloc _).trans HX3.out.upd
            refine ⟨k + 1, by omega, by go_num, fun j hj => ?_, ?_, by rw [HT.out]; exact HN3.out, (HU.out.step U2.out (fun x hx => .inr (by simp at hx; omega))).step u3 (fun x hx => .inr (by have := HV2.out.low x hx; omega))⟩
            · by_cases e : j = k
              · subst e; rw [HX.out]; exact hI
              · exact HIN.out j (by omega)
            · have h3 := H2.out.upd u3 (fun hx => by have := HV2.out.low _ hx; omega) (by rintro b' ⟨⟩ hx; have := HV2.out.low _ hx; omega)
              rw [List.drop_drop] at h3
              exact h3
          case measure => simp [intOf]; omega
      · obtain rfl : k = 120 := by omega
        have hO := okCounts_all HIN.out
        have hg : getCounts l = some (countsOf l) := by unfold getCounts; rw [hO, HL.out]; rfl
        have HG := Lib.hid hg
        have hv := HV.out
        rw [List.take_of_length_le (by rw [countsOf_len]; exact Nat.le_refl _)] at hv
        have HV2 := Lib.hid hv
        clear hO hg hv
        go_wp2
        go_ret2
        rw [HG.out]
        exact ⟨IntsRes.yes (HV2.out.base (by omega)), HU.out⟩
  · have hni : ¬ (l.length : Int) = 240 := by omega
    have hg : getCounts l = none := by unfold getCounts; rw [decide_eq_false h240]; rfl
    have HG := Lib.hid hg
    clear hg
    go_enter Try.func32, Try.ntmps32
    go_wp2
    go_ret2
    rw [HG.out]
    exact ⟨IntsRes.no _ _, Upd.refl _ _⟩

set_option maxRecDepth 100000 in
set_option maxHeartbeats 3200000 in
theorem rgetCounts_any {w : World} {a : Option Addr} {l : List Nat} {cap : Nat} (hb : IsBytes w a l) (hl : l.length ≤ 9223372036854775807) :
    Calls Try.prog 33 #[.slice a l.length cap] w fun e w' => IntsRes w.heap.size (refCounts l) e w' ∧ Upd [] w w' := by
  have HB0 : Hid (∀ w', Upd [] w w' → IsBytes w' a l) := fun w' u => hb.upd u (by simp)
  have HOK := Lib.hid hb.1
  clear hb
  have hpc : putCounts (countsOf l) = if okCounts (countsOf l) then some (countBytes (countsOf l)) else none := by unfold putCounts; rw [countsOf_len, decide_eq_true rfl, Bool.and_true]
  have HPC := Lib.hid hpc
  have HCL := Lib.hid (countsOf_len l)
  clear hpc
  go_enter Try.func33, Try.ntmps33
  go_wp2
  go_loopw [4, 5] (fun v i wr => ∃ k : Nat, k ≤ 120 ∧ i = .int .i64 k ∧ IntsOut wr w.heap.size v ((countsOf l).take k) ∧ Mine (.slice none 0 0) w v wr) (fun _ i _ => 120 - (intOf i).toNat)
  case atStart => exact ⟨0, by decide, rfl, by simpa using IntsOut.nil w w.heap.size, Mine.refl _ _⟩
  case round =>
    obtain ⟨k, hk, rfl, hV, hM⟩ := hrel
    have HV := Lib.hid hV
    have HM := Lib.hid hM
    have HU := Lib.hid hM.fresh
    clear hV hM
    by_cases hlt : k < 120
    · have HLN := Lib.hid (show ((countsOf l).take k).length ≤ 10000000000000 by rw [List.length_take, HCL.out]; omega)
      have HT := Lib.hid (countsOf_take l k hlt)
      have HNB := Lib.hid (number_i (cap := cap) (2 * (k : Int)) 2 (HB0.out _ HU.out) hl (by decide) (by decide) (by omega) (by omega))
      have htn : (2 * (k : Int)).toNat = 2 * k := by omega
      rw [htn, show (2 : Int).toNat = 2 from rfl] at HNB
      have hsz := HU.out.size
      clear htn
      generalize numi (seg l (2 * k) 2) = x at HNB HT
      go_wp2_with (first
        | (go_at_call 43; (with_reducible refine HNB.out.mono ?_); rintro e w' ⟨rfl, rfl⟩)
        | (at_builtin; refine wpList_pushi rfl (.tmp 12) (.tmp 17) rfl rfl (HV.out.upd ((Upd.refl [] _).alloc _) (by simp)) wr.heap.size 1 x rfl (news_at _ _ _ 0 _ rfl) HLN.out (by simp; omega) ?_; intro v' w3 hn3 hx3; have HN3 := Lib.hid hn3; have HX3 := Lib.hid hx3; clear hn3 hx3))
      go_roundw
      case rel => exact ⟨k + 1, by omega, by go_num, by rw [HT.out]; exact HN3.out, (HM.out.alloc _).trans HX3.out⟩
      case measure => simp [intOf]; omega
    · obtain rfl : k = 120 := by omega
      have hv := HV.out
      rw [List.take_of_length_le (by rw [HCL.out]; exact Nat.le_refl _)] at hv
      obtain ⟨a0, c0, rfl, hi0, hbk, hc0, hm0⟩ := hv.slice
      rw [HCL.out] at hbk hv
      have HV2 := Lib.hid hv
      have HP := Lib.hid (rputCounts_any (cap := c0) hi0 (by rw [HCL.out]; decide))
      rw [HCL.out, HPC.out] at HP
      clear hv hi0 hbk HV
      rw [HCL.out]
      cases hok : okCounts (countsOf l)
      · have hr : refCounts l = none := by unfold refCounts; rw [hok]; rfl
        have HR := Lib.hid hr
        rw [hok] at HP
        simp only [Bool.false_eq_true, if_false] at HP
        clear hok hr
        go_wp2_with (go_at_call 34; refine HP.out.mono ?_; rintro e w1 ⟨⟨v, rfl, hv⟩, u1⟩; have U1 := Lib.hid u1; clear hv u1; simp only [Option.isSome_none, Bool.false_eq_true, if_false])
        go_ret2
        rw [HR.out]
        exact ⟨IntsRes.no _ _, HU.out.trans U1.out⟩
      · rw [hok] at HP
        simp only [if_true] at HP
        cases heq : decide (countBytes (countsOf l) = l)
        · have hr : refCounts l = none := by unfold refCounts; rw [hok, heq]; rfl
          have HR := Lib.hid hr
          have HE := Lib.hid heq
          clear hok hr heq
          go_wp2_with (first
            | (go_at_call 34; refine HP.out.mono ?_; rintro e w1 ⟨⟨v, rfl, hv⟩, u1⟩; simp only [Option.isSome_some, if_true]; rw [Option.getD_some] at hv; obtain ⟨av, cv, rfl, hvb, _, _, _⟩ := hv.slice; have HS := Lib.hid (same_any (cap := cv) (cap' := cap) hvb (HB0.out _ (HU.out.trans u1)) (by rw [countBytes_len, countsOf_len]; decide) hl); rw [HE.out] at HS; have U1 := Lib.hid u1; clear hv u1 hvb)
            | (go_at_call 44; refine HS.out.mono ?_; rintro e w2 ⟨rfl, u2⟩; have U2 := Lib.hid u2; clear u2))
          go_ret2
          rw [HR.out]
          exact ⟨IntsRes.no _ _, (HU.out.trans U1.out).trans U2.out⟩
        · have hr : refCounts l = some (countsOf l) := by unfold refCounts; rw [hok, heq]; rfl
          have HR := Lib.hid hr
          have HE := Lib.hid heq
          clear hok hr heq
          go_wp2_with (first
            | (go_at_call 34; refine HP.out.mono ?_; rintro e w1 ⟨⟨v, rfl, hv⟩, u1⟩; simp only [Option.isSome_some, if_true]; rw [Option.getD_some] at hv; obtain ⟨av, cv, rfl, hvb, _, _, _⟩ := hv.slice; have HS := Lib.hid (same_any (cap := cv) (cap' := cap) hvb (HB0.out _ (HU.out.trans u1)) (by rw [countBytes_len, countsOf_len]; decide) hl); rw [HE.out] at HS; have U1 := Lib.hid u1; clear hv u1 hvb)
            | (go_at_call 44; refine HS.out.mono ?_; rintro e w2 ⟨rfl, u2⟩; have U2 := Lib.hid u2; clear u2))
          go_ret2
          rw [HR.out]
          exact ⟨IntsRes.yes ((HV2.out.upd U1.out (by simp)).upd U2.out (by simp)), (HU.out.trans U1.out).trans U2.out⟩
end Go.Proofs.Ytgmabhfffgnjjaa
