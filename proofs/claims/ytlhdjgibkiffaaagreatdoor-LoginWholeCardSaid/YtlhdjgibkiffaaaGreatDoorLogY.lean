/-
  PROVED HERE: plain laws on a login in two requests, and in one. Conditions: those that each theorem names; no program's text is used.
-/
import Derived.Test.YtlhdjgibkiffaaaGreatDoorLogI
namespace Go.Proofs.YtlhdjgibkiffaaaGreatDoor
/-- A text that can't stand as a value of its own. -/
def rawP (s : Txt) : Bool := s.contains 0 || decide (200 < s.length)
theorem raw_val {s : Txt} (h : rawP s = false) : okVal s = true ∧ s.length ≤ 200 := by
  simp only [rawP, Bool.or_eq_false_iff, decide_eq_false_iff_not] at h
  refine ⟨?_, by omega⟩
  simp only [okVal, Bool.and_eq_true, decide_eq_true_eq, Bool.not_eq_true']
  exact ⟨by omega, h.1⟩
def onePs (n : Txt) : List Pr := [(kName, n)]
def restPs (h d l : Txt) : List Pr := [(kHead, h), (kData, d), (kLen, l)]
theorem keys_ok : okKey kName = true ∧ okKey kHead = true ∧ okKey kData = true ∧ okKey kLen = true := by decide
theorem may_one {n : Txt} (hn : rawP n = false) : mayP (onePs n) = true := by
  obtain ⟨n1, n2⟩ := raw_val hn
  rw [mayP_iff]
  refine ⟨?_, by simp [onePs], by simp [onePs], ?_⟩
  · intro p hp
    simp only [onePs, List.mem_cons, List.not_mem_nil, or_false] at hp
    subst hp
    exact ⟨keys_ok.1, n1⟩
  · simp [onePs, total, kName]; omega
theorem may_rest {h d l : Txt} (hh : rawP h = false) (hd : rawP d = false) (hl : rawP l = false) : mayP (restPs h d l) = true := by
  obtain ⟨h1, h2⟩ := raw_val hh
  obtain ⟨d1, d2⟩ := raw_val hd
  obtain ⟨l1, l2⟩ := raw_val hl
  rw [mayP_iff]
  refine ⟨?_, by simp [restPs]; decide, by simp [restPs], ?_⟩
  · intro p hp
    simp only [restPs, List.mem_cons, List.not_mem_nil, or_false] at hp
    rcases hp with rfl | rfl | rfl
    · exact ⟨keys_ok.2.1, h1⟩
    · exact ⟨keys_ok.2.2.1, d1⟩
    · exact ⟨keys_ok.2.2.2, l1⟩
  · simp [restPs, total, kHead, kData, kLen]; omega
theorem may_all {n h d l : Txt} (hn : rawP n = false) (hh : rawP h = false) (hd : rawP d = false) (hl : rawP l = false) : mayP (onePs n ++ restPs h d l) = true := by
  obtain ⟨n1, n2⟩ := raw_val hn
  obtain ⟨h1, h2⟩ := raw_val hh
  obtain ⟨d1, d2⟩ := raw_val hd
  obtain ⟨l1, l2⟩ := raw_val hl
  rw [mayP_iff]
  refine ⟨?_, by simp [restPs, onePs]; decide, by simp [restPs, onePs], ?_⟩
  · intro p hp
    simp only [onePs, restPs, List.cons_append, List.nil_append, List.mem_cons, List.not_mem_nil, or_false] at hp
    rcases hp with rfl | rfl | rfl | rfl
    · exact ⟨keys_ok.1, n1⟩
    · exact ⟨keys_ok.2.1, h1⟩
    · exact ⟨keys_ok.2.2.1, d1⟩
    · exact ⟨keys_ok.2.2.2, l1⟩
  · simp [restPs, onePs, total, kName, kHead, kData, kLen]; omega
def wq (fl : Nat) (isid tsih tag : Int) (d : Txt) : Pd := ⟨3, true, fl, 0, isid, tsih, tag, d⟩
theorem turnKey_both (op1 : Bool) (n : Nx) (q : Pr) (h1 : q.1 ≠ kName) (h2 : q.1 ≠ kKind) : turnKey true op1 n q = turnKey false op1 n q := by
  unfold turnKey
  rw [if_neg h1, if_neg h2, if_neg h1, if_neg h2]
theorem turnAll_both (op1 : Bool) : ∀ (ps : List Pr) (n : Nx) (out : List Pr), (∀ q ∈ ps, q.1 ≠ kName ∧ q.1 ≠ kKind) → turnAll true op1 n out ps = turnAll false op1 n out ps
  | [], n, out, _ => rfl
  | q :: r, n, out, h => by
    unfold turnAll
    rw [turnKey_both op1 n q (h q (by simp)).1 (h q (by simp)).2]
    simp only
    split
    · rfl
    · exact turnAll_both op1 r _ _ (fun q hq => h q (by simp [hq]))
theorem rest_keys (h d l : Txt) : ∀ q ∈ restPs h d l, q.1 ≠ kName ∧ q.1 ≠ kKind := by
  intro q hq
  simp only [restPs, List.mem_cons, List.not_mem_nil, or_false] at hq
  rcases hq with rfl | rfl | rfl
  · exact (by decide : kHead ≠ kName ∧ kHead ≠ kKind)
  · exact (by decide : kData ≠ kName ∧ kData ≠ kKind)
  · exact (by decide : kLen ≠ kName ∧ kLen ≠ kKind)
def yL (n : Txt) (isid tsih tag : Int) : Lg := ⟨⟨n, isid, tsih, false, false, 1024⟩, 1, 1, tag, false, false, []⟩
theorem take_y {n : Txt} (hn : rawP n = false) (hne : n ≠ []) (isid tsih tag : Int) : takeP Lg.new (wq 129 isid tsih tag (printP (onePs n))) = (yL n isid tsih tag, ⟨129, 0, [], false⟩) := by
  have hr : refusedP Lg.new (wq 129 isid tsih tag (printP (onePs n))) = 0 := by simp [refusedP, Lg.new, wq, stageOf, toOf]
  have hp : parseP (wq 129 isid tsih tag (printP (onePs n))).data = some (onePs n) := parseP_printed (may_one hn)
  have ht : talkP Lg.new (wq 129 isid tsih tag (printP (onePs n))) = .ok (⟨⟨n, isid, tsih, false, false, 1024⟩, tag, []⟩, []) := by
    rw [talkP_all hp (fun _ h => hne (by simpa [findP, onePs] using h))]
    simp [turnAll, turnKey, onePs, nx0, Lg.new, wq, stageOf, told, mayP, mayFrom, total, printP]
  unfold takeP
  rw [if_neg (by rw [hr]; simp), ht]
  simp [wq, toOf, stageOf, Lg.new, yL]
theorem talk_x {n h d l : Txt} (hn : rawP n = false) (hh : rawP h = false) (hd : rawP d = false) (hl : rawP l = false) (hne : n ≠ []) (isid tsih tag : Int) :
    talkP Lg.new (wq 135 isid tsih tag (printP (onePs n) ++ printP (restPs h d l))) = talkP (yL n isid tsih tag) (wq 135 isid tsih tag (printP (restPs h d l))) := by
  have hp : parseP (wq 135 isid tsih tag (printP (onePs n) ++ printP (restPs h d l))).data = some (onePs n ++ restPs h d l) := by
    show parseP (printP (onePs n) ++ printP (restPs h d l)) = _
    rw [← printP_append]
    exact parseP_printed (may_all hn hh hd hl)
  have hq : parseP (wq 135 isid tsih tag (printP (restPs h d l))).data = some (restPs h d l) := parseP_printed (may_rest hh hd hl)
  rw [talkP_all hp (fun _ h => hne (by simpa [findP, onePs, kName] using h)), talkP_all hq (fun h0 => by cases h0)]
  have e1 : decide (Lg.new.taken = 0) = true := rfl
  have e2 : ∀ x, decide (stageOf (wq 135 isid tsih tag x) = 1) = true := fun x => by simp [stageOf, wq]
  have e3 : ∀ x, nx0 Lg.new (wq 135 isid tsih tag x) = ⟨⟨[], isid, tsih, false, false, 1024⟩, tag, []⟩ := fun x => by simp [nx0, Lg.new, wq]
  have e4 : decide ((yL n isid tsih tag).taken = 0) = false := rfl
  have e5 : ∀ x, nx0 (yL n isid tsih tag) (wq 135 isid tsih tag x) = ⟨⟨n, isid, tsih, false, false, 1024⟩, tag, []⟩ := fun x => by simp [nx0, yL]
  rw [e1, e2, e2, e3, e4, e5]
  have h1 : turnAll true true ⟨⟨[], isid, tsih, false, false, 1024⟩, tag, []⟩ [] (onePs n ++ restPs h d l) = turnAll false true ⟨⟨n, isid, tsih, false, false, 1024⟩, tag, []⟩ [] (restPs h d l) := by
    rw [← turnAll_both true _ _ _ (rest_keys h d l)]
    show turnAll true true _ [] ((kName, n) :: restPs h d l) = _
    rw [turnAll]
    simp [turnKey]
  rw [h1]
  rfl
/-- One request in the place of two. -/
theorem whole_plain {n h d l : Txt} (hn : rawP n = false) (hh : rawP h = false) (hd : rawP d = false) (hl : rawP l = false) (hne : n ≠ []) (isid tsih tag : Int) :
    ∃ (x z : Lg) (a : An), takeP Lg.new (wq 135 isid tsih tag (printP (onePs n) ++ printP (restPs h d l))) = (x, a) ∧ takeP (yL n isid tsih tag) (wq 135 isid tsih tag (printP (restPs h d l))) = (z, a) ∧ (a.status = 0 → x.tm = z.tm) := by
  have hr : refusedP Lg.new (wq 135 isid tsih tag (printP (onePs n) ++ printP (restPs h d l))) = 0 := by simp [refusedP, Lg.new, wq, stageOf, toOf]
  have hr2 : refusedP (yL n isid tsih tag) (wq 135 isid tsih tag (printP (restPs h d l))) = 0 := by
    simp [refusedP, yL, wq, stageOf, toOf]
  unfold takeP
  rw [if_neg (by rw [hr]; simp), if_neg (by rw [hr2]; simp), talk_x hn hh hd hl hne]
  cases ht : talkP (yL n isid tsih tag) (wq 135 isid tsih tag (printP (restPs h d l))) with
  | error s => exact ⟨_, _, _, rfl, rfl, fun h0 => absurd h0 (talkP_err ht)⟩
  | ok x => obtain ⟨n1, t⟩ := x; exact ⟨_, _, _, rfl, rfl, fun _ => rfl⟩
end Go.Proofs.YtlhdjgibkiffaaaGreatDoor
