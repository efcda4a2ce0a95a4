/-
  PROVED HERE: plain laws on a login: what stays so, request by request. Conditions: those that each theorem names; no program's text is used.
-/
import Derived.Test.YtlhdjgibkiffaaaGreatDoorLogW
namespace Go.Proofs.YtlhdjgibkiffaaaGreatDoor
theorem numR_ge {s : Txt} {a b : Int} (h : (numR s a b).2 = true) : a ≤ (numR s a b).1 := by
  unfold numR at h ⊢
  cases hn : numV s with
  | none => rw [hn] at h; cases h
  | some n =>
    rw [hn] at h
    simp only at h ⊢
    by_cases hb : (n : Int) < a ∨ b < (n : Int)
    · rw [if_pos hb] at h; cases h
    · rw [if_neg hb]; omega
/-- What a key leaves as it was. -/
structure Kept (first : Bool) (n n' : Nx) : Prop where
  send : 64 ≤ n.tm.send → n.tm.send ≤ 1024 → 64 ≤ n'.tm.send ∧ n'.tm.send ≤ 1024
  ans : ∃ k, n'.ans.length = n.ans.length + k ∧ k ≤ 1
  isid : n'.tm.isid = n.tm.isid
  tsih : n'.tm.tsih = n.tm.tsih
  tag : n'.tag = n.tag
  name : first = false → n'.tm.name = n.tm.name
set_option maxHeartbeats 1000000 in
theorem turnKey_kept (first op1 : Bool) (n : Nx) (q : Pr) : Kept first n (turnKey first op1 n q).1 := by
  have id' : Kept first n n := ⟨fun h1 h2 => ⟨h1, h2⟩, ⟨0, rfl, by omega⟩, rfl, rfl, rfl, fun _ => rfl⟩
  unfold turnKey
  split
  · split
    · rename_i hf; exact ⟨fun h1 h2 => ⟨h1, h2⟩, ⟨0, rfl, by omega⟩, rfl, rfl, rfl, fun h => by rw [hf] at h; cases h⟩
    · exact id'
  · split
    · split <;> exact id'
    · split
      · split
        · exact id'
        · split <;> exact id'
      · split
        · split
          · split
            · exact id'
            · split
              · exact ⟨fun h1 h2 => ⟨h1, h2⟩, ⟨1, rfl, by omega⟩, rfl, rfl, rfl, fun _ => rfl⟩
              · split
                · exact ⟨fun h1 h2 => ⟨h1, h2⟩, ⟨1, rfl, by omega⟩, rfl, rfl, rfl, fun _ => rfl⟩
                · exact ⟨fun h1 h2 => ⟨h1, h2⟩, ⟨1, rfl, by omega⟩, rfl, rfl, rfl, fun _ => rfl⟩
          · exact id'
        · split
          · split
            · split
              · rename_i hn
                have := numR_ge hn
                exact ⟨fun h1 h2 => ⟨by simp only; omega, by simp only; omega⟩, ⟨0, rfl, by omega⟩, rfl, rfl, rfl, fun _ => rfl⟩
              · exact id'
            · exact id'
          · exact id'
theorem turnKey_nm (first op1 : Bool) (n : Nx) (q : Pr) (h : q.1 ≠ kName) : (turnKey first op1 n q).1.tm.name = n.tm.name := by
  unfold turnKey
  rw [if_neg h]
  repeat' split
  all_goals rfl
theorem turnKey_named (op1 : Bool) (n : Nx) (v : Txt) : (turnKey true op1 n (kName, v)).1.tm.name = v := by
  unfold turnKey
  rw [if_pos rfl]
  rfl
/-- What all keys leave as it was. -/
structure KeptAll (first : Bool) (n n' : Nx) (k : Nat) : Prop where
  send : 64 ≤ n.tm.send → n.tm.send ≤ 1024 → 64 ≤ n'.tm.send ∧ n'.tm.send ≤ 1024
  ans : n'.ans.length ≤ n.ans.length + k
  isid : n'.tm.isid = n.tm.isid
  tsih : n'.tm.tsih = n.tm.tsih
  tag : n'.tag = n.tag
  name : first = false → n'.tm.name = n.tm.name
theorem turnAll_kept {first op1 : Bool} : ∀ {ps : List Pr} {n n' : Nx} {out out' : List Pr}, turnAll first op1 n out ps = .ok (n', out') → KeptAll first n n' ps.length
  | [], n, n', out, out', h => by
    simp only [turnAll, Except.ok.injEq, Prod.mk.injEq] at h
    obtain ⟨rfl, rfl⟩ := h
    exact ⟨fun h1 h2 => ⟨h1, h2⟩, by simp, rfl, rfl, rfl, fun _ => rfl⟩
  | q :: r, n, n', out, out', h => by
    unfold turnAll at h
    simp only at h
    by_cases h0 : (turnKey first op1 n q).2.2 = 0
    · rw [if_neg (by simp [h0])] at h
      have h1 := turnKey_kept first op1 n q
      have h2 := turnAll_kept h
      obtain ⟨k, hk, hk1⟩ := h1.ans
      exact ⟨fun a b => h2.send (h1.send a b).1 (h1.send a b).2, by have := h2.ans; rw [List.length_cons]; omega, h2.isid.trans h1.isid, h2.tsih.trans h1.tsih, h2.tag.trans h1.tag, fun hf => (h2.name hf).trans (h1.name hf)⟩
    · rw [if_pos h0] at h; cases h
theorem turnAll_unnamed {first op1 : Bool} : ∀ {ps : List Pr} {n n' : Nx} {out out' : List Pr}, turnAll first op1 n out ps = .ok (n', out') → kName ∉ ps.map (·.1) → n'.tm.name = n.tm.name
  | [], n, n', out, out', h, _ => by
    simp only [turnAll, Except.ok.injEq, Prod.mk.injEq] at h
    rw [h.1]
  | q :: r, n, n', out, out', h, hk => by
    unfold turnAll at h
    simp only at h
    simp only [List.map_cons, List.mem_cons, not_or] at hk
    by_cases h0 : (turnKey first op1 n q).2.2 = 0
    · rw [if_neg (by simp [h0])] at h
      exact (turnAll_unnamed h hk.2).trans (turnKey_nm first op1 n q (Ne.symm hk.1))
    · rw [if_pos h0] at h; cases h
theorem turnAll_named {op1 : Bool} : ∀ {ps : List Pr} {n n' : Nx} {out out' : List Pr}, turnAll true op1 n out ps = .ok (n', out') → (ps.map (·.1)).Nodup → n'.tm.name = (findP ps kName).getD n.tm.name
  | [], n, n', out, out', h, _ => by
    simp only [turnAll, Except.ok.injEq, Prod.mk.injEq] at h
    rw [h.1]; rfl
  | q :: r, n, n', out, out', h, hk => by
    unfold turnAll at h
    simp only at h
    simp only [List.map_cons, List.nodup_cons] at hk
    by_cases h0 : (turnKey true op1 n q).2.2 = 0
    · rw [if_neg (by simp [h0])] at h
      by_cases hq : q.1 = kName
      · rw [turnAll_unnamed h (by rw [← hq]; exact hk.1)]
        obtain ⟨a, v⟩ := q
        simp only at hq
        subst hq
        rw [turnKey_named]
        simp [findP]
      · rw [turnAll_named h hk.2, turnKey_nm _ _ _ _ hq]
        have : findP (q :: r) kName = findP r kName := by unfold findP; rw [List.find?_cons]; simp [hq]
        rw [this]
    · rw [if_pos h0] at h; cases h
theorem parse_may {d : Txt} {ps : List Pr} (h : parseP d = some ps) : mayP ps = true := by
  unfold parseP at h
  cases h1 : parseFrom [] [] d with
  | none => rw [h1] at h; cases h
  | some l =>
    rw [h1] at h
    simp only at h
    by_cases h2 : mayP l = true
    · rw [if_pos h2] at h; cases h; exact h2
    · rw [if_neg h2] at h; cases h
/-- What talk leaves. -/
theorem talk_kept {l : Lg} {p : Pd} {n : Nx} {t : Txt} (h : talkP l p = .ok (n, t)) : ∃ ps, parseP p.data = some ps ∧ ps.length ≤ 16 ∧
    (64 ≤ l.tm.send → l.tm.send ≤ 1024 → 64 ≤ n.tm.send ∧ n.tm.send ≤ 1024) ∧ n.ans.length ≤ l.ans.length + 16 ∧
    (l.taken = 0 → findP ps kName = some n.tm.name ∧ n.tm.name ≠ [] ∧ n.tm.isid = p.wide ∧ n.tm.tsih = p.short) ∧
    (l.taken ≠ 0 → n.tm.name = l.tm.name ∧ n.tm.isid = l.tm.isid ∧ n.tm.tsih = l.tm.tsih) := by
  cases hp : parseP p.data with
  | none => rw [talkP_bad hp] at h; cases h
  | some ps =>
    have hm := (mayP_iff ps).1 (parse_may hp)
    by_cases hn : l.taken = 0 ∧ (findP ps kName).getD [] = []
    · rw [talkP_noname hp hn.1 hn.2] at h; cases h
    · rw [talkP_all hp (fun h0 h1 => hn ⟨h0, h1⟩)] at h
      cases ht : turnAll (decide (l.taken = 0)) (decide (stageOf p = 1)) (nx0 l p) [] ps with
      | error s => rw [ht] at h; cases h
      | ok x =>
        obtain ⟨n1, out⟩ := x
        rw [ht] at h
        simp only at h
        split at h
        · simp only [Except.ok.injEq, Prod.mk.injEq] at h
          obtain ⟨rfl, _⟩ := h
          have hk := turnAll_kept ht
          refine ⟨ps, rfl, hm.2.2.1, ?_, ?_, fun h0 => ?_, fun h0 => ?_⟩
          · have := hk.send
            unfold nx0 at this
            split at this <;> exact this
          · have := hk.ans
            have h16 := hm.2.2.1
            unfold nx0 at this
            split at this <;> (simp only at this; omega)
          · have h1 := hk.isid
            have h2 := hk.tsih
            rw [decide_eq_true h0] at ht
            have h3 := turnAll_named ht hm.2.1
            unfold nx0 at h1 h2
            rw [if_pos h0] at h1 h2
            have hne : (findP ps kName).getD [] ≠ [] := fun h1 => hn ⟨h0, h1⟩
            cases hf : findP ps kName with
            | none => rw [hf] at hne; exact absurd rfl hne
            | some v =>
              rw [hf] at h3 hne
              simp only [Option.getD_some] at h3 hne
              exact ⟨by rw [h3], by rw [h3]; exact hne, h1, h2⟩
          · have h1 := hk.isid
            have h2 := hk.tsih
            have h3 := hk.name (decide_eq_false h0)
            unfold nx0 at h1 h2 h3
            rw [if_neg h0] at h1 h2 h3
            exact ⟨h3, h1, h2⟩
        · cases h
/-- What stays so of a login. -/
structure Fine (l : Lg) : Prop where
  taken : l.taken ≤ 8
  send0 : 64 ≤ l.tm.send
  send1 : l.tm.send ≤ 1024
  name : l.taken ≠ 0 → l.tm.name ≠ []
  ans : l.ans.length ≤ 16 * l.taken
theorem Fine.new : Fine Lg.new := ⟨by decide, by decide, by decide, fun h => absurd rfl h, by decide⟩
/-- A request that is refused. -/
theorem take_no {l : Lg} {p : Pd} (hf : Fine l) (h : (takeP l p).2.status ≠ 0) : (takeP l p).1 = { l with over := true } ∧ (takeP l p).2 = ⟨0, (takeP l p).2.status, [], false⟩ ∧ (l.over = true → (takeP l p).2.status = 523) ∧ Fine (takeP l p).1 := by
  unfold takeP at h ⊢
  by_cases hr : refusedP l p ≠ 0
  · rw [if_pos hr] at h ⊢
    refine ⟨rfl, rfl, fun ho => ?_, ⟨hf.taken, hf.send0, hf.send1, hf.name, hf.ans⟩⟩
    simp only
    unfold refusedP
    rw [if_pos (by rw [ho]; rfl)]
  · rw [if_neg hr] at h ⊢
    have hover : l.over = true → False := fun ho => hr (by unfold refusedP; rw [if_pos (by rw [ho]; rfl)]; decide)
    cases ht : talkP l p with
    | error s => exact ⟨rfl, rfl, fun ho => (hover ho).elim, ⟨hf.taken, hf.send0, hf.send1, hf.name, hf.ans⟩⟩
    | ok x =>
      obtain ⟨n, t⟩ := x
      rw [ht] at h
      simp only at h
      split at h <;> exact absurd rfl h
/-- A request that is taken. -/
theorem take_ok {l : Lg} {p : Pd} (hf : Fine l) (h : (takeP l p).2.status = 0) : l.over = false ∧ (takeP l p).1.taken = l.taken + 1 ∧ (takeP l p).1.over = (takeP l p).2.done ∧ Fine (takeP l p).1 ∧
    ∃ ps, parseP p.data = some ps ∧ (l.taken = 0 → findP ps kName = some (takeP l p).1.tm.name ∧ (takeP l p).1.tm.isid = p.wide ∧ (takeP l p).1.tm.tsih = p.short) ∧
    (l.taken ≠ 0 → (takeP l p).1.tm.name = l.tm.name ∧ (takeP l p).1.tm.isid = l.tm.isid ∧ (takeP l p).1.tm.tsih = l.tm.tsih) := by
  unfold takeP at h ⊢
  by_cases hr : refusedP l p ≠ 0
  · rw [if_pos hr] at h; exact absurd h hr
  · rw [if_neg hr] at h ⊢
    have hover : l.over = false := by
      cases ho : l.over with
      | false => rfl
      | true => exact (hr (by unfold refusedP; rw [if_pos (by rw [ho]; rfl)]; decide)).elim
    have h8 : l.taken ≠ 8 := fun h8 => hr (by
      unfold refusedP
      split
      · decide
      · rw [if_pos (by rw [decide_eq_true h8]; rfl)]; decide)
    cases ht : talkP l p with
    | error s => rw [ht] at h; exact absurd h (talkP_err ht)
    | ok x =>
      obtain ⟨n, t⟩ := x
      obtain ⟨ps, hp, h16, hs, ha, hz, hnz⟩ := talk_kept ht
      have hfin : ∀ st ov op, Fine ⟨n.tm, st, l.taken + 1, n.tag, ov, op, n.ans⟩ := fun st ov op => ⟨by have := hf.taken; simp only; omega, (hs hf.send0 hf.send1).1, (hs hf.send0 hf.send1).2, fun _ => by
        by_cases h0 : l.taken = 0
        · exact (hz h0).2.1
        · simp only; rw [(hnz h0).1]; exact hf.name h0, by have := hf.ans; simp only; omega⟩
      simp only
      split
      · exact ⟨hover, rfl, rfl, hfin _ _ _, ps, hp, fun h0 => ⟨(hz h0).1, (hz h0).2.2⟩, hnz⟩
      · exact ⟨hover, rfl, hover, hfin _ _ _, ps, hp, fun h0 => ⟨(hz h0).1, (hz h0).2.2⟩, hnz⟩
end Go.Proofs.YtlhdjgibkiffaaaGreatDoor
