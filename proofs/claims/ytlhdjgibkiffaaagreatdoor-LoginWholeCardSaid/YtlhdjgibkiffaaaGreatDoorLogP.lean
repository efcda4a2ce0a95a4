/-
  PROVED HERE: plain laws on a login (P20): what a request is answered, and what comes of it. Conditions: those that each theorem names; no program's text is used.
-/
import Derived.Test.YtlhdjgibkiffaaaGreatDoorKeyP
namespace Go.Proofs.YtlhdjgibkiffaaaGreatDoor

/-- Terms. -/
structure Tm where
  name : Txt
  isid : Int
  tsih : Int
  head : Bool
  data : Bool
  send : Int
/-- A login. -/
structure Lg where
  tm : Tm
  stage : Nat
  taken : Nat
  tag : Int
  over : Bool
  operated : Bool
  ans : List Txt
/-- What of a PDU matters to a login. -/
structure Pd where
  op : Int
  imm : Bool
  flags : Nat
  info : Nat
  wide : Int
  short : Int
  tag : Int
  data : Txt
/-- An answer. -/
structure An where
  flags : Nat
  status : Int
  text : Txt
  done : Bool
def Lg.new : Lg := ⟨⟨[], 0, 0, false, false, 1024⟩, 0, 0, 0, false, false, []⟩
def kName : Txt := [73, 110, 105, 116, 105, 97, 116, 111, 114, 78, 97, 109, 101]
def kKind : Txt := [83, 101, 115, 115, 105, 111, 110, 84, 121, 112, 101]
def kAuth : Txt := [65, 117, 116, 104, 77, 101, 116, 104, 111, 100]
def kHead : Txt := [72, 101, 97, 100, 101, 114, 68, 105, 103, 101, 115, 116]
def kData : Txt := [68, 97, 116, 97, 68, 105, 103, 101, 115, 116]
def kLen : Txt := [77, 97, 120, 82, 101, 99, 118, 68, 97, 116, 97, 83, 101, 103, 109, 101, 110, 116, 76, 101, 110, 103, 116, 104]
def tNot : Txt := [78, 111, 116, 85, 110, 100, 101, 114, 115, 116, 111, 111, 100]
def tNormal : Txt := [78, 111, 114, 109, 97, 108]
def tNone : Txt := [78, 111, 110, 101]
def tCrc : Txt := [67, 82, 67, 51, 50, 67]
def tReject : Txt := [82, 101, 106, 101, 99, 116]
def t1024 : Txt := [49, 48, 50, 52]
def stageOf (p : Pd) : Nat := p.flags / 4 % 4
def toOf (p : Pd) : Nat := p.flags % 4
/-- What a request is refused by, but for its keys. -/
def refusedP (l : Lg) (p : Pd) : Int :=
  if l.over || decide (p.op ≠ 3) || !p.imm then 523
  else if decide (l.taken = 8) || decide (p.flags / 16 % 8 ≠ 0) then 512
  else if decide (p.info % 256 ≠ 0) then 517
  else if (decide (l.taken = 0) && decide (1 < stageOf p)) || (!decide (l.taken = 0) && decide (stageOf p ≠ l.stage)) then 523
  else if decide (128 ≤ p.flags) && (decide (toOf p ≤ stageOf p) || decide (toOf p = 2)) then 523
  else if !decide (l.taken = 0) && (decide (p.wide ≠ l.tm.isid) || decide (p.short ≠ l.tm.tsih) || decide (p.tag ≠ l.tag)) then 512
  else 0
/-- What a turn changes. -/
structure Nx where
  tm : Tm
  tag : Int
  ans : List Txt
/-- One key is answered: a value, a status. -/
def turnKey (first op1 : Bool) (n : Nx) (q : Pr) : Nx × Txt × Int :=
  if q.1 = kName then (if first then ({ n with tm := { n.tm with name := q.2 } }, [], 0) else (n, [], 512))
  else if q.1 = kKind then (if first then (n, [], if q.2 = tNormal then 0 else 521) else (n, [], 512))
  else if q.1 = kAuth then (if op1 then (n, tNot, 0) else match chooseFrom [tNone] [] q.2 with | some v => (n, v, 0) | none => (n, [], 513))
  else if q.1 = kHead ∨ q.1 = kData then
    (if op1 then
      (if q.1 ∈ n.ans then (n, [], 512) else
        match chooseFrom [tCrc, tNone] [] q.2 with
        | none => ({ n with ans := q.1 :: n.ans }, tReject, 0)
        | some v => (if q.1 = kData then { tm := { n.tm with data := decide (v = tCrc) }, tag := n.tag, ans := q.1 :: n.ans } else { tm := { n.tm with head := decide (v = tCrc) }, tag := n.tag, ans := q.1 :: n.ans }, v, 0))
    else (n, tNot, 0))
  else if q.1 = kLen then
    (if op1 then (if (numR q.2 64 16777215).2 then ({ n with tm := { n.tm with send := min (numR q.2 64 16777215).1 1024 } }, [], 0) else (n, [], 512)) else (n, tNot, 0))
  else (n, tNot, 0)
/-- All keys are. -/
def turnAll (first op1 : Bool) : Nx → List Pr → List Pr → Except Int (Nx × List Pr)
  | n, out, [] => .ok (n, out)
  | n, out, q :: r =>
    let x := turnKey first op1 n q
    if x.2.2 ≠ 0 then .error x.2.2 else turnAll first op1 x.1 (if x.2.1 = [] then out else out ++ [(q.1, x.2.1)]) r
/-- What is told of the length. -/
def told (op1 operated : Bool) (out : List Pr) : List Pr := if op1 && !operated && (findP out kLen).isNone then out ++ [(kLen, t1024)] else out
/-- The keys are answered. -/
def talkP (l : Lg) (p : Pd) : Except Int (Nx × Txt) :=
  match parseP p.data with
  | none => .error 512
  | some pairs =>
    if decide (l.taken = 0) && decide ((findP pairs kName).getD [] = []) then .error 519
    else
      match turnAll (decide (l.taken = 0)) (decide (stageOf p = 1)) (if l.taken = 0 then ⟨{ l.tm with isid := p.wide, tsih := p.short }, p.tag, l.ans⟩ else ⟨l.tm, l.tag, l.ans⟩) [] pairs with
      | .error s => .error s
      | .ok (n, out) => if mayP (told (decide (stageOf p = 1)) l.operated out) then .ok (n, printP (told (decide (stageOf p = 1)) l.operated out)) else .error 512
/-- A request is taken. -/
def takeP (l : Lg) (p : Pd) : Lg × An :=
  if refusedP l p ≠ 0 then ({ l with over := true }, ⟨0, refusedP l p, [], false⟩)
  else match talkP l p with
    | .error s => ({ l with over := true }, ⟨0, s, [], false⟩)
    | .ok (n, text) =>
      if 128 ≤ p.flags then
        (⟨n.tm, toOf p, l.taken + 1, n.tag, decide (toOf p = 3), l.operated || decide (stageOf p = 1), n.ans⟩, ⟨128 + stageOf p * 4 + toOf p, 0, text, decide (toOf p = 3)⟩)
      else
        (⟨n.tm, stageOf p, l.taken + 1, n.tag, l.over, l.operated || decide (stageOf p = 1), n.ans⟩, ⟨stageOf p * 4, 0, text, false⟩)

theorem turnAll_err {first op1 : Bool} : ∀ {r : List Pr} {n : Nx} {out : List Pr} {s : Int}, turnAll first op1 n out r = .error s → s ≠ 0
  | [], n, out, s, h => by simp [turnAll] at h
  | q :: r, n, out, s, h => by
    unfold turnAll at h
    simp only at h
    split at h
    · rename_i h0; cases h; exact h0
    · exact turnAll_err h
theorem talkP_err {l : Lg} {p : Pd} {s : Int} (h : talkP l p = .error s) : s ≠ 0 := by
  unfold talkP at h
  split at h
  · cases h; decide
  · split at h
    · cases h; decide
    · split at h
      · rename_i h2; cases h; exact turnAll_err h2
      · split at h
        · cases h
        · cases h; decide
end Go.Proofs.YtlhdjgibkiffaaaGreatDoor
