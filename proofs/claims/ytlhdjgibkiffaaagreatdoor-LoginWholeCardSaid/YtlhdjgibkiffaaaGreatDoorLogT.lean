/-
  PROVED HERE: one key is answered as the plain function says, whichever it is. Conditions: those that each theorem names.
-/
import Derived.Test.YtlhdjgibkiffaaaGreatDoorLogA
import Derived.Test.YtlhdjgibkiffaaaGreatDoorKeyA
import Derived.Test.YtlhdjgibkiffaaaGreatDoorKeyB
import Derived.Test.YtlhdjgibkiffaaaGreatDoorKeyF
namespace Go.Proofs.YtlhdjgibkiffaaaGreatDoor
open Go.RowKit Go.Shelf
/-- The login that a turn would leave. -/
abbrev nextL (l : Lg) (n : Nx) : Lg := { l with tm := n.tm, tag := n.tag, ans := n.ans }
theorem ansF_none {key : Txt} (h : ansF key = none) (first op1 : Bool) (n : Nx) (val : Txt) : turnKey first op1 n (key, val) = (n, tNot, 0) := by
  unfold ansF at h
  repeat' (split at h; (· cases h))
  rename_i h1 h2 h3 h4 h5 h6
  unfold turnKey
  simp only [if_neg h1, if_neg h4, if_neg h5, if_neg h6]
  rw [if_neg (by rintro (e | e); exact h3 e; exact h2 e)]
section
variable (first op1 : Bool) (n : Nx) (val : Txt)
theorem turnKey_len : turnKey first op1 n (kLen, val) = (if op1 then (if (numR val 64 16777215).2 then ({ n with tm := { n.tm with send := min (numR val 64 16777215).1 1024 } }, [], 0) else (n, [], 512)) else (n, tNot, 0)) := by
  unfold turnKey
  dsimp only
  rw [if_neg (by decide : ¬ kLen = kName), if_neg (by decide : ¬ kLen = kKind), if_neg (by decide : ¬ kLen = kAuth), if_neg (by decide : ¬ (kLen = kHead ∨ kLen = kData)), if_pos rfl]
theorem turnKey_auth : turnKey first op1 n (kAuth, val) = (if op1 then (n, tNot, 0) else match chooseFrom [tNone] [] val with | some v => (n, v, (0 : Int)) | none => (n, [], 513)) := by
  unfold turnKey
  dsimp only
  rw [if_neg (by decide : ¬ kAuth = kName), if_neg (by decide : ¬ kAuth = kKind), if_pos rfl]
  rfl
theorem turnKey_kind : turnKey first op1 n (kKind, val) = (if first then (n, [], if val = tNormal then 0 else 521) else (n, [], 512)) := by
  unfold turnKey
  dsimp only
  rw [if_neg (by decide : ¬ kKind = kName), if_pos rfl]
theorem turnKey_name : turnKey first op1 n (kName, val) = (if first then ({ n with tm := { n.tm with name := val } }, [], 0) else (n, [], 512)) := by
  unfold turnKey
  dsimp only
  rw [if_pos rfl]
theorem turnKey_data : turnKey first op1 n (kData, val) = (if op1 then (if kData ∈ n.ans then (n, [], 512) else match chooseFrom [tCrc, tNone] [] val with
    | none => ({ n with ans := kData :: n.ans }, tReject, (0 : Int))
    | some v => ({ tm := { n.tm with data := decide (v = tCrc) }, tag := n.tag, ans := kData :: n.ans }, v, 0)) else (n, tNot, 0)) := by
  unfold turnKey
  dsimp only
  rw [if_neg (by decide : ¬ kData = kName), if_neg (by decide : ¬ kData = kKind), if_neg (by decide : ¬ kData = kAuth), if_pos (by decide : kData = kHead ∨ kData = kData)]
  simp only [if_true]
  rfl
theorem turnKey_head : turnKey first op1 n (kHead, val) = (if op1 then (if kHead ∈ n.ans then (n, [], 512) else match chooseFrom [tCrc, tNone] [] val with
    | none => ({ n with ans := kHead :: n.ans }, tReject, (0 : Int))
    | some v => ({ tm := { n.tm with head := decide (v = tCrc) }, tag := n.tag, ans := kHead :: n.ans }, v, 0)) else (n, tNot, 0)) := by
  unfold turnKey
  dsimp only
  rw [if_neg (by decide : ¬ kHead = kName), if_neg (by decide : ¬ kHead = kKind), if_neg (by decide : ¬ kHead = kAuth), if_pos (by decide : kHead = kHead ∨ kHead = kData)]
  simp only [if_neg (by decide : ¬ kHead = kData)]
  rfl
end
/-- The key's method, called, does what the plain function does. -/
def KeyDoes (W : World) (c b m : Nat) (first : Bool) (st : Nat) (l : Lg) (n : Nx) (key val : Txt) (f : Nat) : Prop :=
  Calls Tryz.prog f #[.pointer (some ⟨c, 0, none⟩), .agg #[.string (txt key), .string (txt val)]] W fun e W' =>
    e = .returned (.tuple #[.string (txt (turnKey first (decide (st = 1)) n (key, val)).2.1), .int .i64 (turnKey first (decide (st = 1)) n (key, val)).2.2]) ∧ TuAt W' c b m first st (nextL l (turnKey first (decide (st = 1)) n (key, val)).1) ∧ Upd [c, m] W W'
theorem key_any {W : World} {c b m : Nat} {first : Bool} {st : Nat} {l : Lg} {n : Nx} {key val : Txt} (h : TuAt W c b m first st (nextL l n)) (hk : key.length ≤ 281474976710656) (hv : val.length ≤ 281474976710656) (ha : n.ans.length ≤ 1000) (hV : ∀ W', Below W.heap.size W W' → Vars W') :
    ansF key = none ∨ ∃ f, ansF key = some (fnV f) ∧ Enters Tryz.prog f ∧ KeyDoes W c b m first st l n key val f := by
  unfold KeyDoes
  by_cases h1 : key = kLen
  · refine .inr ⟨38, by unfold ansF; rw [if_pos h1], enters_of Tryz.func38 (by kernel_rfl) rfl, (length_any key val h hv hV).mono fun e W' ⟨q1, q2, q3⟩ => ?_⟩
    subst h1
    rw [turnKey_len]
    unfold lenT lenS at q1
    unfold lenL at q2
    cases hst : decide (st = 1) <;> cases hn : (numR val 64 16777215).2 <;> simp only [hst, hn, if_true, if_false, Bool.false_eq_true, Bool.and_true, Bool.and_false] at q1 q2 ⊢ <;> exact ⟨q1, q2, q3⟩
  by_cases h2 : key = kData
  · refine .inr ⟨37, by unfold ansF; rw [if_neg h1, if_pos h2], enters_of Tryz.func37 (by kernel_rfl) rfl, (digest_any key val h hk (by omega) ha).mono fun e W' ⟨q1, q2, q3⟩ => ?_⟩
    subst h2
    rw [turnKey_data]
    unfold digT digS at q1
    unfold digL at q2
    cases hst : decide (st = 1)
    · simp only [hst, if_false, Bool.false_eq_true] at q1 q2 ⊢
      exact ⟨q1, q2, q3⟩
    · by_cases hm : kData ∈ n.ans
      · simp only [hst, hm, if_true] at q1 q2 ⊢
        exact ⟨q1, q2, q3⟩
      · cases hn : chooseFrom [tCrc, tNone] [] val <;> simp only [hst, hn, hm, if_true, if_false] at q1 q2 ⊢ <;> exact ⟨q1, q2, q3⟩
  by_cases h3 : key = kHead
  · refine .inr ⟨37, by unfold ansF; rw [if_neg h1, if_neg h2, if_pos h3], enters_of Tryz.func37 (by kernel_rfl) rfl, (digest_any key val h hk (by omega) ha).mono fun e W' ⟨q1, q2, q3⟩ => ?_⟩
    subst h3
    rw [turnKey_head]
    unfold digT digS at q1
    unfold digL at q2
    cases hst : decide (st = 1)
    · simp only [hst, if_false, Bool.false_eq_true] at q1 q2 ⊢
      exact ⟨q1, q2, q3⟩
    · by_cases hm : kHead ∈ n.ans
      · simp only [hst, hm, if_true] at q1 q2 ⊢
        exact ⟨q1, q2, q3⟩
      · cases hn : chooseFrom [tCrc, tNone] [] val <;> simp only [hst, hn, hm, if_true, if_false, (by decide : ¬ kHead = kData)] at q1 q2 ⊢ <;> exact ⟨q1, q2, q3⟩
  by_cases h4 : key = kAuth
  · refine .inr ⟨36, by unfold ansF; rw [if_neg h1, if_neg h2, if_neg h3, if_pos h4], enters_of Tryz.func36 (by kernel_rfl) rfl, (auth_any key val h (by omega)).mono fun e W' ⟨q1, q2, q3⟩ => ?_⟩
    subst h4
    rw [turnKey_auth]
    unfold authT authS at q1
    cases hst : decide (st = 1) <;> cases hn : chooseFrom [tNone] [] val <;> simp only [hst, hn, if_true, if_false, Bool.false_eq_true, Option.getD_none, Option.getD_some, Option.isSome_none, Option.isSome_some] at q1 ⊢ <;> exact ⟨q1, q2, q3⟩
  by_cases h5 : key = kKind
  · refine .inr ⟨35, by unfold ansF; rw [if_neg h1, if_neg h2, if_neg h3, if_neg h4, if_pos h5], enters_of Tryz.func35 (by kernel_rfl) rfl, (kind_any key val h).mono fun e W' ⟨q1, q2, q3⟩ => ?_⟩
    subst h5
    rw [turnKey_kind]
    unfold kindS at q1
    cases first <;> simp only [if_true, if_false, Bool.false_eq_true] at q1 ⊢ <;> exact ⟨q1, q2, q3⟩
  by_cases h6 : key = kName
  · refine .inr ⟨34, by unfold ansF; rw [if_neg h1, if_neg h2, if_neg h3, if_neg h4, if_neg h5, if_pos h6], enters_of Tryz.func34 (by kernel_rfl) rfl, (name_any key val h).mono fun e W' ⟨q1, q2, q3⟩ => ?_⟩
    subst h6
    rw [turnKey_name]
    unfold nameS at q1
    unfold nameL at q2
    cases first <;> simp only [if_true, if_false, Bool.false_eq_true] at q1 q2 ⊢ <;> exact ⟨q1, q2, q3⟩
  · exact .inl (by unfold ansF; rw [if_neg h1, if_neg h2, if_neg h3, if_neg h4, if_neg h5, if_neg h6])
end Go.Proofs.YtlhdjgibkiffaaaGreatDoor
