/-
  PROVED HERE: a law for a range over a function whose iterator keeps state in a box of its own (a captured variable that it stores into): what the iterator promises, and the loop over it. Conditions: those that each theorem names; no program's text is used.
-/
import Derived.Test.YtlhdjgibkiffaaaGreatDoorBase
import Derived.RangeFuncNested
import Derived.RangeFuncBound
import Derived.RangeFuncCalls
import Derived.RangeFuncLeaves
namespace Go.Proofs.YtlhdjgibkiffaaaGreatDoor
open Go.RowKit

/-- The blocks of K lie as they lay. -/
def Keep (K : Nat → Prop) (W W' : World) : Prop := ∀ k, K k → k < W.heap.size → W'.heap[k]? = W.heap[k]?
theorem Keep.refl (K : Nat → Prop) (W : World) : Keep K W W := fun _ _ _ => rfl
theorem Keep.trans {K : Nat → Prop} {A B C : World} (h : Keep K A B) (hs : A.heap.size ≤ B.heap.size) (k : Keep K B C) : Keep K A C := fun i hi hl => (k i hi (Nat.lt_of_lt_of_le hl hs)).trans (h i hi hl)
theorem Keep.of_upd {K : Nat → Prop} {T : List Nat} {W W' : World} (h : Upd T W W') (hT : ∀ x, x ∈ T → ¬ K x) : Keep K W W' := fun k hk hl => h.block k hl fun hm => hT k hm hk
theorem Keep.mono {K K' : Nat → Prop} {W W' : World} (h : Keep K W W') (hk : ∀ x, K' x → K x) : Keep K' W W' := fun k hk' hl => h k (hk k hk') hl
/-- What is said of a world stands when blocks of T turn, and new ones come. -/
def Lets {β : Type} (T : List Nat) (J : β → World → Prop) : Prop := ∀ s W W', J s W → Upd T W W' → J s W'

/-- The iterator g, with b the box of its own, which reads the blocks of K: for every loop body that keeps these, it hands over the elements of a list of S, or, told to stop, of one of Sp. -/
def SeqBox {α : Type} (n : Nat) (P : Program) (g : Nat) (lb : Array Value) (encs : α → Array Value) (b : Nat) (K : Nat → Prop) (S Sp : List α → Prop) (N : Nat) (w : World) : Prop :=
  ∀ (l : Nat) (J Jx : List α → World → Prop) (W : World), Upd [] w W → Lets [b] J → Lets [b] Jx →
    (∀ pre x W1, J pre W1 → pre.length < N → YieldAt Fence.wide (n - 1) P l (encs x) W1 fun e W' =>
      (e = .returned (.bool true) ∧ J (pre ++ [x]) W' ∧ Keep K W1 W' ∧ W1.heap.size ≤ W'.heap.size) ∨ (e = .returned (.bool false) ∧ Jx (pre ++ [x]) W')) →
    J [] W →
    CallsIn Fence.wide n P g (#[.func (.yield l) #[] #[]] ++ lb) W fun e W' => (∃ v, e = .returned v) ∧ ((∃ xs, S xs ∧ J xs W') ∨ (∃ pre, Sp pre ∧ Jx pre W'))

/-- How the body of a round is left. -/
def boxPost {α : Type} (K : Nat → Prop) (B : Nat) (I : List α → World → Prop) (Ix : Code → List α → World → Prop) (xs : List α) (W : World) : Exit → Act → World → Prop
  | .normal, _, W' => Keep (fun k => K k ∨ k = B ∨ k = B + 1) W W' ∧ W.heap.size ≤ W'.heap.size ∧ I xs W'
  | .ret, _, W' => Keep (fun k => k = B ∨ k = B + 1) W W' ∧ Ix .ret xs W'
  | .exit id, _, W' => Keep (fun k => k = B ∨ k = B + 1) W W' ∧ Ix (.exit id) xs W'
  | .goto t, _, W' => Keep (fun k => k = B ∨ k = B + 1) W W' ∧ Ix (.goto t) xs W'
  | .panic _, _, _ => False
  | .outgrown, _, _ => False

theorem upd_put (W : World) (l : Nat) (o : Obj) : Upd [l] W (W.putObj l o) := ⟨rfl, rfl, rfl, by simp, fun k _ hs => World.putObj_heap_other (by simpa using hs)⟩
theorem lt_of_get {W : World} {k : Nat} {o : Obj} (h : W.heap[k]? = some o) : k < W.heap.size := (Array.getElem?_eq_some_iff.1 h).1

variable {P : Program} {n : Nat}
/-- The loop. -/
theorem wpIn_range_box {α : Type} {g : Operand} {ps : Array Tmp} {assign body : Code} {Q : Exit → Act → World → Prop} {a : Act} {w : World}
    {gf : Nat} {lb : Array Value} (hg : a.eval g = .func (.func gf) #[] lb) (eg : ∀ args w, (callFunc gf args).run P w = .ok (.enter gf args) w)
    {encs : α → Array Value} {b : Nat} {K : Nat → Prop} {S Sp : List α → Prop} {N : Nat} (hseq : SeqBox (n - 1) P gf lb encs b K S Sp N w) (hb : b < w.heap.size) (hK : ∀ k, K k → k < w.heap.size) (hps : ∀ x, (encs x).size = ps.size)
    (I : List α → World → Prop) (Ix : Code → List α → World → Prop) (hI : Lets [b, w.heap.size, w.heap.size + 1] I) (hIx : ∀ c, Lets [b, w.heap.size, w.heap.size + 1] (Ix c)) (h0 : I [] w) (a₁ : α → Act)
    (hassign : ∀ (l : Nat) (x : α) (W : World) (R : Act → World → Prop), R (a₁ x) W →
      assign.wpIn (Fence.wide.inRound l) (n - 1 - 1) P (Exit.then R (fun _ _ _ => False)) { tmps := (ps.zip (encs x)).foldl (fun t (p, v) => t.setIfInBounds p v) a.tmps, defers := [] } W)
    (hbody : ∀ (l : Nat) (pre : List α) (x : α) (W : World), I pre W → w.heap.size + 1 < W.heap.size → pre.length < N → body.wpIn (Fence.wide.inRound l) (n - 1 - 1) P (boxPost K w.heap.size I Ix (pre ++ [x]) W) (a₁ x) W)
    (hdone : ∀ (xs : List α) (W : World), S xs → I xs W → W.heap[w.heap.size]? = some (.deferred (some [])) → Q .normal { a with defers := { target := .collected w.heap.size, args := #[] } :: a.defers } W)
    (hstop : ∀ (c : Code) (pre : List α) (W : World), Sp pre → Ix c pre W → W.heap[w.heap.size]? = some (.deferred (some [])) → c.wpIn Fence.wide n P Q { a with defers := { target := .collected w.heap.size, args := #[] } :: a.defers } W) :
    (Code.rangeFunc g ps assign body).wpIn Fence.wide n P Q a w := by
  refine wpIn_rangeFunc fun fn _ => ?_
  -- the record of the loop, in the state st, with the jump pe to come
  obtain ⟨rec, hrec⟩ : ∃ rec : LoopState → Option Code → Loop, rec = fun st pe => { state := st, pending := pe, fn, tmps := a.tmps, params := ps, assign, body, defers := w.heap.size } := ⟨_, rfl⟩
  obtain ⟨W1, hW1⟩ : ∃ W1, (w.alloc (.deferred (some []))).alloc (.loop (rec .ready none)) = W1 := ⟨_, rfl⟩
  have u1 : Upd [] w W1 := by rw [← hW1]; exact ((Upd.refl [] w).alloc _).alloc _
  have hL1 : W1.heap[w.heap.size + 1]? = some (.loop (rec .ready none)) := by
    rw [← hW1]; have := World.alloc_heap_new (w.alloc (.deferred (some []))) (.loop (rec .ready none)); rwa [World.size_alloc] at this
  have hD1 : W1.heap[w.heap.size]? = some (.deferred (some [])) := by
    rw [← hW1]; exact (Below.heap_alloc _ _ _ (by simp)).trans (World.alloc_heap_new w _)
  refine ⟨w.heap.size + 1, [{ target := .collected w.heap.size, args := #[] }], W1, { target := .fn (.func gf) lb, args := #[.func (.yield (w.heap.size + 1)) #[] #[]] }, W1, gf,
    #[.func (.yield (w.heap.size + 1)) #[] #[]] ++ lb, W1, ?_, ?_, fun _ _ => trivial, ?_, fun h => by simp [Fence.wide] at h, ?_⟩
  · rw [← hW1, hrec]; exact run_enterLoop_outer _ _ _ _ _
  · simp only [resolve, hg]; simp [go_sem]
  · simp [invoke, go_sem, eg]
  have nb : ∀ {A B : World}, Upd [b] A B → ∀ {k : Nat} {o : Obj}, A.heap[k]? = some o → w.heap.size ≤ k → B.heap[k]? = some o := fun u _ _ h hk => u.get h (by simp; omega)
  refine (hseq (w.heap.size + 1)
    (fun pre W => I pre W ∧ W.heap[w.heap.size + 1]? = some (.loop (rec .ready none)) ∧ W.heap[w.heap.size]? = some (.deferred (some [])))
    (fun pre W => ∃ c, Ix c pre W ∧ W.heap[w.heap.size + 1]? = some (.loop (rec .done (some c))) ∧ W.heap[w.heap.size]? = some (.deferred (some [])))
    W1 u1 (fun s A B h u => ⟨hI s A B h.1 (u.mono (by simp)), nb u h.2.1 (by omega), nb u h.2.2 (Nat.le_refl _)⟩)
    (fun s A B h u => by
      obtain ⟨c, h1, h2, h3⟩ := h
      exact ⟨c, hIx c s A B h1 (u.mono (by simp)), nb u h2 (by omega), nb u h3 (Nat.le_refl _)⟩)
    ?_ ⟨hI [] w W1 h0 (u1.mono (by simp)), hL1, hD1⟩).mono ?_
  · rintro pre x W ⟨hi, hl, hd⟩ hpn
    have hlt := lt_of_get hl
    have hy := run_yield (P := P) (args := encs x) hl (by rw [hrec]; exact hps x)
    rw [hrec] at hy
    refine ⟨fn, _, assign, body, hy, roundIn_of_wpIn trivial (hassign _ x W _ ⟨_, run_beginRound hl (by rw [hrec]), ?_⟩)⟩
    obtain ⟨W2, hW2⟩ : ∃ W2, W.putObj (w.heap.size + 1) (.loop { rec .ready none with state := .busy }) = W2 := ⟨_, rfl⟩
    have u2 : Upd [w.heap.size + 1] W W2 := hW2 ▸ upd_put _ _ _
    have hl2 : W2.heap[w.heap.size + 1]? = some (.loop { rec .ready none with state := .busy }) := hW2 ▸ World.putObj_heap_same hlt
    have hd2 : W2.heap[w.heap.size]? = some (.deferred (some [])) := u2.get hd (by simp)
    have hs2 : W2.heap.size = W.heap.size := by rw [← hW2]; simp
    rw [hW2]
    refine wpIn_mono (hbody _ pre x W2 (hI _ _ _ hi (u2.mono (by simp))) (by omega) hpn) ?_
    have fin : ∀ (jump : Option Code) (W3 : World), Keep (fun k => k = w.heap.size ∨ k = w.heap.size + 1) W2 W3 →
        ∃ W4, (Instr.endRound (w.heap.size + 1) jump).run P W3 = .ok (.bool jump.isNone) W4 ∧ Upd [w.heap.size + 1] W3 W4 ∧ W4.heap[w.heap.size + 1]? = some (.loop (rec (if jump.isNone then .ready else .done) jump)) ∧ W4.heap[w.heap.size]? = some (.deferred (some [])) := fun jump W3 hk => by
      have hl3 : W3.heap[w.heap.size + 1]? = some (.loop { rec .ready none with state := .busy }) := (hk _ (.inr rfl) (by omega)).trans hl2
      have hd3 : W3.heap[w.heap.size]? = some (.deferred (some [])) := (hk _ (.inl rfl) (by omega)).trans hd2
      have hr := run_endRound (P := P) jump hl3
      refine ⟨_, hr, upd_put _ _ _, ?_, (upd_put _ _ _).get hd3 (by simp)⟩
      rw [World.putObj_heap_same (lt_of_get hl3), hrec]
    rintro e a3 W3 hp
    cases e with
    | normal =>
      obtain ⟨hk, hsz, hi3⟩ := hp
      obtain ⟨W4, hr, u4, hl4, hd4⟩ := fin none W3 (hk.mono fun _ => .inr)
      refine ⟨_, _, hr, .inl ⟨rfl, ⟨hI _ _ _ hi3 (u4.mono (by simp)), hl4, hd4⟩, fun k hk' hl' => ?_, by have := u4.size; omega⟩⟩
      have h1 := hK k hk'
      rw [u4.block k (by omega) (by simp; omega), hk k (.inl hk') (by omega), u2.block k (by omega) (by simp; omega)]
    | ret =>
      obtain ⟨hk, hi3⟩ := hp
      obtain ⟨W4, hr, u4, hl4, hd4⟩ := fin (some .ret) W3 hk
      exact ⟨_, _, hr, .inr ⟨rfl, .ret, hIx _ _ _ _ hi3 (u4.mono (by simp)), hl4, hd4⟩⟩
    | exit id =>
      obtain ⟨hk, hi3⟩ := hp
      obtain ⟨W4, hr, u4, hl4, hd4⟩ := fin (some (.exit id)) W3 hk
      exact ⟨_, _, hr, .inr ⟨rfl, .exit id, hIx _ _ _ _ hi3 (u4.mono (by simp)), hl4, hd4⟩⟩
    | goto t =>
      obtain ⟨hk, hi3⟩ := hp
      obtain ⟨W4, hr, u4, hl4, hd4⟩ := fin (some (.goto t)) W3 hk
      exact ⟨_, _, hr, .inr ⟨rfl, .goto t, hIx _ _ _ _ hi3 (u4.mono (by simp)), hl4, hd4⟩⟩
    | panic ch => exact hp.elim
    | outgrown => exact hp.elim
  · rintro e W2 ⟨⟨v, rfl⟩, (⟨xs, hS, hi, hl, hd⟩ | ⟨pre, hSp, c, hi, hl, hd⟩)⟩
    · have he := run_endLoop (P := P) hl (by rw [hrec]; simp)
      rw [hrec] at he
      exact ⟨none, _, he, hdone xs _ hS (hI _ _ _ hi ((upd_put _ _ _).mono (by simp))) ((upd_put _ _ _).get hd (by simp))⟩
    · have he := run_endLoop (P := P) hl (by rw [hrec]; simp)
      rw [hrec] at he
      exact ⟨some c, _, he, hstop c pre _ hSp (hIx c _ _ _ hi ((upd_put _ _ _).mono (by simp))) ((upd_put _ _ _).get hd (by simp))⟩
end Go.Proofs.YtlhdjgibkiffaaaGreatDoor
