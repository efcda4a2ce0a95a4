/-
  PROVED HERE: laws for a region that draws its order, in a round of a range over a function or not: reads first, then what turns the world. Conditions: those that each theorem names.
-/
import Derived.Test.YtlhdjgibkiffaaaGreatDoorBase
import Derived.OrdersHeld
import Derived.OrdersIn
import Derived.RangeFuncCalls
namespace Go.Proofs.YtlhdjgibkiffaaaGreatDoor
open Go.RowKit

section reads
variable {P : Program} {ops : Array Oper} {md : Region.Mode} {Q : Exit → Act → World → Prop} {S : World → Prop}

/-- Q where the code goes on; nothing else may be. -/
def OnlyN (Q : Exit → Act → World → Prop) : Exit → Act → World → Prop
  | .normal, a, w => Q .normal a w
  | _, _, _ => False
theorem OnlyN.lets (Q : Exit → Act → World → Prop) : ¬ LetsOut (OnlyN Q) := fun ⟨_, _, h⟩ => h
/-- No operation is a defer statement. -/
def noDefer (ops : Array Oper) : Bool := ops.all fun o => match o.op with | .defer _ => false | _ => true
theorem noDefer_spec (h : noDefer ops = true) (j : Nat) (o : Oper) (ho : ops[j]? = some o) (c : Call) : o.op ≠ .defer c := fun e => by
  have := Array.all_eq_true_iff_forall_mem.1 h o (Array.mem_of_getElem? ho)
  rw [e] at this; cases this
theorem oper_in {o : Oper} {l n : Nat} {a : Act} {w : World} {K K' : Act → World → Prop} (hd : ∀ c, o.op ≠ .defer c) (hK : ∀ a w, K a w → K' a w) (h : o.wp P a w K (OnlyN Q)) : o.wpIn (Fence.wide.inRound l) n P a w K' (OnlyN Q) := by
  unfold Oper.wpIn
  refine ⟨fun _ _ => trivial, ?_⟩
  rw [Oper.semAt_eq _ _ _ hd]
  unfold Oper.wp at h
  generalize (execOp a.eval o).run P w = r at h ⊢
  cases r with
  | ok x w' =>
    cases x <;> simp only [Oper.upon, Oper.uponIn] at h ⊢
    case value => exact hK _ _ h
    case skip => exact hK _ _ h
    case defer => exact hK _ _ h
    case enter f args =>
      refine ⟨fun hh => by simp [Fence.wide] at hh, CallsIn.inRound l (callsIn_wide.2 (h.mono fun e w'' he => ?_))⟩
      cases e with
      | returned v => exact hK _ _ he
      | panicked c => exact he
      | outgrown => exact absurd he (OnlyN.lets Q)
    case row row args => exact ⟨fun hh => by simp [Fence.wide] at hh, fun c cs _ => by
        obtain ⟨v, w2, r, s⟩ := h c cs
        exact ⟨v, w2, hK _ _ r, stepsIn_wide.2 s⟩⟩
  | halt x w' => cases x <;> simp only [Oper.upon, Oper.uponIn] at h ⊢; exact h
theorem wpAnyIn_of {l n : Nat} (hnd : noDefer ops = true) : ∀ (fuel : Nat) (done : Array Bool) (a : Act) (w : World), wpAny P md ops (OnlyN Q) fuel done a w → wpAnyIn (Fence.wide.inRound l) n P md ops (OnlyN Q) fuel done a w
  | 0, _, _, _, h => h
  | fuel + 1, done, a, w, h => ⟨h.1, fun i hi => by
    have h1 := h.2 i hi
    unfold wpOp at h1
    unfold wpOpIn
    cases ho : ops[i]? with
    | none => rw [ho] at h1; exact wpAnyIn_of hnd fuel _ _ _ h1
    | some o =>
      rw [ho] at h1
      dsimp only at h1 ⊢
      split
      · rename_i hw
        rw [if_pos hw] at h1
        rcases h1 with h1 | ⟨_, h1⟩
        · exact oper_in (noDefer_spec hnd i o ho) (fun a w h => wpAnyIn_of hnd fuel _ a w h) h1
        · exact absurd h1 (OnlyN.lets Q)
      · rename_i hw
        rw [if_neg hw] at h1
        exact ⟨fun _ _ => trivial, wpAnyIn_of hnd fuel _ _ _ h1⟩⟩
theorem wpIn_region_of {id l n : Nat} {a : Act} {w : World} (hm : P.follows .mixedOrders = true) (hnd : noDefer ops = true) (h : wpAny P .any ops (OnlyN Q) ops.size (Array.replicate ops.size false) a w.drew) : (Code.region id ops true).wpIn (Fence.wide.inRound l) n P Q a w :=
  wpIn_mono (wpIn_region_any hm (wpAnyIn_of hnd _ _ _ _ h)) fun e a w h => by cases e <;> first | exact h | exact (h : False).elim

/-- Operations that only read, one behind the other. -/
def wpReads (P : Program) (ops : Array Oper) (S : World → Prop) (K : Act → Prop) : List Oper → Act → Prop
  | [], a => K a
  | o :: r, a => ∃ v, YieldsIf P ops S o v a ∧ wpReads P ops S K r (a.put o.dst v)
/-- Operations of which each waits for the last; S holds behind each. -/
def wpTail (P : Program) (ops : Array Oper) (S : World → Prop) (Q : Exit → Act → World → Prop) : List Oper → Act → World → Prop
  | [], a, w => Q .normal a w
  | o :: r, a, w => Region.wanted o (yielded ops a.tmps) = true ∧ o.wp P a w (fun a' w' => S w' ∧ wpTail P ops S Q r a' w') Q
/-- The operations ts, each alone ready in its turn. -/
def seqL (md : Region.Mode) (ops : Array Oper) : List Nat → Array Bool → Bool
  | [], done => (Region.ready md ops done).isEmpty
  | t :: ts, done => decide (Region.ready md ops done = [t]) && seqL md ops ts (done.setIfInBounds t true)
/-- lk: the operations at the places ks. -/
def picks (ops : Array Oper) : List Nat → List Oper → Prop
  | [], lk => lk = []
  | k :: ks, lk => ∃ o r, lk = o :: r ∧ ops[k]? = some o ∧ picks ops ks r
theorem picks.nil : picks ops [] [] := rfl
theorem picks.cons {k : Nat} {ks : List Nat} {o : Oper} {r : List Oper} (h : ops[k]? = some o) (hr : picks ops ks r) : picks ops (k :: ks) (o :: r) := ⟨o, r, rfl, h, hr⟩
theorem wpAnyH_seq : ∀ (ts : List Nat) (tl : List Oper) (done : Array Bool) (a : Act) (w : World), picks ops ts tl → seqL md ops ts done = true → wpTail P ops S Q tl a w → wpAnyH P md ops Q S ts.length done a w
  | [], tl, done, a, w, ht, hB, h => by
    subst ht
    exact ⟨by simpa [seqL] using hB, h⟩
  | t :: ts, _, done, a, w, ⟨o, r, rfl, ho, ht⟩, hB, h => by
    simp only [seqL, Bool.and_eq_true, decide_eq_true_eq] at hB
    refine ⟨fun h1 => (by rw [hB.1] at h1; cases h1), fun i hi => ?_⟩
    rw [hB.1, List.mem_singleton] at hi
    subst hi
    unfold wpOp
    rw [ho]
    dsimp only
    rw [if_pos h.1]
    exact .inl (Oper.wp_mono (fun a' w' hh => ⟨hh.1, wpAnyH_seq ts r _ a' w' ht hB.2 hh.2⟩) h.2)
/-- The reads in the text's order; then one of the ways alts, by what comes first. -/
def readsB (md : Region.Mode) (ops : Array Oper) (alts : List (List Nat)) (m : Nat) : List Nat → Array Bool → Bool
  | [], done => decide (Region.ready md ops done = alts.map (·.headD ops.size)) && alts.all fun ts => match ts with | [] => false | t :: r => decide (r.length + 1 = m) && seqL md ops r (done.setIfInBounds t true)
  | k :: ks, done => (Region.ready md ops done).contains k && (Region.free md ops done k && readsB md ops alts m ks (done.setIfInBounds k true))
theorem reads_walk {alts : List (List Nat)} {m : Nat} {w : World} (hsel : Region.noSelect ops = true) (hS : S w) (hm0 : alts ≠ []) :
    ∀ (ks : List Nat) (lk : List Oper) (done : Array Bool) (a : Act), picks ops ks lk → readsB md ops alts m ks done = true →
      wpReads P ops S (fun a' => ∀ ts ∈ alts, ∃ tl, picks ops ts tl ∧ wpTail P ops S (OnlyN Q) tl a' w) lk a → wpAnyH P md ops (OnlyN Q) S (ks.length + m) done a w
  | [], _, done, a, hp, hB, h => by
    subst hp
    simp only [readsB, Bool.and_eq_true, decide_eq_true_eq, List.all_eq_true] at hB
    obtain ⟨hr, hall⟩ := hB
    have hml : ∃ q, m = q + 1 := by
      cases alts with
      | nil => exact absurd rfl hm0
      | cons ts r =>
        have := hall ts (by simp)
        cases ts with
        | nil => cases this
        | cons t r' => simp only [Bool.and_eq_true, decide_eq_true_eq] at this; exact ⟨_, this.1.symm⟩
    obtain ⟨q, rfl⟩ := hml
    rw [List.length_nil, Nat.zero_add]
    refine wpAnyH_all hr (by simpa using hm0) fun i hi => ?_
    obtain ⟨ts, hts, rfl⟩ := List.mem_map.1 hi
    obtain ⟨tl, hp, hw⟩ := h ts hts
    have h1 := hall ts hts
    cases ts with
    | nil => cases h1
    | cons t r =>
      simp only [Bool.and_eq_true, decide_eq_true_eq] at h1
      obtain ⟨o, rl, rfl, ho, hp2⟩ := hp
      unfold wpOp
      rw [show (t :: r).headD ops.size = t from rfl, ho]
      dsimp only
      rw [if_pos hw.1]
      refine .inl (Oper.wp_mono (fun a' w' hh => ⟨hh.1, ?_⟩) hw.2)
      have := wpAnyH_seq r rl (done.setIfInBounds t true) a' w' hp2 h1.2 hh.2
      rwa [show r.length = q by omega] at this
  | k :: ks, _, done, a, ⟨o, r, rfl, ho, hp⟩, hB, ⟨v, hy, h⟩ => by
    simp only [readsB, Bool.and_eq_true] at hB
    rw [List.length_cons, show ks.length + 1 + m = (ks.length + m) + 1 by omega]
    exact wpAnyH_take ho hsel hB.2.1 hB.1 (fun c a w h => h) hy hS (reads_walk hsel hS hm0 ks r _ _ hp hB.2.2 h)
/-- A region in a round: it reads, then it turns the world in one of the ways alts. -/
theorem wpIn_region_reads {id l n : Nat} {a : Act} {w : World} {lo : List Oper} (S : World → Prop) (ks : List Nat) (alts : List (List Nat)) (m : Nat) (lk : List Oper) (hm : P.follows .mixedOrders = true)
    (hB : (Region.noSelect lo.toArray && (noDefer lo.toArray && (decide (ks.length + m = lo.toArray.size) && (!alts.isEmpty && readsB .any lo.toArray alts m ks (Array.replicate lo.toArray.size false))))) = true) (hp : picks lo.toArray ks lk) (hS : S w.drew)
    (h : wpReads P lo.toArray S (fun a' => ∀ ts ∈ alts, ∃ tl, picks lo.toArray ts tl ∧ wpTail P lo.toArray S (OnlyN Q) tl a' w.drew) lk a) : (Code.region id lo.toArray true).wpIn (Fence.wide.inRound l) n P Q a w := by
  simp only [Bool.and_eq_true, decide_eq_true_eq] at hB
  obtain ⟨h1, h2, h3, h4, h5⟩ := hB
  refine wpIn_region_of hm h2 (wpAny_of_held (S := S) _ _ _ _ ?_)
  rw [show wpAnyH P .any lo.toArray (OnlyN Q) S lo.toArray.size = wpAnyH P .any lo.toArray (OnlyN Q) S (ks.length + m) by rw [h3]]
  exact reads_walk h1 hS (fun e => by rw [e] at h4; cases h4) ks lk _ a hp h5 h
theorem reads_step {o : Oper} {r : List Oper} {a : Act} {K : Act → Prop} {v : Value} (hw : Region.wanted o (yielded ops a.tmps) = true) (hy : ∀ w, S w → (execOp a.eval o).run P w = .ok (.value v) w) (h : wpReads P ops S K r (a.put o.dst v)) : wpReads P ops S K (o :: r) a := ⟨v, .inl ⟨hw, hy⟩, h⟩
/-- A region that draws its order: it reads, then it turns the world in one of the ways alts. -/
theorem wp_region_reads {id : Nat} {a : Act} {w : World} {lo : List Oper} (S : World → Prop) (ks : List Nat) (alts : List (List Nat)) (m : Nat) (lk : List Oper) (hm : P.follows .mixedOrders = true)
    (hB : (Region.noSelect lo.toArray && (decide (ks.length + m = lo.toArray.size) && (!alts.isEmpty && readsB .any lo.toArray alts m ks (Array.replicate lo.toArray.size false)))) = true) (hp : picks lo.toArray ks lk) (hS : S w.drew)
    (h : wpReads P lo.toArray S (fun a' => ∀ ts ∈ alts, ∃ tl, picks lo.toArray ts tl ∧ wpTail P lo.toArray S (OnlyN Q) tl a' w.drew) lk a) : (Code.region id lo.toArray true).wp P Q a w := by
  simp only [Bool.and_eq_true, decide_eq_true_eq] at hB
  obtain ⟨h1, h3, h4, h5⟩ := hB
  refine Code.wp_mono (show ∀ e a w, OnlyN Q e a w → Q e a w from fun e a w h => by cases e <;> first | exact h | exact (h : False).elim) (wp_region_any hm (wpAny_of_held (S := S) _ _ _ _ ?_))
  rw [show wpAnyH P .any lo.toArray (OnlyN Q) S lo.toArray.size = wpAnyH P .any lo.toArray (OnlyN Q) S (ks.length + m) by rw [h3]]
  exact reads_walk h1 hS (fun e => by rw [e] at h4; cases h4) ks lk _ a hp h5 h
theorem wp_of_val {o : Oper} {a : Act} {w w' : World} {K : Act → World → Prop} (v : Value) (hrun : (execOp a.eval o).run P w = .ok (.value v) w') (h : K (a.put o.dst v) w') : Oper.wp P o a w K Q := by
  unfold Oper.wp; rw [hrun]; exact h
theorem wp_of_skip {o : Oper} {a : Act} {w w' : World} {K : Act → World → Prop} (hrun : (execOp a.eval o).run P w = .ok .skip w') (h : K (a.put o.dst undef) w') : Oper.wp P o a w K Q := by
  unfold Oper.wp; rw [hrun]; exact h
theorem tail_val {o : Oper} {r : List Oper} {a : Act} {w w' : World} (v : Value) (hg : o.guard = none) (hrun : (execOp a.eval o).run P w = .ok (.value v) w') (hS : S w') (h : wpTail P ops S Q r (a.put o.dst v) w') : wpTail P ops S Q (o :: r) a w := ⟨by simp [Region.wanted, hg], wp_of_val v hrun ⟨hS, h⟩⟩
theorem tail_skip {o : Oper} {r : List Oper} {a : Act} {w w' : World} (hg : o.guard = none) (hrun : (execOp a.eval o).run P w = .ok .skip w') (hS : S w') (h : wpTail P ops S Q r (a.put o.dst undef) w') : wpTail P ops S Q (o :: r) a w := ⟨by simp [Region.wanted, hg], wp_of_skip hrun ⟨hS, h⟩⟩
theorem exec_delete {o : Oper} {a : Act} {w w' : World} {m x : Operand} {ts : Array TypeId} (ho : o.op = .call { callee := .builtin .delete, args := #[m, x], argTypes := ts }) {vm vx v : Value} (hm : a.eval m = vm) (hx : a.eval x = vx)
    (hrun : (Builtin.delete_ ts o.type #[vm, vx]).run P w = .ok v w') : (execOp a.eval o).run P w = .ok (.value v) w' := by
  unfold execOp; simp [ho, resolve, invoke, builtin, hm, hx, hrun, Result.andThen]
theorem exec_append {o : Oper} {a : Act} {w w' : World} {m x : Operand} {ts : Array TypeId} (ho : o.op = .call { callee := .builtin .append, args := #[m, x], argTypes := ts }) {vm vx v : Value} (hm : a.eval m = vm) (hx : a.eval x = vx)
    (hrun : (Builtin.append_ ts o.type #[vm, vx]).run P w = .ok v w') : (execOp a.eval o).run P w = .ok (.value v) w' := by
  unfold execOp; simp [ho, resolve, invoke, builtin, hm, hx, hrun, Result.andThen]
theorem exec_lookup {o : Oper} {a : Act} {w w' : World} {t : TypeId} {m x : Operand} {c : Bool} (ho : o.op = .lookup t m x c) {vm vx v : Value} (hm : a.eval m = vm) (hx : a.eval x = vx)
    (hrun : (Instr.lookup t vm vx c).run P w = .ok v w') : (execOp a.eval o).run P w = .ok (.value v) w' := by
  unfold execOp; simp [ho, hm, hx, hrun, Result.andThen]
theorem exec_build1 {o : Oper} {a : Act} {w : World} {t e : TypeId} {x : Operand} {v z : Value} {i0 : TypeInfo} (ho : o.op = .buildSlice t 1 #[(0, x)]) (hu : P.underlying t = some (.slice e)) (hi : P.info? e = some i0) (hz : i0.zero = some z) (hs : i0.size = 1) (hzs : z.cells.size = 1) (hx : a.eval x = v) (hv : v.cells = #[v]) :
    (execOp a.eval o).run P w = .ok (.value (.slice (some ⟨w.heap.size, 0, none⟩) 1 1)) (w.alloc (.cells #[v] e)) := by
  have hm : ∀ f : Nat → Value, Array.map f (Array.range 1) = #[f 0] := fun f => by rw [show Array.range 1 = #[0] from by decide]; simp
  have hf : Instr.fill (fun i => some (i, 1)) (Array.map (fun x => z.cells[x % z.cells.size]!) (Array.range 1)) [(0, v)] = some #[v] := by
    rw [hm]
    simp [Instr.fill, hv]
  unfold execOp
  simp [ho, hx, Instr.buildSlice, run_underlying hu, sizeOf, typeInfo, zeroValue, hi, hz, hs, newRow, hf, Result.andThen]
theorem exec_mapUpdate {o : Oper} {a : Act} {w w' : World} {t : TypeId} {m x y : Operand} (ho : o.op = .mapUpdate t m x y) {vm vx vy : Value} (hm : a.eval m = vm) (hx : a.eval x = vx) (hy : a.eval y = vy)
    (hrun : (Instr.mapUpdate t vm vx vy).run P w = .ok () w') : (execOp a.eval o).run P w = .ok .skip w' := by
  unfold execOp; simp [ho, hm, hx, hy, hrun, Result.andThen]
def opAt : List Oper → Nat → Oper
  | o :: _, 0 => o
  | _ :: r, n + 1 => opAt r n
  | [], _ => { dst := none, op := .move (.tmp 0), type := 0, pos := "", after := #[], guard := none }
theorem opAt_get : ∀ {lo : List Oper} {k : Nat}, k < lo.length → lo[k]? = some (opAt lo k)
  | o :: _, 0, _ => rfl
  | _ :: r, n + 1, h => by rw [List.getElem?_cons_succ]; exact opAt_get (lo := r) (by simpa using h)
  | [], k, h => absurd h (Nat.not_lt_zero _)
theorem picks_map {lo : List Oper} : ∀ {ks : List Nat}, (ks.all fun k => decide (k < lo.length)) = true → picks lo.toArray ks (ks.map (opAt lo))
  | [], _ => rfl
  | k :: ks, h => by
    simp only [List.all_cons, Bool.and_eq_true, decide_eq_true_eq] at h
    exact ⟨_, _, rfl, by simpa using opAt_get h.1, picks_map h.2⟩
def orderB (lo : List Oper) (ks : List Nat) (alts : List (List Nat)) (m : Nat) : Bool :=
  Region.noSelect lo.toArray && (noDefer lo.toArray && (decide (ks.length + m = lo.toArray.size) && (!alts.isEmpty && (readsB .any lo.toArray alts m ks (Array.replicate lo.toArray.size false) && (ks.all (fun k => decide (k < lo.length)) && alts.all fun ts => ts.all fun k => decide (k < lo.length))))))
def allAlts (P : Program) (lo : List Oper) (S : World → Prop) (Q : Exit → Act → World → Prop) (a : Act) (w : World) : List (List Nat) → Prop
  | [] => True
  | ts :: r => wpTail P lo.toArray S Q (ts.map (opAt lo)) a w ∧ allAlts P lo S Q a w r
theorem allAlts_mem {lo : List Oper} {a : Act} {w : World} : ∀ {alts : List (List Nat)}, allAlts P lo S Q a w alts → ∀ ts ∈ alts, wpTail P lo.toArray S Q (ts.map (opAt lo)) a w
  | ts :: r, h, t, ht => by
    rcases List.mem_cons.1 ht with rfl | ht
    · exact h.1
    · exact allAlts_mem h.2 t ht
theorem wpReads_mono {K K' : Act → Prop} (hk : ∀ a, K a → K' a) : ∀ {l : List Oper} {a : Act}, wpReads P ops S K l a → wpReads P ops S K' l a
  | [], _, h => hk _ h
  | _ :: _, _, ⟨v, h1, h2⟩ => ⟨v, h1, wpReads_mono hk h2⟩
/-- As wpIn_region_reads, the operations laid out. -/
theorem wpIn_region_order {id l n : Nat} {a : Act} {w : World} {lo : List Oper} (S : World → Prop) (ks : List Nat) (alts : List (List Nat)) (m : Nat) (hm : P.follows .mixedOrders = true) (hB : orderB lo ks alts m = true) (hS : S w.drew)
    (h : wpReads P lo.toArray S (fun a' => allAlts P lo S (OnlyN Q) a' w.drew alts) (ks.map (opAt lo)) a) : (Code.region id lo.toArray true).wpIn (Fence.wide.inRound l) n P Q a w := by
  simp only [orderB, Bool.and_eq_true, List.all_eq_true (l := alts)] at hB
  obtain ⟨h1, h2, h3, h4, h5, h6, h7⟩ := hB
  exact wpIn_region_reads S ks alts m _ hm (by simp only [Bool.and_eq_true]; exact ⟨h1, h2, h3, h4, h5⟩) (picks_map h6) hS (wpReads_mono (fun a' ha ts hts => ⟨_, picks_map (h7 ts hts), allAlts_mem ha ts hts⟩) h)
theorem wp_region_order {id : Nat} {a : Act} {w : World} {lo : List Oper} (S : World → Prop) (ks : List Nat) (alts : List (List Nat)) (m : Nat) (hm : P.follows .mixedOrders = true) (hB : orderB lo ks alts m = true) (hS : S w.drew)
    (h : wpReads P lo.toArray S (fun a' => allAlts P lo S (OnlyN Q) a' w.drew alts) (ks.map (opAt lo)) a) : (Code.region id lo.toArray true).wp P Q a w := by
  simp only [orderB, Bool.and_eq_true, List.all_eq_true (l := alts)] at hB
  obtain ⟨h1, h2, h3, h4, h5, h6, h7⟩ := hB
  exact wp_region_reads S ks alts m _ hm (by simp only [Bool.and_eq_true]; exact ⟨h1, h3, h4, h5⟩) (picks_map h6) hS (wpReads_mono (fun a' ha ts hts => ⟨_, picks_map (h7 ts hts), allAlts_mem ha ts hts⟩) h)
end reads
end Go.Proofs.YtlhdjgibkiffaaaGreatDoor
