/-
  PROVED HERE: the document's disk: a sector gets new durable bytes; Flush. Conditions: those that each theorem names.
-/
import Derived.Test.YtpnpjffhkaejgaaRefDB
namespace Go.Proofs.Ytpnpjffhkaejgaa
open Go.RowKit

section calls
variable {P : Program} {ops : Array Oper} {Q : Exit → Act → World → Prop} {S : World → Prop}
theorem tail_call {o : Oper} {r : List Oper} {a : Act} {w : World} {f : Nat} {vs : Array Value} {R : Ending → World → Prop} (hg : o.guard = none) (hrun : (execOp a.eval o).run P w = .ok (.enter f vs) w) (hc : Calls P f vs w R)
    (h : ∀ e w', R e w' → ∃ v, e = .returned v ∧ S w' ∧ wpTail P ops S Q r (a.put o.dst v) w') : wpTail P ops S Q (o :: r) a w := by
  refine ⟨by simp [Region.wanted, hg], ?_⟩
  unfold Oper.wp
  rw [hrun]
  simp only [Oper.upon]
  exact hc.mono fun e w' he => by
    obtain ⟨v, rfl, hs, ht⟩ := h e w' he
    exact ⟨hs, ht⟩
theorem exec_call {o : Oper} {a : Act} {w : World} {f : Nat} {args : List Operand} {ts : Array TypeId} {vs : List Value} (ho : o.op = .call { callee := .value (.func f), args := args.toArray, argTypes := ts }) (hvs : args.map a.eval = vs) (he : ∀ args w, (callFunc f args).run P w = .ok (.enter f args) w) :
    (execOp a.eval o).run P w = .ok (.enter f vs.toArray) w := by
  subst hvs
  unfold execOp
  simp [ho, resolve, invoke, he, go_sem]
theorem exec_build {o : Oper} {a : Act} {w : World} {t : TypeId} {parts : Array (Nat × Operand)} {ps : List (Nat × Value)} {v : Value} (ho : o.op = .build t parts) (hp : (parts.toList.map fun p => (p.1, a.eval p.2)) = ps) (hrun : (Instr.build t ps.toArray).run P w = .ok v w) : (execOp a.eval o).run P w = .ok (.value v) w := by
  have e : (parts.map fun (i, x) => (i, a.eval x)) = ps.toArray := by
    subst hp
    apply Array.ext'
    simp
  unfold execOp; simp only [ho, e, Sem.run_bind, hrun, Result.andThen_ok, Sem.run_pure]
theorem run_store_part (w : World) (ty : TypeId) (g off : Nat) (vs : Array Value) (t : TypeId) (cs : Array Value) (hg : w.heap[g]? = some (.cells cs t (0, 0)))
    (hi : (P.info? ty).map (·.size) = some vs.size) (hn : off + vs.size ≤ cs.size) (hv : ∀ x ∈ vs.toList, x.oneCell' = true) :
    ∃ w', (storeVar ty ⟨g, off, none⟩ (.agg vs)).run P w = .ok () w' ∧ w'.heap[g]? = some (.cells (splice cs off vs.toList) t (0, 0)) ∧ Upd [g] w w' ∧ w'.heap.size = w.heap.size := by
  have hst := run_storeCells_at (P := P) g off t vs.toList 0 cs w hg (by simpa using hn) hv
  refine ⟨w.setRow g (splice cs off vs.toList), ?_, setRow_heap _ _ _ _ _ _ hg, (Upd.refl _ _).setRow (.inl (by simp)) _, by simp⟩
  cases hq : P.info? ty with
  | none => simp [hq] at hi
  | some i =>
    have hs : i.size = vs.size := by simpa [hq] using hi
    simp only [Nat.add_zero] at hst
    simp [storeVar, Sem.run_bind, sizeOf, typeInfo, hq, hs, Value.cells, hst, splice]
theorem exec_store {o : Oper} {a : Act} {w w' : World} {ty : TypeId} {x y : Operand} {p : Addr} {v : Value} (ho : o.op = .store ty x y) (hx : a.eval x = .pointer (some p)) (hy : a.eval y = v) (hrun : (storeVar ty p v).run P w = .ok () w') : (execOp a.eval o).run P w = .ok .skip w' := by
  unfold execOp
  simp only [ho, hx, hy, Instr.storeAt, Instr.sureAddr, Sem.run_bind, Sem.run_pure, Result.andThen_ok, hrun]
end calls
/-- Sector k is Cell{Durable: l}. -/
def RLay.setDur (L : RLay) (k b c : Nat) : RLay := ⟨L.gl, L.cap, setf L.db k b, setf L.dc k c, setf L.vv k (.slice none 0 0), L.hb, L.hc⟩
def Dk.setSec (S : Dk) (k : Nat) (x : Sec) : Dk := { S with sec := setf S.sec k x }
theorem IsRef.setDur {w w' : World} {r : Nat} {L : RLay} {F : Nat → Prop} {S : Dk} (h : IsRef w r L F S) {k b c : Nat} (hk : k < S.n) {l : List Nat} (hl : l.length = 256 ∧ BytesOk l) (hb : BlkF w b 1 fun _ => l) (hF : F b) (hc : capOk c) (u : Upd [L.gl] w w')
    (hg : ∃ cs cs', w.heap[L.gl]? = some (.cells cs 69 (0, 0)) ∧ w'.heap[L.gl]? = some (.cells cs' 69 (0, 0)) ∧ cs'.size = cs.size ∧ cs'[k * 2]? = some (.slice (some ⟨b, 0, none⟩) 256 c) ∧ cs'[k * 2 + 1]? = some (.slice none 0 0) ∧ ∀ j, j ≠ k * 2 → j ≠ k * 2 + 1 → cs'[j]? = cs[j]?) :
    IsRef w' r (L.setDur k b c) F (S.setSec k ⟨l, []⟩) := by
  obtain ⟨r1, r2, r3, r4⟩ := h.r_ne
  obtain ⟨g1, g2, g3⟩ := h.gl_ne
  have up : UpdP (· = L.gl) w w' := u.p fun x hx => by simpa using hx
  obtain ⟨cs, cs', hcs, hcs', hsz, c0, c1, c2⟩ := hg
  obtain ⟨cs0, hb0, hs0, hn0, hm0, hc0⟩ := h.lst
  rw [hcs] at hb0
  cases hb0
  have hbg : b ≠ L.gl := fun e => by
    obtain ⟨c2, hb2, _⟩ := hb
    rw [e, hcs] at hb2
    cases hb2
  have hbw := hb.upd2 up hbg
  refine ⟨⟨h.ok.n1, h.ok.n2, fun i hi => ?_, h.ok.fall, h.ok.left⟩, up.get h.hd r1, ⟨cs', hcs', by rw [hsz]; exact hs0, hn0, hm0, fun i hi => ?_⟩, fun i hi => ?_, fun i hi => ?_, fun i hi j hj => ?_, fun i j hi hj hij x hx => ?_, h.fr, h.fgl, fun i hi => ?_, fun i hi x hx => ?_, fun i hi j hj => ?_, fun x hx => Nat.lt_of_lt_of_le (h.old x hx) u.size⟩
  · by_cases e : i = k
    · subst e
      show (setf S.sec i _ i).ok
      rw [setf_same]
      exact ⟨hl, fun v hv => by cases hv⟩
    · show (setf S.sec k _ i).ok
      rw [setf_other _ _ e]; exact h.ok.sec i hi
  · unfold durV RLay.setDur
    dsimp only
    by_cases e : i = k
    · subst e
      rw [setf_same, setf_same, setf_same]
      exact ⟨c0, c1⟩
    · rw [setf_other _ _ e, setf_other _ _ e, setf_other _ _ e, c2 _ (by omega) (by omega), c2 _ (by omega) (by omega)]
      exact hc0 i hi
  · show BlkF w' (setf L.db k b i) 1 (fun _ => (setf S.sec k _ i).dur) ∧ capOk (setf L.dc k c i)
    by_cases e : i = k
    · subst e
      rw [setf_same, setf_same, setf_same]
      exact ⟨hbw, hc⟩
    · rw [setf_other _ _ e, setf_other _ _ e, setf_other _ _ e]
      exact ⟨(h.dur i hi).1.upd2 up (fun e => g1 i hi e.symm), (h.dur i hi).2⟩
  · show w'.ownsRow 0 31 1 (setf L.vv k _ i) (setf S.sec k _ i).ver.length (rheads (L.setDur k b c) i (setf S.sec k _ i).ver.length)
    by_cases e : i = k
    · subst e
      rw [setf_same, setf_same]
      exact ⟨rfl, .inl ⟨rfl, rfl⟩⟩
    · rw [setf_other _ _ e, setf_other _ _ e]
      exact ownsRow_upd2 (h.ver i hi) up (fun x hx e => g2 i hi x hx e.symm)
  · by_cases e : i = k
    · subst e
      have hj' : j < (setf S.sec i (⟨l, []⟩ : Sec) i).ver.length := hj
      rw [setf_same] at hj'
      exact absurd hj' (Nat.not_lt_zero _)
    · have e2 : (S.setSec k ⟨l, []⟩).sec i = S.sec i := setf_other _ _ e
      have hj' : j < (S.sec i).ver.length := by rw [e2] at hj; exact hj
      have := h.vby i hi j hj'
      refine ⟨?_, this.2⟩
      have h3 := this.1.upd2 up (fun e => g3 i hi j hj' e.symm)
      simp only [e2]
      exact h3
  · unfold RLay.setDur at hx ⊢
    dsimp only at hx ⊢
    by_cases e : i = k
    · subst e; rw [setf_same] at hx; simp [Value.ownBlock] at hx
    · rw [setf_other _ _ e] at hx
      by_cases e2 : j = k
      · subst e2; rw [setf_same]; simp [Value.ownBlock]
      · rw [setf_other _ _ e2]; exact h.apart i j hi hj hij x hx
  · show F (setf L.db k b i)
    by_cases e : i = k
    · subst e; rw [setf_same]; exact hF
    · rw [setf_other _ _ e]; exact h.fdb i hi
  · unfold RLay.setDur at hx
    dsimp only at hx
    by_cases e : i = k
    · subst e; rw [setf_same] at hx; simp [Value.ownBlock] at hx
    · rw [setf_other _ _ e] at hx; exact h.fvv i hi x hx
  · have e : i ≠ k := fun e => by
      subst e
      have hj' : j < (setf S.sec i (⟨l, []⟩ : Sec) i).ver.length := hj
      rw [setf_same] at hj'
      exact absurd hj' (Nat.not_lt_zero _)
    have e2 : (S.setSec k ⟨l, []⟩).sec i = S.sec i := setf_other _ _ e
    rw [e2] at hj
    exact h.fhb i hi j hj
theorem IsRef.storeDur {w w' : World} {r : Nat} {L : RLay} {F : Nat → Prop} {S : Dk} (h : IsRef w r L F S) {k b c : Nat} (hk : k < S.n) {l : List Nat} (hl : l.length = 256 ∧ BytesOk l) (hb : BlkF w b 1 fun _ => l) (hF : F b) (hc : capOk c) (u : Upd [L.gl] w w') {cs : Array Value}
    (hcs : w.heap[L.gl]? = some (.cells cs 69 (0, 0))) (hcs' : w'.heap[L.gl]? = some (.cells (splice cs (k * 2) [.slice (some ⟨b, 0, none⟩) 256 c, .slice none 0 0]) 69 (0, 0))) : IsRef w' r (L.setDur k b c) F (S.setSec k ⟨l, []⟩) := by
  obtain ⟨cs0, hb0, hs0, hn0, _⟩ := h.lst
  rw [hcs] at hb0
  cases hb0
  have hle : k * 2 + 2 ≤ cs.size := by omega
  refine h.setDur hk hl hb hF hc u ⟨cs, _, hcs, hcs', splice_size _ _ _ hle, ?_, ?_, fun j h1 h2 => ?_⟩
  · rw [splice_get _ _ _ hle, if_pos (by simp), Nat.sub_self]; rfl
  · rw [splice_get _ _ _ hle, if_pos (by simp), Nat.add_sub_cancel_left]; rfl
  · rw [splice_get _ _ _ hle, if_neg (by simp; omega)]
def RefX (w : World) (r : Nat) (F : Nat → Prop) (S : Dk) : Prop := ∃ L, IsRef w r L F S
theorem RefX.upd {w w' : World} {r : Nat} {F G : Nat → Prop} {S : Dk} (h : RefX w r F S) (u : UpdP G w w') (hs : ∀ x, F x → ¬ G x) : RefX w' r F S := by
  obtain ⟨L, h⟩ := h
  exact ⟨L, h.upd u hs⟩
theorem RefX.up {w w' : World} {r : Nat} {F : Nat → Prop} {S : Dk} {T : List Nat} (h : RefX w r F S) (u : Upd T w w') (hs : ∀ x ∈ T, ¬ F x) : RefX w' r F S := by
  obtain ⟨L, h⟩ := h
  exact ⟨L, h.up u hs⟩
/-- The first k sectors are flushed. -/
def Dk.flushK (S : Dk) (k : Nat) : Dk := { S with sec := fun i => if i < k then ⟨(S.sec i).last, []⟩ else S.sec i }
theorem Dk.flushK_zero (S : Dk) : S.flushK 0 = S := by
  obtain ⟨n, sec, fall, left⟩ := S
  simp [Dk.flushK]
theorem Dk.flushK_succ (S : Dk) (k : Nat) : S.flushK (k + 1) = (S.flushK k).setSec k ⟨(S.sec k).last, []⟩ := by
  unfold Dk.flushK Dk.setSec
  simp only [Dk.mk.injEq, true_and, and_true]
  funext i
  unfold setf
  by_cases e : i = k
  · subst e; rw [if_pos rfl, if_pos (by omega)]
  · rw [if_neg e]
    dsimp only
    by_cases e2 : i < k
    · rw [if_pos e2, if_pos (by omega)]
    · rw [if_neg e2, if_neg (by omega)]
theorem Dk.flushK_last (S : Dk) (k : Nat) : ((S.flushK k).sec k).last = (S.sec k).last := by
  show (if k < k then (⟨(S.sec k).last, []⟩ : Sec) else S.sec k).last = _
  rw [if_neg (by omega)]
/-- Only the sectors that are there count. -/
theorem IsRef.congr {w : World} {r : Nat} {L : RLay} {F : Nat → Prop} {S S' : Dk} (h : IsRef w r L F S) (hn : S'.n = S.n) (hf : S'.fall = S.fall) (hl : S'.left = S.left) (hs : ∀ i, i < S.n → S'.sec i = S.sec i) : IsRef w r L F S' := by
  obtain ⟨n', sec', fall', left'⟩ := S'
  obtain ⟨n, sec, fall, left⟩ := S
  simp only at hn hf hl hs
  subst hn; subst hf; subst hl
  refine ⟨⟨h.ok.n1, h.ok.n2, fun i hi => by dsimp only; rw [hs i hi]; exact h.ok.sec i hi, h.ok.fall, h.ok.left⟩, h.hd, h.lst, fun i hi => by dsimp only; rw [hs i hi]; exact h.dur i hi, fun i hi => by dsimp only; rw [hs i hi]; exact h.ver i hi, fun i hi j hj => ?_, h.apart, h.fr, h.fgl, h.fdb, h.fvv, fun i hi j hj => ?_, h.old⟩
  · have e := hs i hi
    have hj' : j < (sec i).ver.length := by rw [← e]; exact hj
    have := h.vby i hi j hj'
    simp only [e]
    exact this
  · have e := hs i hi
    exact h.fhb i hi j (by show j < (sec i).ver.length; rw [← e]; exact hj)
set_option maxRecDepth 100000 in
set_option maxHeartbeats 3200000 in
theorem rflush_any {w : World} {r : Nat} {F : Nat → Prop} {S : Dk} (h : RefX w r F S) :
    Calls Try.prog 35 #[.pointer (some ⟨r, 0, none⟩)] w fun e w' => e = .returned (.int .i64 S.flush.1) ∧ RefX w' r F S.flush.2 ∧ UpdP F w w' := by
  obtain ⟨L, h⟩ := h
  have HD := Lib.hid h
  have hf := rfails_any h.hd h.ok.fall 3 (by decide)
  cases hh : S.hit 3
  rotate_left
  · have HR := Lib.hid (show S.flush = (12, S.tick 3) by unfold Dk.flush; rw [hh]; rfl)
    rw [hh] at hf
    have HF := Lib.hid hf
    clear h hf hh
    go_enter Try.func35, Try.ntmps35
    go_wp2_with (go_at_call 41; refine HF.out.mono ?_; rintro e w1 ⟨rfl, h1, u1⟩; have H1 := Lib.hid h1; have U1 := Lib.hid u1; clear h1 u1)
    go_ret
    rw [HR.out]
    exact ⟨rfl, ⟨L, HD.out.ticked U1.out 3 H1.out⟩, U1.out.p (by simpa using HD.out.fr)⟩
  · rw [hh] at hf
    have HF := Lib.hid hf
    cases hdn : S.down
    rotate_left
    · have HR := Lib.hid (show S.flush = (12, S.tick 3) by unfold Dk.flush; rw [hh, hdn]; rfl)
      have hl0 : S.left = some 0 := by unfold Dk.down at hdn; simpa using hdn
      have HN := Lib.hid hl0
      clear h hf hh hdn hl0
      go_enter Try.func35, Try.ntmps35
      go_wp2_with fail
      refine HF.out.mono ?_
      rintro e w1 ⟨rfl, h1, u1⟩
      have H1 := Lib.hid h1
      have U1 := Lib.hid u1
      have c5 := (rcell h1).2.2.2.2.2
      rw [show rLeft (S.tick 3) = 0 by unfold rLeft; rw [show (S.tick 3).left = S.left from rfl, HN.out]; rfl] at c5
      clear h1 u1
      go_wp2
      go_ret
      rw [HR.out]
      exact ⟨rfl, ⟨L, HD.out.ticked U1.out 3 H1.out⟩, U1.out.p (by simpa using HD.out.fr)⟩
    · have HR := Lib.hid (show S.flush = (0, (S.tick 3).flushed.did) by unfold Dk.flush; rw [hh, hdn]; rfl)
      have hl0 : rLeft (S.tick 3) ≠ 0 := by
        unfold Dk.down at hdn
        unfold rLeft
        rw [show (S.tick 3).left = S.left from rfl]
        cases hl : S.left with
        | none => simp
        | some k => rw [hl] at hdn; simp at hdn; simp; omega
      obtain ⟨lf, hlf⟩ : ∃ lf, rLeft (S.tick 3) = lf := ⟨_, rfl⟩
      rw [hlf] at hl0
      have hl1 : (lf == 0) = false := by simpa using hl0
      have HLF := Lib.hid hlf
      have n2 := h.ok.n2
      clear h hf hh hdn hl0 hlf
      go_enter Try.func35, Try.ntmps35
      go_wp2_with fail
      refine HF.out.mono ?_
      rintro e w1 ⟨rfl, h1, u1⟩
      have c5 := (rcell h1).2.2.2.2.2
      rw [HLF.out] at c5
      have D1 := Lib.hid (HD.out.ticked u1 3 h1)
      have U1 := Lib.hid u1
      clear h1 u1
      go_wp2_with fail
      go_loopw [3] (fun i wr => ∃ k : Nat, k ≤ S.n ∧ i = .int .i64 k ∧ RefX wr r F ((S.tick 3).flushK k) ∧ UpdP F w1 wr) (fun i _ => S.n - (RowKit.intOf i).toNat)
      case atStart => exact ⟨0, Nat.zero_le _, rfl, ⟨L, by rw [Dk.flushK_zero]; exact D1.out⟩, UpdP.refl _ _⟩
      case round =>
        obtain ⟨k, hk, rfl, ⟨Lr, hR⟩, hU⟩ := hrel
        have HR' := Lib.hid hR
        have HU := Lib.hid hU
        obtain ⟨c0, _⟩ := rcell hR.hd
        rw [show ((S.tick 3).flushK k).n = S.n from rfl] at c0
        clear hR hU
        by_cases hlt : k < S.n
        · have hlt' : (k : Int) < S.n := by omega
          have hdr : IsRef wr.drew r Lr F ((S.tick 3).flushK k) := HR'.out.up (S := (S.tick 3).flushK k) (Upd.drew (Upd.refl [] wr)) (by simp)
          have HDR := Lib.hid hdr
          have hla := rlast_any hdr k hlt
          rw [Dk.flushK_last, show ((S.tick 3).sec k).last = (S.sec k).last from rfl] at hla
          have HLA := Lib.hid hla
          have HOK := Lib.hid (Sec.last_ok (HD.out.ok.sec k hlt))
          clear hdr hla
          go_wp2_with fail
          refine wp_region_order (fun W' => W'.cell? ⟨r, 0, none⟩ = some (.slice (some ⟨Lr.gl, 0, none⟩) S.n Lr.cap)) [0, 1, 2, 3, 4, 5, 6] [[7, 8, 9, 10]] 4 rfl (by kernel_rfl) c0 ?_
          simp only [List.map_cons, List.map_nil, opAt]
          iterate 7
            apply reads_step rfl
            · intro wq hq
              go_simp
              all_goals with_reducible rfl
            simp only [Act.put, List.setIfInBounds_toArray, List.set_cons_zero, List.set_cons_succ]
          refine ⟨?_, trivial⟩
          simp only [List.map_cons, List.map_nil, opAt]
          refine tail_call rfl (exec_call rfl (vs := [.pointer (some ⟨r, 0, none⟩), .int .i64 (k : Nat)]) rfl (enters_of Try.func42 (by kernel_rfl) rfl)) HLA.out ?_
          rintro e w2 ⟨⟨b, cb, rfl, hb, hbF, hcb⟩, u2⟩
          have hc2 : w2.cell? ⟨r, 0, none⟩ = some (.slice (some ⟨Lr.gl, 0, none⟩) S.n Lr.cap) := by rw [← c0]; exact World.cell?_of_block (u2.block r (World.block_lt_of_cell? _ _ c0) (by simp))
          refine ⟨_, rfl, hc2, ?_⟩
          simp only [Act.put, List.setIfInBounds_toArray, List.set_cons_zero, List.set_cons_succ]
          refine ⟨rfl, ?_⟩
          go_simp
          refine ⟨rfl, ?_⟩
          go_simp
          have D2 := HDR.out.up u2 (by simp)
          obtain ⟨cs, hcs, hsz, hn1, hn2, _⟩ := D2.lst
          obtain ⟨w3, hst, hcs3, u3, _⟩ := run_store_part (P := Try.prog) w2 69 Lr.gl (k * 2) #[.slice (some ⟨b, 0, none⟩) 256 cb, .slice none 0 0] 69 cs hcs sizeCell (by show k * 2 + 2 ≤ cs.size; rw [show ((S.tick 3).flushK k).n = S.n from rfl] at hn1; omega) (by simp [Value.oneCell'])
          have hc3 : w3.cell? ⟨r, 0, none⟩ = some (.slice (some ⟨Lr.gl, 0, none⟩) S.n Lr.cap) := by rw [← hc2]; exact World.cell?_of_block (u3.block r (World.block_lt_of_cell? _ _ hc2) (by simpa using D2.r_ne.1))
          refine tail_skip rfl (exec_store rfl rfl rfl hst) hc3 ?_
          dsimp only [OnlyN, Exit.then, wpTail, Exit.inBlock]
          have D3 := Lib.hid (D2.storeDur hlt HOK.out hb hbF hcb u3 hcs hcs3)
          have U23 := Lib.hid ((((Upd.refl [] wr).drew).trans u2).p (F := F) (by simp) |>.step (u3.p (F := F) (by simpa using D2.fgl)) fun x hx => .inl hx)
          clear D2 hst hcs hcs3 u3 u2 hb hbF hcb hsz hn1 hn2 hc2 hc3 c0
          go_wp2
          go_roundw
          case rel => exact ⟨k + 1, by omega, by go_num, ⟨_, by rw [Dk.flushK_succ]; exact D3.out⟩, HU.out.step U23.out fun x hx => .inl hx⟩
          case measure => simp [RowKit.intOf]; omega
        · obtain rfl : k = S.n := by omega
          have HDN := Lib.hid (rdone_any HR'.out)
          go_wp2_with fail
          refine HDN.out.mono ?_
          rintro e w5 ⟨rfl, h5, u5⟩
          have H5 := Lib.hid h5
          have U5 := Lib.hid u5
          clear h5 u5
          go_wp2
          go_ret
          rw [HR.out]
          refine ⟨rfl, ⟨Lr, H5.out.congr rfl rfl rfl fun i hi => ?_⟩, ((U1.out.p (F := F) (by simpa using HD.out.fr)).step HU.out fun x hx => .inl hx).step (U5.out.p (F := F) (by simpa using HD.out.fr)) fun x hx => .inl hx⟩
          have hi : i < S.n := hi
          show (⟨(S.sec i).last, []⟩ : Sec) = if i < S.n then (⟨(S.sec i).last, []⟩ : Sec) else S.sec i
          rw [if_pos hi]
end Go.Proofs.Ytpnpjffhkaejgaa
