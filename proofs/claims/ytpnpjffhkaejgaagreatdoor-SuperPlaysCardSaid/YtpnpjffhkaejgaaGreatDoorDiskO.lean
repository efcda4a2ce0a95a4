/-
  PROVED HERE: Write, where it is done. Conditions: those that each theorem names.
-/
import Derived.Test.YtpnpjffhkaejgaaGreatDoorDiskN
namespace Go.Proofs.YtpnpjffhkaejgaaGreatDoor
open Go.RowKit Go.Shelf

attribute [local go_sem] Oper.semAt_some

/-- The disk behind a write; what it uses besides is new. -/
def WroteDisk (w' : World) (d : Nat) (L : DLay) (F : Nat → Prop) (B : Nat) (S : Dk) : Prop := ∃ L' F', L'.db = L.db ∧ L'.mb = L.mb ∧ IsDisk w' d L' F' S ∧ ∀ x, F' x → F x ∨ B ≤ x

theorem wpListIn_copyb {F : Fence} {n : Nat} {w : World} {ops : Array Oper} {rest : List Oper} {o : Oper} {a : Act} {Q : Exit → Act → World → Prop} (hgd : o.guard = none) (s x : Operand)
    (ho : o.op = .call { callee := .builtin .copy, args := #[s, x], argTypes := #[62, 62] }) {g of dLen dCap b q c k : Nat} {l : List Nat} {cur : Array Value} (hs : a.eval s = .slice (some ⟨g, of, none⟩) dLen dCap) (hx : a.eval x = .slice (some ⟨b, q, none⟩) k c) (hn : k = l.length)
    (hb : IsBytes w (some ⟨b, q, none⟩) l) (hg : w.heap[g]? = some (.cells cur 5 (0, 0))) (hle : l.length ≤ dLen) (hfit : of + l.length ≤ cur.size)
    (h : ∀ w2, w2.heap[g]? = some (.cells (splice cur of (u8s l)) 5 (0, 0)) → Upd [g] w w2 → w2.heap.size = w.heap.size → wpListIn F n Tryz.prog ops Q rest (a.put o.dst (.int .i64 (k : Nat))) w2) :
    wpListIn F n Tryz.prog ops Q (o :: rest) a w := by
  refine wpListIn_plain hgd fun K hK' => ?_
  subst hn
  obtain ⟨w2, hrun, h1, h2, h3⟩ := run_copyb (dCap := dCap) (c := c) hb hg hle hfit o.type
  unfold Oper.wpIn
  refine ⟨?_, ?_⟩
  · simp [Oper.about, ho, resolve, Target.leads, Sem.run_pure]
  · rw [Oper.semAt_plain F _ _ (by rw [ho]; intro c hc'; cases hc')]
    simp [execOp, ho, resolve, invoke, builtin, hs, hx, hrun, Result.andThen]
    exact hK' _ _ (h w2 h1 h2 h3)
theorem pieces_all {data : List Nat} {c : Nat} (hc : data.length = 256 * c) : ((List.range c).map fun x => piece data (x % (data.length / 256))) = pieces data := by
  have hcd : data.length / 256 = c := by omega
  unfold pieces
  rw [hcd]
  exact List.map_congr_left fun x hx => by rw [Nat.mod_eq_of_lt (List.mem_range.1 hx)]
theorem write_done {S : Dk} {p c : Nat} {data : List Nat} {fua : Bool} (hc : data.length = 256 * c) (hc0 : 0 < c) (hpc : p + c ≤ S.n) (hh : S.hit 2 = false) (hdn : S.down = false) : S.write p data fua = (0, (puts (S.tick 2) fua p (pieces data)).did) := by
  unfold Dk.write
  have ht : S.there (p : Int) ((data.length / 256 : Nat) : Int) = true := by unfold Dk.there; simp; omega
  rw [if_neg (by omega), ht, if_pos rfl, hh, hdn]; rfl
theorem infoSl : (Tryz.prog.info? 62).map (fun i => (i.zero, i.size, i.bytes)) = some (some (.slice none 0 0), 1, 24) := by kernel_rfl
/-- The versions' slice, as a row of the call's own. -/
theorem row_of_ver {w : World} {d : Nat} {L : DLay} {F : Nat → Prop} {S : Dk} (h : IsDisk w d L F S) {q : Nat} (hq : q < S.n) {v : Value} (hv : v = if (S.sec q).ver = [] then .slice none 0 0 else verV L S q) {m : Nat} (hm : (S.sec q).ver.length = m) :
    w.ownsRow 0 62 1 v m (heads L q m) := by
  by_cases e : (S.sec q).ver = []
  · have : m = 0 := by rw [← hm, e]; rfl
    subst this
    rw [hv, if_pos e]
    exact ⟨rfl, .inl ⟨rfl, rfl⟩⟩
  · obtain ⟨cs, hb, hs, hl, hcm, hc⟩ := h.ver q hq e
    rw [hv, if_neg e]
    refine ⟨by simp [heads], .inr ⟨L.g q, L.cap q, cs, by unfold verV; rw [hm], Nat.zero_le _, hb, by rw [← hm]; exact hl, hcm, by rw [hs, Nat.mul_one], ?_⟩⟩
    apply List.ext_getElem?
    intro j
    by_cases hj : j < m
    · rw [List.getElem?_take_of_lt (by omega), Array.getElem?_toList, (hc j (by omega)).1]
      simp [heads, hj]
    · rw [List.getElem?_eq_none (by simp; omega), List.getElem?_eq_none (by simp [heads]; omega)]
/-- Behind the last round: one more was done, and the list of deferred calls is used up. -/
theorem write_end {w W : World} {d D : Nat} {L L' : DLay} {F F' : Nat → Prop} {S S' : Dk} {Bl l : Nat} {cc : Bool} (h : IsDisk W d L' F' S') (hh : W.heap[d]? = some (.cells (dCells L' S' cc l) 66 (0, 0))) (hl : l ≤ 1099511627776) (he : (if cc then some l else none) = S'.left) (hS : S = S'.did)
    (hu : UpdP F w W) (hFd : F d) (l1 : L'.db = L.db) (l2 : L'.mb = L.mb) (hF1 : ∀ x, F' x → F x ∨ w.heap.size ≤ x) (hF2 : ∀ x, F' x → Bl ≤ x → ∃ o, W.heap[x]? = some o ∧ o.isCells = true) (hD : Bl ≤ D) (hB : w.heap.size ≤ Bl) (hK : W.heap[D]? = some (.deferred (some []))) :
    ((W.setCell ⟨d, 7, none⟩ (.int .i64 (max 0 ((l : Int) - 1)))).drew).heap[D]? = some (.deferred (some [])) ∧
    WroteDisk (((W.setCell ⟨d, 7, none⟩ (.int .i64 (max 0 ((l : Int) - 1)))).drew).putObj D (.deferred none)) d L F w.heap.size S ∧ UpdP F w (((W.setCell ⟨d, 7, none⟩ (.int .i64 (max 0 ((l : Int) - 1)))).drew).putObj D (.deferred none)) := by
  subst hS
  have hm : max 0 ((l : Int) - 1) = ((l - 1 : Nat) : Int) := by omega
  rw [hm]
  have hdD : d ≠ D := fun e => by subst e; rw [hh] at hK; cases hK
  have u1 : Upd [d] W (W.setCell ⟨d, 7, none⟩ (.int .i64 ((l - 1 : Nat) : Int))).drew := ((Upd.refl [d] W).setCell (.inl (by simp)) _).drew
  have hb1 : (W.setCell ⟨d, 7, none⟩ (.int .i64 ((l - 1 : Nat) : Int))).drew.heap[d]? = some (.cells (dCells L' S' cc (l - 1)) 66 (0, 0)) := dset7 hh (l - 1)
  have h1 : IsDisk (W.setCell ⟨d, 7, none⟩ (.int .i64 ((l - 1 : Nat) : Int))).drew d L' F' S'.did := h.head u1 rfl rfl h.ok.did ⟨cc, l - 1, hb1, by omega, by
    show _ = S'.left.map (· - 1)
    rw [← he]; cases cc <;> rfl⟩
  have hK1 : (W.setCell ⟨d, 7, none⟩ (.int .i64 ((l - 1 : Nat) : Int))).drew.heap[D]? = some (.deferred (some [])) := u1.get hK (by simpa using hdD.symm)
  have u2 : Upd [D] (W.setCell ⟨d, 7, none⟩ (.int .i64 ((l - 1 : Nat) : Int))).drew ((W.setCell ⟨d, 7, none⟩ (.int .i64 ((l - 1 : Nat) : Int))).drew.putObj D (.deferred none)) :=
    ⟨rfl, rfl, rfl, by simp [World.putObj], fun k _ hk => World.putObj_heap_other (by simpa using hk)⟩
  have hDF : ¬ F' D := fun e => by
    obtain ⟨o, ho, hc⟩ := hF2 D e hD
    rw [hK] at ho; cases ho; cases hc
  refine ⟨hK1, ⟨L', F', l1, l2, h1.up u2 (by simpa using hDF), hF1⟩, (hu.step (u1.p (F := (· = d)) (by simp)) (fun x e => .inl (by rw [e]; exact hFd))).step (u2.p (F := (· = D)) (by simp)) fun x e => .inr (by omega)⟩
set_option maxRecDepth 100000 in
set_option maxHeartbeats 4000000 in
theorem write_yes {w : World} {d : Nat} {L : DLay} {F : Nat → Prop} {S : Dk} (h : IsDisk w d L F S) (p c : Nat) {a : Option Addr} {data : List Nat} {cap : Nat} (fua : Bool) (hb : IsBytes w a data) (hbf : ∀ b o, a = some ⟨b, o, none⟩ → ¬ F b) (hc : data.length = 256 * c) (hc0 : 0 < c) (hpc : p + c ≤ S.n) (hh : S.hit 2 = false) (hdn : S.down = false) (hvl : ∀ i, i < S.n → (S.sec i).ver.length ≤ 2000000000000) :
    Calls Tryz.prog 20 #[.pointer (some ⟨d, 0, none⟩), .int .i64 (p : Nat), .slice a data.length cap, .bool fua] w fun e w' => e = .returned (.int .i64 0) ∧ WroteDisk w' d L F w.heap.size (S.write p data fua).2 ∧ UpdP F w w' := by
  have HD := Lib.hid h
  have ub := boxes_upd w d p fua
  have HB := Lib.hid (h.up ub (by simp))
  have UB := Lib.hid ub
  have n2 := h.ok.n2
  have ht : S.there (p : Int) (c : Int) = true := by unfold Dk.there; simp; omega
  have HT := Lib.hid (ht ▸ there_any HB.out.hd h.ok.n2 (p : Int) (c : Int))
  have HF := Lib.hid (hh ▸ fails_any HB.out.hd h.ok.fall 2 (by decide))
  have e0 : ((256 * c : Nat) : Int) / 256 = (c : Int) := by omega
  have e1 : ((256 * c : Nat) : Int) = 256 * (c : Int) := by omega
  have e2 : ((256 * (c : Int)) == 0) = false := by simpa using (by omega : ¬ (256 * (c : Int)) = 0)
  have e3 : ((256 * (c : Int)) % 256 != 0) = false := by simp
  have e4 : (256 * (c : Int)) / 256 = (c : Int) := by omega
  have e5 : (0 : Int) ≤ 256 * (c : Int) := by omega
  have c4 : c ≤ 4096 := by omega
  rw [hc]
  have HC := Lib.hid hc
  have HBY := Lib.hid hb
  have HBF := Lib.hid hbf
  have HDN := Lib.hid hdn
  have HHT := Lib.hid hh
  have HVL := Lib.hid hvl
  have HPC := Lib.hid hpc
  clear h ub ht hh hdn hc hb hpc hbf hvl
  unfold boxes at HT HF
  refine (callsIn_wide (n := 8)).1 ?_
  refine callsIn_of_wp_marks Tryz.func20 rfl trivial ?_ rfl
  simp only [Tryz.ntmps20, List.size_toArray, List.length_cons, List.length_nil, Nat.reduceAdd, Nat.reduceSub, Array.replicate_succ, Array.replicate_zero, List.push_toArray, List.append_toArray, List.nil_append, List.cons_append]
  gi_wp2_with (refine ⟨trivial, ?_⟩; gi_at_call 35; (with_reducible refine (callsIn_wide.2 HT.out).mono ?_); rintro e w' ⟨rfl, rfl⟩)
  refine ⟨trivial, ?_⟩
  gi_at_call 36
  refine (callsIn_wide.2 HF.out).mono ?_
  rintro e w1 ⟨rfl, h1, u1⟩
  obtain ⟨hb1, hb2⟩ := box_up (HD.out.old _ HD.out.fd) u1
  have H1 := Lib.hid h1
  have U1 := Lib.hid u1
  have hsz1 : w.heap.size + 3 ≤ w1.heap.size := by have := u1.size; simp at this; omega
  have hd := down_any h1
  rw [show (S.tick 2).down = S.down from rfl, HDN.out] at hd
  have HDW := Lib.hid hd
  clear h1 u1 hd
  have hcl := clone_row (cap := cap) (HBY.out.upd ((UB.out.mono (T := [d]) (by simp)).trans U1.out) (fun b o e => by simp only [List.mem_singleton]; rintro rfl; exact HBF.out _ _ e HD.out.fd)) (by rw [HC.out]; omega) (by rw [HC.out]; omega)
  rw [HC.out] at hcl
  have HCL := Lib.hid hcl
  clear hcl
  gi_wp2_with (refine ⟨trivial, ?_⟩; gi_at_call 37; (with_reducible refine (callsIn_wide.2 HDW.out).mono ?_); rintro e w2 ⟨rfl, rfl⟩)
  refine ⟨trivial, ?_⟩
  gi_at_call 39
  (with_reducible refine (callsIn_wide.2 HCL.out).mono ?_)
  rintro e w2 ⟨⟨v2, rfl, r2⟩, u2⟩
  obtain ⟨g, cap2, rfl, hg, hcm, hcl⟩ := r2.some (by rw [HC.out]; omega)
  have HBC := Lib.hid r2.slice
  have U2 := Lib.hid u2
  have HG := Lib.hid hg
  have H1' := Lib.hid (hb1)
  rw [HC.out] at hcl ⊢
  clear r2 u2 hg hb1
  have HCH := Lib.hid (fun a l c w => chunk_in Fence.wide 7 trivial rfl a l c w)
  gi_wp2_with (refine ⟨trivial, ?_⟩; gi_at_call 38; (with_reducible refine (HCH.out _ _ _ _).mono ?_); rintro e w3 ⟨rfl, h3⟩; have H3 := Lib.hid h3; clear h3)
  have hs3 : w3.heap.size = w2.heap.size + 2 := by rw [H3.out]; simp
  have hu3 : Upd [] w2 w3 := by rw [H3.out]; exact ((Upd.refl [] w2).alloc _).alloc _
  have hB2 : w3.cell? ⟨w2.heap.size, 0, none⟩ = some (.slice (some ⟨g, 0, none⟩) (256 * c) cap2) := by
    rw [H3.out]
    have := ((Upd.refl [] _).alloc (.cells #[Value.int .i64 256] 3)).get (heap_alloc_new w2 (.cells #[Value.slice (some ⟨g, 0, none⟩) (256 * c) cap2] 62)) (by simp)
    rw [(cells_of this).1]; rfl
  have hB3 : w3.cell? ⟨w2.heap.size + 1, 0, none⟩ = some (.int .i64 256) := by
    rw [H3.out]
    have := heap_alloc_new (w2.alloc (.cells #[Value.slice (some ⟨g, 0, none⟩) (256 * c) cap2] 62)) (.cells #[Value.int .i64 256] 3)
    rw [World.size_alloc] at this
    rw [(cells_of this).1]; rfl
  have hst := chunk_stops Fence.wide 7 trivial rfl (by decide) w2.heap.size (w2.heap.size + 1) g c cap2 hc0 c4 hcl w3 (by omega) (by omega) hB2 hB3
  have HST := Lib.hid hst
  have HS3 := Lib.hid hs3
  have HU3 := Lib.hid hu3
  have hown := rnd_own (L := L) (S := S.tick 2) (p := p) (data := data) (fua := fua) (g := g) (d := d) HD.out.old (Bl := w3.heap.size) (by have := U2.out.size; omega)
  have hr0 : Rnd w d L F (S.tick 2) p data fua g w3.heap.size [] w3 := by
    have hF : ∀ x, F x → x < w.heap.size := HD.out.old
    have hd0 := hF _ HD.out.fd
    obtain ⟨k1, k2, k3⟩ := boxes_get w d p fua
    have q : ∀ {k : Nat} {o : Obj}, w.heap.size ≤ k → (boxes w d p fua).heap[k]? = some o → w3.heap[k]? = some o := fun hk ho =>
      hu3.get (U2.out.get (Upd.get U1.out ho (by simp only [List.mem_singleton]; omega)) (by simp)) (by simp)
    obtain ⟨a', cp', e', hby, hbl, _⟩ := HBC.out
    cases e'
    have hd3 : IsDisk w3 d L F (S.tick 2) := ((HB.out.ticked U1.out 2 H1.out).up U2.out (by simp)).up hu3 (by simp)
    exact {
      disk := ⟨L, F, rfl, rfl, hd3, fun x hx => .inl hx, fun x hx hx2 => by have := hF x hx; have := U2.out.size; omega⟩
      dbox := q (Nat.le_refl _) k1
      abox := q (by omega) (by simpa using k2)
      fbox := q (by omega) k3
      clone := hby.upd hu3 (by simp)
      gsz := by have := (hbl g 0 rfl).2; omega
      bsz := Nat.le_refl _
      upd := (((UB.out.mono (T := [d]) (by simp)).trans U1.out).trans (U2.out.mono (by simp)) |>.trans (hu3.mono (by simp))).p (by simpa using HD.out.fd) }
  have HOWN := Lib.hid hown
  have HR0 := Lib.hid hr0
  clear hst hs3 hu3 hB2 hB3 hown hr0
  refine wpIn_rangeFunc_ownG (F := Fence.wide) (n := 8) rfl (by decide) (gf := 56) (lb := #[.pointer (some ⟨w2.heap.size, 0, none⟩), .pointer (some ⟨w2.heap.size + 1, 0, none⟩)]) rfl trivial (enters_of Tryz.func56 (by kernel_rfl) rfl)
    HST.out KpB.trans (fun W l o o' h1 h2 h3 h4 => KpB.put (w := w3) (by rw [HS3.out]; omega) (by rw [HS3.out]; omega) W l o o' h1 h2 h3 h4) (Below.refl _ _) (fun _ => rfl)
    (Rnd w d L F (S.tick 2) p data fua g w3.heap.size) (fun _ _ _ => False) HOWN.out (fun _ _ _ _ _ hs _ _ => hs) HR0.out
    (fun x => { tmps := #[Value.pointer (some ⟨d, 0, none⟩), .int .i64 p, .slice a (256 * c) cap, .bool fua, .pointer (some ⟨w.heap.size, 0, none⟩), .pointer (some ⟨w.heap.size + 1, 0, none⟩), undef,
          .pointer (some ⟨w.heap.size + 1 + 1, 0, none⟩), .int .i64 0, pieceV g c x, .bool false, .slice a (256 * c) cap, .int .i64 (256 * c), .bool false,
          .bool false, .slice a (256 * c) cap, .int .i64 (256 * c), .int .i64 0, .bool false, .bool false, .bool false, .pointer (some ⟨d, 0, none⟩),
          .int .i64 p, .slice a (256 * c) cap, .int .i64 (256 * c), .int .i64 c, .bool true, .bool false, .bool false, .pointer (some ⟨d, 0, none⟩), .bool false,
          .pointer (some ⟨d, 0, none⟩), .bool false, .slice a (256 * c) cap, .slice (some ⟨g, 0, none⟩) (256 * c) cap2,
          .func (.func 56) #[] #[.pointer (some ⟨w2.heap.size, 0, none⟩), .pointer (some ⟨w2.heap.size + 1, 0, none⟩)],
          pieceV g c x, undef, undef, undef, undef, undef, undef, undef, undef, undef, undef, undef, undef, undef, undef, undef, undef, undef, undef, undef, undef, undef, undef, undef, undef, undef, undef, undef, undef, undef, undef, undef, undef, undef, undef, undef, undef], defers := [] }) ?assign ?body ?done ?stop
  case assign =>
    intro l x W K hK
    gi_wp2
    exact hK
  case stop =>
    rintro D c pre W _ _ h _
    exact h.elim
  case body =>
    rintro l pre x W hR hlt
    obtain ⟨L', F', l1, l2, hD', hF1, hF2⟩ := hR.disk
    obtain ⟨q, hq⟩ : ∃ q, p + pre.length = q := ⟨_, rfl⟩
    have hqn : q < S.n := by have := HPC.out; omega
    have hn' : (puts (S.tick 2) fua p (pre.map fun x => piece data (x % (data.length / 256)))).n = S.n := (puts_n _ _ _ _).1
    have hc1 := (cells_of hR.dbox).1 0
    have hc2 := (cells_of hR.abox).1 0
    have hc3 := (cells_of hR.fbox).1 0
    have hz2 := (cells_of hR.abox).2 0
    simp only [List.getElem?_toArray, List.getElem?_cons_zero] at hc1 hc2 hc3
    rw [hq] at hc2
    have HR := Lib.hid hR
    have HD' := Lib.hid hD'
    have HN' := Lib.hid hn'
    have HQ := Lib.hid hq
    have HF1 := Lib.hid hF1
    have HF2 := Lib.hid hF2
    have HL1 := Lib.hid l1
    have HL2 := Lib.hid l2
    clear hR hD' hn' hq hF1 hF2 l1 l2
    cases fua
    · generalize hS' : puts (S.tick 2) false p (pre.map fun x => piece data (x % (data.length / 256))) = S' at HD' HN'
      have hnv : (S'.sec q).ver.length ≤ 2000000000000 := by
        rw [← hS', puts_sec_ge (by rw [List.length_map]; have := HQ.out; omega)]; exact HVL.out q hqn
      obtain ⟨v, hv⟩ : ∃ v, v = if (S'.sec q).ver = [] then Value.slice none 0 0 else verV L' S' q := ⟨_, rfl⟩
      obtain ⟨m, hm⟩ : ∃ m, (S'.sec q).ver.length = m := ⟨_, rfl⟩
      obtain ⟨i0, hi, iz0, iz1, iz2⟩ := info_parts infoSl
      obtain ⟨a1, a2, a3⟩ := HD'.out.apart3
      have hF : ∀ x, F x → x < w.heap.size := HD.out.old
      have hd0 := hF _ HD.out.fd
      have hqn' : q < S'.n := by rw [HN'.out]; exact hqn
      have ua : Upd [] W (W.drew.alloc (.cells #[pieceV g c x] 62)) := ((Upd.refl [] W).drew).alloc _
      have hrow := ownsRow_upd (row_of_ver HD'.out hqn' hv hm) ua (by simp)
      rw [hm] at hnv
      obtain ⟨v', w4, hap, hrow4, hmine4⟩ := run_append_blk (P := Tryz.prog) (W.drew.alloc (.cells #[pieceV g c x] 62)) 0 70 70 62 i0 _ 1 24 Tryz.underlying70 hi iz0 iz1 iz2 rfl (by decide) v m _ hrow ⟨W.heap.size, 0, none⟩ 1 1 [pieceV g c x] rfl
        (fun j u hj => by rw [add_off]; have : (W.drew.alloc (.cells #[pieceV g c x] 62)).heap[W.heap.size]? = _ := heap_alloc_new W.drew (.cells #[pieceV g c x] 62); rw [(cells_of this).1, Nat.zero_add]; simpa using hj) (by simp [pieceV, Value.oneCell']) (by unfold maxLen; omega) (by omega) (by simp)
      obtain ⟨g', cap', rfl⟩ := ownsRow_succ hrow4
      have hlk : ∀ wz, IMap Tryz.prog 3 wz L'.mb (mapOf L' S') → (Instr.lookup 63 (.map (some L'.mb)) (.int .i64 (q : Nat)) false).run Tryz.prog wz = .ok v wz := fun wz hz => by
        have := hz.look (t := 63) false Tryz.underlying3 Tryz.underlying63 (zeroVers wz) (x := (q : Int)) (WalkArith.wf_i64 (by omega))
        rw [this, mapOf_in hqn', hv]
        by_cases e : (S'.sec q).ver = []
        · rw [if_pos e, if_pos e]; rfl
        · rw [if_neg e, if_neg e]; rfl
      have hlk1 := hlk W.drew (HD'.out.map.upd (S := []) (Upd.drew (Upd.refl [] W)) (by simp))
      have hlk2 := hlk _ (HD'.out.map.upd ua (by simp))
      have hT : ∀ y ∈ v.ownBlock.toList, F' y ∧ y ≠ L'.mb ∧ y ≠ d := fun y hy => by
        by_cases e : (S'.sec q).ver = []
        · rw [hv, if_pos e] at hy; simp [Value.ownBlock] at hy
        · rw [hv, if_neg e] at hy
          obtain rfl : y = L'.g q := by simpa [verV, Value.ownBlock] using hy
          exact ⟨HD'.out.fg q hqn' e, (HD'.out.g_mb hqn' e).1, (HD'.out.g_mb hqn' e).2.2.symm⟩
      have hm4 : IMap Tryz.prog 3 w4 L'.mb (mapOf L' S') := (HD'.out.map.upd ua (by simp)).upd hmine4.upd (fun e => (hT _ e).2.1 rfl)
      obtain ⟨w5, hst, hm5, u5, s5⟩ := hm4.store Tryz.underlying3 Tryz.underlying63 (N := 4096) (by decide) (fun z u hu => by
        obtain ⟨i, rfl, hi2, _⟩ := mapOf_some hu
        rw [HN'.out] at hi2
        omega) (x := (q : Int)) (WalkArith.wf_i64 (by omega)) (.slice (some ⟨g', 0, none⟩) (m + 1) cap')
      have hbx : ∀ y, w.heap.size ≤ y → y < w.heap.size + 3 → y ∉ v.ownBlock.toList := fun y h1 h2 hm => by
        rcases HF1.out y (hT y hm).1 with e | e | e
        · have := hF y e; omega
        · have := HG.out; omega
        · have := HS3.out; have := U2.out.size; omega
      have hsw : w.heap.size + 3 ≤ W.heap.size := by have := HR.out.bsz; have := HS3.out; have := U2.out.size; omega
      obtain ⟨cc, ll, hhd, _⟩ := HD'.out.hd
      have hcd := (dcell hhd).2.1
      have hdS : d < W.heap.size := lt_of_block hhd
      have hdw5 : d ≠ L'.mb := a2
      have hkeep : ∀ y, y < W.heap.size → y ∉ v.ownBlock.toList → y ≠ L'.mb → ∀ o, w4.cell? ⟨y, o, none⟩ = W.cell? ⟨y, o, none⟩ ∧ w5.cell? ⟨y, o, none⟩ = W.cell? ⟨y, o, none⟩ ∧ w4.frozen? ⟨y, o, none⟩ = W.frozen? ⟨y, o, none⟩ ∧ w5.frozen? ⟨y, o, none⟩ = W.frozen? ⟨y, o, none⟩ := fun y h1 h2 h3 o => by
        have e4 : w4.heap[y]? = W.heap[y]? := ((ua.mono (T := v.ownBlock.toList) (by simp)).trans hmine4.upd).block y h1 h2
        have e5 : w5.heap[y]? = W.heap[y]? := by rw [u5.block y (Nat.lt_of_lt_of_le h1 ((ua.mono (T := v.ownBlock.toList) (by simp)).trans hmine4.upd).size) (by simpa using h3), e4]
        exact ⟨World.cell?_of_block e4, World.cell?_of_block e5, by unfold World.frozen?; simp only [e4], by unfold World.frozen?; simp only [e5]⟩
      have hmb0 : L'.mb < w.heap.size := by rw [HL2.out]; exact hF _ HD.out.fmb
      obtain ⟨k1a, k1b, _, _⟩ := hkeep w.heap.size (by omega) (hbx _ (by omega) (by omega)) (by omega) 0
      obtain ⟨k2a, k2b, _, k2d⟩ := hkeep (w.heap.size + 1) (by omega) (hbx _ (by omega) (by omega)) (by omega) 0
      obtain ⟨k3a, k3b, _, _⟩ := hkeep d hdS (fun e => (hT _ e).2.2 rfl) a2 1
      rw [hc1] at k1a k1b
      rw [hc2] at k2a k2b
      rw [hz2] at k2d
      rw [hcd] at k3a k3b
      have HI := Lib.hid hi
      have hca1 := (ua.block w.heap.size (by omega) (by simp) : _)
      have hca2 := (ua.block (w.heap.size + 1) (by omega) (by simp) : _)
      have hca3 := (ua.block d hdS (by simp) : _)
      replace hca1 := (World.cell?_of_block (a := ⟨w.heap.size, 0, none⟩) hca1).trans hc1
      replace hca2 := (World.cell?_of_block (a := ⟨w.heap.size + 1, 0, none⟩) hca2).trans hc2
      replace hca3 := (World.cell?_of_block (a := ⟨d, 1, none⟩) hca3).trans hcd
      have HLK1 := Lib.hid hlk1
      have HLK2 := Lib.hid hlk2
      have HAP := Lib.hid hap
      have HST' := Lib.hid hst
      have HROW := Lib.hid hrow4
      have HMINE := Lib.hid hmine4
      have HM5 := Lib.hid hm5
      have U5 := Lib.hid u5
      have HV := Lib.hid hv
      have HM := Lib.hid hm
      have UA := Lib.hid ua
      have HS'' := Lib.hid hS'
      have hq5 : q ≤ 4096 := by omega
      clear hlk hlk1 hlk2 hap hst hrow hrow4 hmine4 hm4 hm5 u5 s5 hv hm ua hS' hkeep hT hbx hhd hi iz2
      gi_wp2
      refine wpIn_region_order (fun W' => W'.cell? ⟨w.heap.size, 0, none⟩ = some (.pointer (some ⟨d, 0, none⟩)) ∧ W'.cell? ⟨w.heap.size + 1, 0, none⟩ = some (.int .i64 (q : Nat)) ∧ W'.cell? ⟨d, 1, none⟩ = some (.map (some L'.mb))) [0, 1, 2, 3, 4, 5, 6, 7, 8, 9, 11] [[10, 12, 13, 14], [12, 10, 13, 14]] 4 rfl (by kernel_rfl) ⟨hc1, hc2, hcd⟩ ?_
      simp only [List.map_cons, List.map_nil, opAt]
      iterate 11
        apply reads_step rfl
        · intro wq hq
          obtain ⟨q1, q2, q3⟩ := hq
          go_simp
          all_goals with_reducible rfl
        simp only [Act.put, List.setIfInBounds_toArray, List.set_cons_zero, List.set_cons_succ]
      refine ⟨?_, ?_, trivial⟩
      · simp only [List.map_cons, List.map_nil, opAt]
        refine tail_val (w' := W.drew) v rfl (exec_lookup rfl (vm := .map (some L'.mb)) (vx := .int .i64 (q : Nat)) rfl rfl HLK1.out) ⟨hc1, hc2, hcd⟩ ?_
        simp only [Act.put, List.setIfInBounds_toArray, List.set_cons_zero, List.set_cons_succ]
        refine tail_val (w' := W.drew.alloc (.cells #[pieceV g c x] 62)) (.slice (some ⟨W.heap.size, 0, none⟩) 1 1) rfl (exec_build1 rfl Tryz.underlying70 HI.out iz0 iz1 rfl (v := pieceV g c x) rfl rfl) ⟨hca1, hca2, hca3⟩ ?_
        simp only [Act.put, List.setIfInBounds_toArray, List.set_cons_zero, List.set_cons_succ]
        refine tail_val (w' := w4) (.slice (some ⟨g', 0, none⟩) (m + 1) cap') rfl (exec_append rfl (vm := v) (vx := .slice (some ⟨W.heap.size, 0, none⟩) 1 1) rfl rfl HAP.out) ⟨k1a, k2a, k3a⟩ ?_
        simp only [Act.put, List.setIfInBounds_toArray, List.set_cons_zero, List.set_cons_succ]
        refine tail_skip (w' := w5) rfl (exec_mapUpdate rfl (vm := .map (some L'.mb)) (vx := .int .i64 (q : Nat)) (vy := .slice (some ⟨g', 0, none⟩) (m + 1) cap') rfl rfl rfl HST'.out) ⟨k1b, k2b, k3b⟩ ?_
        dsimp only [OnlyN, Exit.then, wpTail]
        gi_wp2
        have hS0 := HS''.out
        subst hS0
        have hq0 := HQ.out
        subst hq0
        have hfin := rnd_ver (B2 := w2.heap.size) (B3 := w2.heap.size + 1) (wa := W.drew.alloc (.cells #[pieceV g c x] 62)) (w1 := w4) (w2 := w5) x HR.out hF HD.out.fmb HD.out.fdb (by have := HG.out; omega) (by have := U2.out.size; have := HS3.out; omega) (by have := U2.out.size; have := HS3.out; omega) HC.out HBY.out.1 hc0 HPC.out hlt HL1.out HL2.out HD'.out HF1.out HF2.out
          UA.out HM.out HV.out HROW.out HMINE.out (by rw [← HL2.out]; exact HM5.out) (by rw [← HL2.out]; exact U5.out)
        exact ⟨hfin.2.1, hfin.2.2, hfin.1⟩
      · simp only [List.map_cons, List.map_nil, opAt]
        refine tail_val (w' := W.drew.alloc (.cells #[pieceV g c x] 62)) (.slice (some ⟨W.heap.size, 0, none⟩) 1 1) rfl (exec_build1 rfl Tryz.underlying70 HI.out iz0 iz1 rfl (v := pieceV g c x) rfl rfl) ⟨hca1, hca2, hca3⟩ ?_
        simp only [Act.put, List.setIfInBounds_toArray, List.set_cons_zero, List.set_cons_succ]
        refine tail_val (w' := W.drew.alloc (.cells #[pieceV g c x] 62)) v rfl (exec_lookup rfl (vm := .map (some L'.mb)) (vx := .int .i64 (q : Nat)) rfl rfl HLK2.out) ⟨hca1, hca2, hca3⟩ ?_
        simp only [Act.put, List.setIfInBounds_toArray, List.set_cons_zero, List.set_cons_succ]
        refine tail_val (w' := w4) (.slice (some ⟨g', 0, none⟩) (m + 1) cap') rfl (exec_append rfl (vm := v) (vx := .slice (some ⟨W.heap.size, 0, none⟩) 1 1) rfl rfl HAP.out) ⟨k1a, k2a, k3a⟩ ?_
        simp only [Act.put, List.setIfInBounds_toArray, List.set_cons_zero, List.set_cons_succ]
        refine tail_skip (w' := w5) rfl (exec_mapUpdate rfl (vm := .map (some L'.mb)) (vx := .int .i64 (q : Nat)) (vy := .slice (some ⟨g', 0, none⟩) (m + 1) cap') rfl rfl rfl HST'.out) ⟨k1b, k2b, k3b⟩ ?_
        dsimp only [OnlyN, Exit.then, wpTail]
        gi_wp2
        have hS0 := HS''.out
        subst hS0
        have hq0 := HQ.out
        subst hq0
        have hfin := rnd_ver (B2 := w2.heap.size) (B3 := w2.heap.size + 1) (wa := W.drew.alloc (.cells #[pieceV g c x] 62)) (w1 := w4) (w2 := w5) x HR.out hF HD.out.fmb HD.out.fdb (by have := HG.out; omega) (by have := U2.out.size; have := HS3.out; omega) (by have := U2.out.size; have := HS3.out; omega) HC.out HBY.out.1 hc0 HPC.out hlt HL1.out HL2.out HD'.out HF1.out HF2.out
          UA.out HM.out HV.out HROW.out HMINE.out (by rw [← HL2.out]; exact HM5.out) (by rw [← HL2.out]; exact U5.out)
        exact ⟨hfin.2.1, hfin.2.2, hfin.1⟩
    · have how := own_any HD'.out.hd (by rw [HN'.out]; exact n2) q (by rw [HN'.out]; exact hqn)
      have HOW := Lib.hid how
      clear how
      have hl := piece_ok HC.out HBY.out.1 (Nat.mod_lt x hc0)
      obtain ⟨csd, hdb, hds, hdp⟩ := HD'.out.dur
      obtain ⟨w4, hrun, hw4, u4, s4⟩ := run_copyb (w := W) (g := L'.db) (o := 256 * q) (dLen := 256) (dCap := 256 * (puts (S.tick 2) true p (pre.map fun x => piece data (x % (data.length / 256)))).n - 256 * q) (b := g) (q := 256 * (x % c)) (c := 256) (l := piece data (x % c)) (piece_bytes HR.out.clone (x % c)) hdb (by rw [hl.1]; omega) (by rw [hl.1]; rw [HN'.out] at hds; omega) 3
      rw [hl.1] at hrun
      have HL := Lib.hid hl
      have HDB := Lib.hid hdb
      have HW4 := Lib.hid hw4
      have U4 := Lib.hid u4
      obtain ⟨a1, a2, a3⟩ := HD'.out.apart3
      have hF : ∀ x, F x → x < w.heap.size := HD.out.old
      have hdb1 : L'.db < w.heap.size := by rw [HL1.out]; exact hF _ HD.out.fdb
      have hd0 := hF _ HD.out.fd
      have hmb0 : L'.mb < w.heap.size := by rw [HL2.out]; exact hF _ HD.out.fmb
      have hc1' : w4.cell? ⟨w.heap.size, 0, none⟩ = some (.pointer (some ⟨d, 0, none⟩)) := by rw [(cells_of (u4.get HR.out.dbox (by simp; omega))).1]; rfl
      have hab4 := u4.get HR.out.abox (by simp; omega)
      rw [HQ.out] at hab4
      have hc2' : w4.cell? ⟨w.heap.size + 1, 0, none⟩ = some (.int .i64 (q : Nat)) := by rw [(cells_of hab4).1]; rfl
      have HAB4 := Lib.hid hab4
      obtain ⟨cc, ll, hhd, _⟩ := HD'.out.hd
      have hd4 := u4.get hhd (by simpa using a1)
      have hcd : w4.cell? ⟨d, 1, none⟩ = some (.map (some L'.mb)) := (dcell hd4).2.1
      have HD4 := Lib.hid hd4
      have HM4 := Lib.hid ((HD'.out.map.upd u4 (by simpa using Ne.symm a3)).upd (Upd.drew (Upd.refl [] w4)) (by simp))
      obtain ⟨w5, hrun5, hm5, u5, s5⟩ := HM4.out.drop (t := 63) Tryz.underlying3 Tryz.underlying63 0 (x := (q : Int)) (WalkArith.wf_i64 (by omega))
      have HRUN5 := Lib.hid hrun5
      have HM5 := Lib.hid hm5
      have U5 := Lib.hid u5
      clear hl hdb hds hdp hw4 u4 s4 hab4 hhd hd4 hrun5 hm5 u5 s5
      unfold pieceV
      gi_wp2_with (refine ⟨trivial, ?_⟩; gi_at_call 29; (with_reducible refine (CallsIn.inRound l (callsIn_wide.2 HOW.out)).mono ?_); rintro e w' ⟨rfl, rfl⟩)
      apply wpIn_region_reads (fun W' => W'.cell? ⟨w.heap.size, 0, none⟩ = some (.pointer (some ⟨d, 0, none⟩)) ∧ W'.cell? ⟨w.heap.size + 1, 0, none⟩ = some (.int .i64 (q : Nat)) ∧ W'.cell? ⟨d, 1, none⟩ = some (.map (some L'.mb))) [0, 1, 2, 3, 4] [[5]] 1 _ rfl (by kernel_rfl)
      case hp =>
        iterate 5 (apply picks.cons rfl)
        exact picks.nil
      case hS => exact ⟨hc1', hc2', hcd⟩
      case h =>
        iterate 5
          apply reads_step rfl
          · intro wq hq
            obtain ⟨q1, q2, q3⟩ := hq
            go_simp
            all_goals with_reducible rfl
          simp only [Act.put, List.setIfInBounds_toArray, List.set_cons_zero, List.set_cons_succ]
        intro ts hts
        obtain rfl : ts = [5] := by simpa using hts
        refine ⟨_, picks.cons rfl picks.nil, rfl, ?_⟩
        refine wp_of_val _ (exec_delete rfl (vm := .map (some L'.mb)) (vx := .int .i64 (q : Nat)) rfl rfl HRUN5.out) ⟨⟨?_, ?_, ?_⟩, ?_⟩
        · rw [← hc1']; exact World.cell?_of_block (U5.out.block w.heap.size (by have := World.block_lt_of_cell? _ _ hc1'; exact this) (by simp; omega))
        · rw [← hc2']; exact World.cell?_of_block (U5.out.block (w.heap.size + 1) (by have := World.block_lt_of_cell? _ _ hc2'; exact this) (by simp; omega))
        · rw [← hcd]; exact World.cell?_of_block (U5.out.block d (by have := World.block_lt_of_cell? _ _ hcd; exact this) (by simpa using a2))
        have hab5 := U5.out.get (show w4.drew.heap[w.heap.size + 1]? = _ from HAB4.out) (by simp; omega)
        have hc5 : w5.cell? ⟨w.heap.size + 1, 0, none⟩ = some (.int .i64 (q : Nat)) := by rw [(cells_of hab5).1]; rfl
        have hz5 := (cells_of hab5).2 0
        have hq5 : q ≤ 4096 := by omega
        clear hab5
        dsimp only [OnlyN, Exit.then, wpTail]
        gi_wp2
        have hfin := rnd_fua (B2 := w2.heap.size) (B3 := w2.heap.size + 1) (w1 := w4.drew) (w2 := w5) (cur := csd) x HR.out hF HD.out.fmb HD.out.fdb (by have := HG.out; omega) (by have := U2.out.size; have := HS3.out; omega) (by have := U2.out.size; have := HS3.out; omega) HC.out HBY.out.1 hc0 HPC.out hlt HL1.out HL2.out HD'.out HF1.out (by rw [← HL1.out]; exact HDB.out)
          (by rw [← HL1.out, HQ.out]; exact HW4.out) (by rw [← HL1.out]; exact U4.out.drew) (by rw [← HL2.out, HQ.out]; exact HM5.out) (by rw [← HL2.out]; exact U5.out)
        rw [HQ.out] at hfin
        exact ⟨hfin.2.1, hfin.2.2, hfin.1⟩
  case done =>
    rintro D xs W hD rfl hR hK
    obtain ⟨L', F', l1, l2, hD', hF1, hF2⟩ := hR.disk
    have hc1 := (cells_of hR.dbox).1 0
    simp only [List.getElem?_toArray, List.getElem?_cons_zero] at hc1
    obtain ⟨cc, ll, hhd, hll, hle⟩ := hD'.hd
    have hc7 := (dcell hhd).2.2.2.2.2.2.2
    have hz7 := (cells_of hhd).2 7
    have HR := Lib.hid hR
    have HD' := Lib.hid hD'
    have HF1 := Lib.hid hF1
    have HF2 := Lib.hid hF2
    have HL1 := Lib.hid l1
    have HL2 := Lib.hid l2
    have HH := Lib.hid hhd
    have HLE := Lib.hid hle
    have HK := Lib.hid hK
    clear hR hD' hF1 hF2 l1 l2 hhd hle hK
    gi_wp2
    gi_region
    all_goals
      gi_wp2
    have hfin := write_end (F := F) (w := w) (L := L) HD'.out HH.out hll HLE.out (S := (S.write p data fua).2) (by rw [write_done HC.out hc0 HPC.out HHT.out HDN.out, pieces_all HC.out]) HR.out.upd HD.out.fd HL1.out HL2.out (fun x hx => by
      rcases HF1.out x hx with e | e | e
      · exact .inl e
      · exact .inr (by have := HG.out; omega)
      · exact .inr (by have := HS3.out; have := U2.out.size; omega)) HF2.out hD (by have := HS3.out; have := U2.out.size; omega) HK.out
    refine ⟨by simp, .inl ⟨_, _, rfl, run_takeDeferred hfin.1, ?_⟩⟩
    exact ⟨_, results_tmp rfl _ _ _, rfl, hfin.2.1, hfin.2.2⟩
theorem WroteDisk.of {w' : World} {d : Nat} {L : DLay} {F : Nat → Prop} {B : Nat} {S : Dk} (h : IsDisk w' d L F S) : WroteDisk w' d L F B S := ⟨L, F, rfl, rfl, h, fun _ hx => .inl hx⟩
/-- Write, of any bytes. -/
theorem write_any {w : World} {d : Nat} {L : DLay} {F : Nat → Prop} {S : Dk} (h : IsDisk w d L F S) (p : Int) {a : Option Addr} {data : List Nat} {cap : Nat} (fua : Bool) (hb : IsBytes w a data) (hbf : ∀ b o, a = some ⟨b, o, none⟩ → ¬ F b) (hlen : data.length ≤ 9223372036854775807) (hvl : ∀ i, i < S.n → (S.sec i).ver.length ≤ 2000000000000) :
    Calls Tryz.prog 20 #[.pointer (some ⟨d, 0, none⟩), .int .i64 p, .slice a data.length cap, .bool fua] w fun e w' => e = .returned (.int .i64 (S.write p data fua).1) ∧ WroteDisk w' d L F w.heap.size (S.write p data fua).2 ∧ UpdP F w w' := by
  by_cases hbad : data.length = 0 ∨ data.length % 256 ≠ 0
  · have e : S.write p data fua = (1, S) := by unfold Dk.write; rw [if_pos hbad]
    rw [e]
    exact (write_bad h p fua hlen hbad).mono fun e w' ⟨h1, h2, h3⟩ => ⟨h1, .of h2, h3.p (by simp)⟩
  · have h0 : data.length ≠ 0 := by omega
    have h1 : data.length % 256 = 0 := by omega
    have hno : ∀ (_ : S.there p ((data.length / 256 : Nat) : Int) = false ∨ (S.there p ((data.length / 256 : Nat) : Int) = true ∧ (S.hit 2 = true ∨ (S.hit 2 = false ∧ S.down = true)))), _ := fun hn => (write_no (cap := cap) (a := a) h p fua hlen h0 h1 hn).mono fun e w' ⟨h1, h2, h3⟩ => (⟨h1, .of h2, h3.p (by simpa using h.fd)⟩ : e = Ending.returned (.int .i64 (S.write p data fua).1) ∧ WroteDisk w' d L F w.heap.size (S.write p data fua).2 ∧ UpdP F w w')
    cases ht : S.there p ((data.length / 256 : Nat) : Int)
    · exact hno (.inl ht)
    · cases hh : S.hit 2
      · cases hd : S.down
        · obtain ⟨t1, t2, t3, t4⟩ := there_true ht
          obtain ⟨q, rfl⟩ := Int.eq_ofNat_of_zero_le t1
          have hc : data.length = 256 * (data.length / 256) := by omega
          have e1 : (S.write (q : Nat) data fua).1 = 0 := by rw [write_done hc (by omega) (by omega) hh hd]
          rw [e1]
          exact write_yes h q (data.length / 256) fua hb hbf hc (by omega) (by omega) hh hd hvl
        · exact hno (.inr ⟨ht, .inr ⟨hh, hd⟩⟩)
      · exact hno (.inr ⟨ht, .inl hh⟩)
end Go.Proofs.YtpnpjffhkaejgaaGreatDoor
