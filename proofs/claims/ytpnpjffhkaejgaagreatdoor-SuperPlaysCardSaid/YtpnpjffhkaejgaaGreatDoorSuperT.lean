/-
  PROVED HERE: two disks and a table side by side; Save and Load on both; a byte of a sector is spoilt on both. Conditions: those that each theorem names.
-/
import Derived.Test.YtpnpjffhkaejgaaGreatDoorSuperS
import Derived.Test.YtpnpjffhkaejgaaGreatDoorDoesB
import Derived.Deep.RegionHeld3
namespace Go.Proofs.YtpnpjffhkaejgaaGreatDoor
open Go.RowKit

theorem RefX.same {w w' : World} {r : Nat} {F : Nat → Prop} {S : Dk} (h : RefX w r F S) (hb : ∀ x, F x → w'.heap[x]? = w.heap[x]?) : RefX w' r F S := by
  obtain ⟨L, h⟩ := h
  have g : ∀ {x : Nat} {o : Obj}, F x → w.heap[x]? = some o → w'.heap[x]? = some o := fun hx ho => (hb _ hx).trans ho
  have bl : ∀ {g0 c : Nat} {f : Nat → List Nat}, BlkF w g0 c f → F g0 → BlkF w' g0 c f := fun ⟨cs, h1, h2⟩ hx => ⟨cs, g hx h1, h2⟩
  refine ⟨L, ⟨h.ok, g h.fr h.hd, ?_, fun i hi => ⟨bl (h.dur i hi).1 (h.fdb i hi), (h.dur i hi).2⟩, fun i hi => ?_, fun i hi j hj => ⟨bl (h.vby i hi j hj).1 (h.fhb i hi j hj), (h.vby i hi j hj).2⟩, h.apart, h.fr, h.fgl, h.fdb, h.fvv, h.fhb, fun x hx => ?_⟩⟩
  · obtain ⟨cs, h1, h2⟩ := h.lst
    exact ⟨cs, g h.fgl h1, h2⟩
  · have ho := h.fvv i hi
    obtain ⟨hl, h1⟩ := h.ver i hi
    refine ⟨hl, ?_⟩
    rcases h1 with h1 | ⟨g0, cap, cur, hv, hg, h2, r⟩
    · exact .inl h1
    · exact .inr ⟨g0, cap, cur, hv, hg, g (ho g0 (by rw [hv]; simp [Value.ownBlock])) h2, r⟩
  · have := h.old x hx
    exact lt_of_block (g hx (Array.getElem?_eq_getElem this))
theorem set_ok {l : List Nat} (hl : BytesOk l) (k x : Nat) (hx : x < 256) : BytesOk (l.set k x) := fun y hy => by
  rcases List.mem_or_eq_of_mem_set hy with h | h
  · exact hl y h
  · rw [h]; exact hx
theorem bytes_set {w : World} {g k x : Nat} {cur : Array Value} {l : List Nat} (hb : w.heap[g]? = some (.cells cur 5 (0, 0))) (h : IsBytes w (some ⟨g, 0, none⟩) l) (hx : x < 256) : IsBytes (w.setCell ⟨g, k, none⟩ (.int .u8 (x : Nat))) (some ⟨g, 0, none⟩) (l.set k x) := by
  refine ⟨set_ok h.1 k x hx, fun i hi => ⟨g, 0, rfl, ?_⟩⟩
  have hi' : i < l.length := by simpa using hi
  have h1 := h.at i hi'
  rw [Nat.zero_add] at h1 ⊢
  rw [(cells_of hb).1] at h1
  rw [(cells_of (heap_setCell_same w g k _ _ (.int .u8 (x : Nat)) hb)).1, Array.getElem?_setIfInBounds]
  have hc : i < cur.size := by
    by_cases q : i < cur.size
    · exact q
    · rw [Array.getElem?_eq_none (by omega)] at h1; cases h1
  by_cases e : k = i
  · subst e
    rw [if_pos rfl, if_pos hc, List.getElem_set_self]
  · rw [if_neg e, h1, List.getElem_set_ne e, List.getD_eq_getElem?_getD, List.getElem?_eq_getElem hi']
    rfl
/-- Nothing is left to be flushed. -/
def NoVer (S : Dk) : Prop := ∀ i, (S.sec i).ver = []
theorem noVer_new (n : Nat) : NoVer (Dk.new n) := fun _ => rfl
theorem NoVer.tick {S : Dk} (h : NoVer S) (k : Nat) : NoVer (S.tick k) := h
theorem puts_tr {ls : List (List Nat)} : ∀ {S : Dk} {p : Nat}, NoVer S → NoVer (puts S true p ls) := by
  induction ls with
  | nil => intro S p h i; exact h i
  | cons l r ih =>
    intro S p h
    rw [puts_cons]
    refine ih fun j => ?_
    by_cases e : j = p
    · subst e; rw [putV_true]
    · rw [putV_sec e]; exact h j
theorem NoVer.write {S : Dk} (h : NoVer S) (p : Int) (data : List Nat) : NoVer (S.write p data true).2 := by
  unfold Dk.write
  split
  · exact h
  split
  · split
    · exact h
    · exact fun i => puts_tr (h.tick 2) i
  · exact h
theorem NoVer.read {S : Dk} (h : NoVer S) (p c : Int) : NoVer (S.read p c).2 := by
  unfold Dk.read
  split
  · split <;> exact h
  · exact h
theorem NoVer.save {S : Dk} (h : NoVer S) (x0 x1 x2 x3 x4 x5 x6 : Int) : NoVer (S.save x0 x1 x2 x3 x4 x5 x6).2 := by
  unfold Dk.save
  split
  · exact h.write _ _
  · exact h
theorem NoVer.load {S : Dk} (h : NoVer S) : NoVer S.load.2 := by
  unfold Dk.load
  split
  · exact h
  split
  · exact (h.read 0 1).read 1 1
  · exact (h.read 0 1).read 1 1
theorem NoVer.fail {S : Dk} (h : NoVer S) (k n : Int) : NoVer (S.fail k n).2 := by
  unfold Dk.fail
  split
  · exact h
  · exact h
theorem NoVer.crash (S : Dk) (picks : List Int) : NoVer (S.crash picks) := fun _ => rfl
theorem NoVer.low {S : Dk} (h : NoVer S) : ∀ i, i < S.n → (S.sec i).ver.length ≤ 2000000000000 := fun i _ => by rw [h i]; decide
/-- Two disks and a table. -/
def TwoT (w wr : World) (d r t : Nat) (K : List (Nat × Obj)) (S T : Dk) : Prop := ∃ o, Two w wr d r ((t, o) :: K) S T ∧ TabOk wr t ∧ w.heap.size ≤ t ∧ ∀ p ∈ K, p.1 ≠ t
section
variable {w wr w' : World} {d r t : Nat} {K : List (Nat × Obj)} {S T S' T' : Dk}
theorem TwoT.up (h : TwoT w wr d r t K S T) (u : Upd [] wr w') : TwoT w w' d r t K S T := by
  obtain ⟨o, h1, h2, h3, h4⟩ := h
  exact ⟨o, h1.up u, h2.upd u (by simp), h3, h4⟩
theorem TwoT.all (h : TwoT w wr d r t K S T) : Upd [] w wr := by
  obtain ⟨o, h1, _⟩ := h
  exact h1.size
theorem TwoT.ok (h : TwoT w wr d r t K S T) : S.Ok := by
  obtain ⟨o, h1, _⟩ := h
  exact h1.ok
theorem TwoT.get (h : TwoT w wr d r t K S T) {g : Nat} {o : Obj} (hm : (g, o) ∈ K) : wr.heap[g]? = some o := by
  obtain ⟨_, h1, _⟩ := h
  exact h1.get (List.mem_cons_of_mem _ hm)
theorem TwoT.drop {K' : List (Nat × Obj)} (h : TwoT w wr d r t K S T) (hk : ∀ p ∈ K', p ∈ K) : TwoT w wr d r t K' S T := by
  obtain ⟨o, h1, h2, h3, h4⟩ := h
  exact ⟨o, h1.drop (fun p hp => by rcases List.mem_cons.1 hp with e | e; exact e ▸ List.mem_cons_self ..; exact List.mem_cons_of_mem _ (hk p e)), h2, h3, fun p hp => h4 p (hk p hp)⟩
theorem TwoT.keep {w0 : World} (h : TwoT w w0 d r t K S T) (u : Upd [] w0 wr) {g : Nat} {o : Obj} (hg : w0.heap.size ≤ g) (ho : wr.heap[g]? = some o) : TwoT w wr d r t ((g, o) :: K) S T := by
  obtain ⟨o', h1, h2, h3, h4⟩ := h
  refine ⟨o', (h1.keep u hg ho).drop (fun p hp => by simp only [List.mem_cons] at hp ⊢; rcases hp with h | h | h <;> simp [h]), h2.upd u (by simp), h3, fun p hp => ?_⟩
  rcases List.mem_cons.1 hp with rfl | hp
  · have := h2.lt; dsimp only; omega
  · exact h4 p hp
/-- What is done to one disk, or to the other, and not to the table. -/
theorem TwoT.of {f : Nat} {args : Array Value} {O : Ending → World → Prop} (h : TwoT w wr d r t K S T) (hc : ∀ o, Two w wr d r ((t, o) :: K) S T → Calls Tryz.prog f args wr fun e w' => O e w' ∧ Two w w' d r ((t, o) :: K) S' T') :
    Calls Tryz.prog f args wr fun e w' => O e w' ∧ TwoT w w' d r t K S' T' := by
  obtain ⟨o, h1, h2, h3, h4⟩ := h
  exact (hc o h1).mono fun e w' ⟨q1, q2⟩ => ⟨q1, o, q2, h2.same (by rw [q2.get (List.mem_cons_self ..), h1.get (List.mem_cons_self ..)]), h3, h4⟩
open Classical in
/-- All that is neither the disk's nor the table. -/
noncomputable def others (wr : World) (F : Nat → Prop) (t : Nat) : List (Nat × Obj) := (List.range wr.heap.size).filterMap fun x => if F x ∨ x = t then none else (wr.heap[x]?).map fun o => (x, o)
theorem mem_others {F : Nat → Prop} {p : Nat × Obj} : p ∈ others wr F t ↔ ¬ F p.1 ∧ p.1 ≠ t ∧ wr.heap[p.1]? = some p.2 := by
  unfold others
  rw [List.mem_filterMap]
  constructor
  · rintro ⟨x, _, hx⟩
    split at hx
    · cases hx
    · rename_i hn
      obtain ⟨o, ho, rfl⟩ := Option.map_eq_some_iff.1 hx
      exact ⟨fun e => hn (.inl e), fun e => hn (.inr e), ho⟩
  · rintro ⟨h1, h2, h3⟩
    exact ⟨p.1, List.mem_range.2 (lt_of_block h3), by rw [if_neg (by simp [h1, h2]), h3]; rfl⟩
/-- What is done to the program's disk with the table. -/
theorem TwoT.with {f : Nat} {args : Array Value} {O : Ending → Prop} (h : TwoT w wr d r t K S T) (hc : ∀ F L, LawT w wr d t F L S → Calls Tryz.prog f args wr fun e w' => O e ∧ LSaved w d t L S' w') :
    Calls Tryz.prog f args wr fun e w' => O e ∧ TwoT w w' d r t K S' T := by
  obtain ⟨o, ⟨F, G, h1, h2, h3, h4, h5, h6, h7⟩, ht, hwt, hK⟩ := h
  have ht0 := h6 _ (List.mem_cons_self ..)
  have hL : LawT w wr d t F (others wr F t) S := ⟨o, ⟨h1, h4, fun p hp => by
    rcases List.mem_cons.1 hp with rfl | hp
    · exact ⟨ht0.1, ht0.2.2⟩
    · exact ⟨(mem_others.1 hp).1, (mem_others.1 hp).2.2⟩, h7⟩, ht, hwt, fun p hp => (mem_others.1 hp).2.1⟩
  refine (hc F _ hL).mono fun e w' ⟨q1, F', o', ⟨k1, k2, k3, k4⟩, k5, k6, k7⟩ => ⟨q1, o', ?_, k5, hwt, hK⟩
  have hb : ∀ x, ¬ F x → x ≠ t → x < wr.heap.size → ¬ F' x ∧ w'.heap[x]? = wr.heap[x]? := fun x hx hxt hlt => by
    have := k3 (x, wr.heap[x]) (List.mem_cons_of_mem _ (mem_others.2 ⟨hx, hxt, Array.getElem?_eq_getElem hlt⟩))
    exact ⟨this.1, this.2.trans (Array.getElem?_eq_getElem hlt).symm⟩
  have htF := (k3 _ (List.mem_cons_self ..)).1
  have hGo := h2.old
  have hlt : ∀ {x : Nat} {o : Obj}, wr.heap[x]? = some o → x < wr.heap.size := fun h => lt_of_block h
  refine ⟨F', G, k1, h2.same fun x hx => (hb x (fun e => h3 x e hx) (fun e => ht0.2.1 (e ▸ hx)) (hGo x hx)).2, fun x hx hg => (hb x (fun e => h3 x e hg) (fun e => ht0.2.1 (e ▸ hg)) (hGo x hg)).1 hx, k2, h5, fun p hp => ?_, k4⟩
  rcases List.mem_cons.1 hp with rfl | hp
  · exact ⟨htF, ht0.2.1, (k3 _ (List.mem_cons_self ..)).2⟩
  · have h8 := h6 p (List.mem_cons_of_mem _ hp)
    have h9 := hb p.1 h8.1 (hK p hp) (hlt h8.2.2)
    exact ⟨h9.1, h8.2.1, h9.2.trans h8.2.2⟩
/-- Save, on the program's side and on the document's. -/
theorem tt_save (h : TwoT w wr d r t K S T) (hv : NoVer S) (x0 x1 x2 x3 x4 x5 x6 : Int) :
    Calls Tryz.prog 8 #[.pointer (some ⟨d, 0, none⟩), pt t, .agg #[.int .i64 x0, .int .i64 x1, .int .i64 x2, .int .i64 x3, .int .i64 x4, .int .i64 x5, .int .i64 x6]] wr fun e w' => e = .returned (.int .i64 (S.save x0 x1 x2 x3 x4 x5 x6).1) ∧ TwoT w w' d r t K (S.save x0 x1 x2 x3 x4 x5 x6).2 T :=
  h.with (O := fun e => e = .returned (.int .i64 (S.save x0 x1 x2 x3 x4 x5 x6).1)) fun _ _ hL => save_any hL x0 x1 x2 x3 x4 x5 x6 hv.low
theorem tr_save (h : TwoT w wr d r t K S T) (hv : NoVer T) (x0 x1 x2 x3 x4 x5 x6 : Int) :
    Calls Tryz.prog 9 #[.pointer (some ⟨r, 0, none⟩), .agg #[.int .i64 x0, .int .i64 x1, .int .i64 x2, .int .i64 x3, .int .i64 x4, .int .i64 x5, .int .i64 x6]] wr fun e w' => e = .returned (.int .i64 (T.save x0 x1 x2 x3 x4 x5 x6).1) ∧ TwoT w w' d r t K S (T.save x0 x1 x2 x3 x4 x5 x6).2 :=
  h.of (O := fun e _ => e = .returned (.int .i64 (T.save x0 x1 x2 x3 x4 x5 x6).1)) fun _ h2 => tr_of h2 fun F h1 _ => (rsave_any h1 x0 x1 x2 x3 x4 x5 x6 hv.low).mono fun _ _ ⟨k1, ⟨F', k2, k3⟩, k4⟩ => ⟨k1, F', k2, k3, k4⟩
theorem tt_load (h : TwoT w wr d r t K S T) :
    Calls Tryz.prog 10 #[.pointer (some ⟨d, 0, none⟩), pt t] wr fun e w' => e = .returned (.tuple #[superV S.load.1.1, .int .i64 S.load.1.2]) ∧ TwoT w w' d r t K S.load.2 T :=
  h.with (O := fun e => e = .returned (.tuple #[superV S.load.1.1, .int .i64 S.load.1.2])) fun F _ hL => (load_any hL).mono fun _ _ ⟨k1, k2⟩ => ⟨k1, F, k2⟩
theorem RefX.ok {w : World} {r : Nat} {F : Nat → Prop} {S : Dk} (h : RefX w r F S) : S.Ok := by
  obtain ⟨L, h⟩ := h
  exact h.ok
theorem tr_load (h : TwoT w wr d r t K S T) :
    Calls Tryz.prog 11 #[.pointer (some ⟨r, 0, none⟩)] wr fun e w' => e = .returned (.tuple #[superV T.load.1.1, .int .i64 T.load.1.2]) ∧ TwoT w w' d r t K S T.load.2 :=
  h.of (O := fun e _ => e = .returned (.tuple #[superV T.load.1.1, .int .i64 T.load.1.2])) fun _ h2 => tr_of h2 fun F h1 _ => by
    by_cases hn : T.n < 2
    · exact (rload_small h1 hn).mono fun _ _ ⟨k1, k2, k3⟩ => ⟨k1, F, k2, fun _ hx => .inl hx, k3⟩
    · exact (rload_loop h1 h1.ok hn).mono fun _ _ ⟨k1, k2, k3⟩ => ⟨k1, F, k2, fun _ hx => .inl hx, k3⟩
/-- One sector was read, into a block of its own; or none. -/
def ReadK (w w' : World) (d r : Nat) (K : List (Nat × Obj)) (S T : Dk) (o : List Nat × Int) (e : Ending) : Prop :=
  (o.1 = [] ∧ ∃ a cap, e = .returned (.tuple #[.slice a 0 cap, .int .i64 o.2]) ∧ Two w w' d r K S T) ∨
  (o.1.length = 256 ∧ ∃ g cap cs, e = .returned (.tuple #[.slice (some ⟨g, 0, none⟩) 256 cap, .int .i64 o.2]) ∧ Two w w' d r ((g, .cells cs 5 (0, 0)) :: K) S T ∧ IsBytes w' (some ⟨g, 0, none⟩) o.1 ∧ 256 ≤ cap ∧ cap ≤ 9223372036854775807 ∧ w.heap.size ≤ g ∧ ∀ p ∈ K, p.1 ≠ g)
theorem readK_of {o : List Nat × Int} {e : Ending} (h : Two w wr d r K S T) (ho : o.1 = [] ∨ o.1.length = 256) (hr : ReadOut wr.heap.size o e w') (h2 : ∀ K', (∀ p ∈ K', p ∈ K ∨ (wr.heap.size ≤ p.1 ∧ w'.heap[p.1]? = some p.2)) → Two w w' d r K' S' T') : ReadK w w' d r K S' T' o e := by
  obtain ⟨v, rfl, hrow⟩ := hr
  rcases ho with ho | ho
  · obtain ⟨a, cap, rfl, _⟩ := hrow.slice
    rw [ho]
    exact .inl ⟨ho, a, cap, by simp, h2 K fun p hp => .inl hp⟩
  · obtain ⟨g, cap, rfl, hg, hlt, hc, hm, hb⟩ := row_some hrow ho (by decide)
    obtain ⟨⟨_, ⟨e, _⟩ | ⟨g2, cap2, cs, e, _, hgb, _⟩⟩, _⟩ := hrow
    · cases e
    · simp only [Value.slice.injEq, Option.some.injEq, Addr.mk.injEq, and_true] at e
      obtain ⟨rfl, _⟩ := e
      refine .inr ⟨ho, g, cap, cs, rfl, h2 _ fun p hp => ?_, hb, hc, hm, Nat.le_trans h.size.size hg, fun p hp e => ?_⟩
      · rcases List.mem_cons.1 hp with rfl | hp
        · exact .inr ⟨hg, hgb⟩
        · exact .inl hp
      · have := lt_of_block (h.get (g := p.1) (o := p.2) hp)
        omega
theorem read_len {S : Dk} (h : S.Ok) (p : Nat) : (S.read (p : Int) 1).1.1 = [] ∨ (S.read (p : Int) 1).1.1.length = 256 := by
  by_cases hp : p < S.n
  · rcases (read_facts h hp).2 with ⟨_, h⟩ | ⟨_, h⟩
    · exact .inr h
    · exact .inl h
  · refine .inl ?_
    unfold Dk.read
    rw [if_neg]
    unfold Dk.there
    simp
    omega
theorem td_readK (h : Two w wr d r K S T) (p : Nat) : Calls Tryz.prog 24 #[.pointer (some ⟨d, 0, none⟩), .int .i64 (p : Int), .int .i64 1] wr fun e w' => ReadK w w' d r K (S.read p 1).2 T (S.read p 1).1 e := by
  have hok := h.ok
  obtain ⟨F, G, h1, h2, h3, h4, h5, h6, h7⟩ := id h
  refine (x_read h1 (p : Int) 1).mono fun e w' ⟨k1, k2, k3⟩ => readK_of h (read_len hok p) k1 fun K' hK' => ?_
  have k4 : UpdP F wr w' := k3.p (F := F) (by simpa using h1.fd)
  refine ⟨F, G, k2, h2.upd k4 (fun x hg hf => h3 x hf hg), h3, h4, h5, fun p hp => ?_, ((h7.p (F := fun _ => False) (by simp)).step k4 fun x hx => .inr (h4 x hx)).upd0⟩
  rcases hK' p hp with hq | ⟨hq, hq2⟩
  · have := h6 p hq
    exact ⟨this.1, this.2.1, k4.get this.2.2 this.1⟩
  · exact ⟨fun e => by have := h1.old _ e; omega, fun e => by have := h2.old _ e; omega, hq2⟩
theorem tr_readK (h : Two w wr d r K S T) (hok : T.Ok) (p : Nat) : Calls Tryz.prog 26 #[.pointer (some ⟨r, 0, none⟩), .int .i64 (p : Int), .int .i64 1] wr fun e w' => ReadK w w' d r K S (T.read p 1).2 (T.read p 1).1 e := by
  obtain ⟨F, G, h1, h2, h3, h4, h5, h6, h7⟩ := id h
  refine (rx_read h2 (p : Int) 1).mono fun e w' ⟨k1, k2, k3⟩ => readK_of h (read_len hok p) k1 fun K' hK' => ?_
  have k4 : UpdP G wr w' := k3.p (F := G) (by simpa using h2.fr)
  refine ⟨F, G, h1.upd k4 h3, k2, h3, h4, h5, fun p hp => ?_, ((h7.p (F := fun _ => False) (by simp)).step k4 fun x hx => .inr (h5 x hx)).upd0⟩
  rcases hK' p hp with hq | ⟨hq, hq2⟩
  · have := h6 p hq
    exact ⟨this.1, this.2.1, k4.get this.2.2 this.2.1⟩
  · exact ⟨fun e => by have := h1.old _ e; omega, fun e => by have := h2.old _ e; omega, hq2⟩
end
end Go.Proofs.YtpnpjffhkaejgaaGreatDoor
