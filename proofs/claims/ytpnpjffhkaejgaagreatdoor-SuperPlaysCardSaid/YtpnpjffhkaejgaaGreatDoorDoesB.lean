/-
  PROVED HERE: the two disks side by side, as a law uses them. Conditions: those that each theorem names.
-/
import Derived.Test.YtpnpjffhkaejgaaGreatDoorDoesA
import Derived.Test.YtpnpjffhkaejgaaGreatDoorDiskR
namespace Go.Proofs.YtpnpjffhkaejgaaGreatDoor
open Go.RowKit

/-- A law under way with two disks: the program's at d and the document's at r, all new and apart; the blocks of K, which are none of theirs; what the call had at its beginning is as it was. -/
def Two (w wr : World) (d r : Nat) (K : List (Nat × Obj)) (S T : Dk) : Prop := ∃ F G, DiskX wr d F S ∧ RefX wr r G T ∧ (∀ x, F x → ¬ G x) ∧ (∀ y, F y → w.heap.size ≤ y) ∧ (∀ y, G y → w.heap.size ≤ y) ∧ (∀ p ∈ K, ¬ F p.1 ∧ ¬ G p.1 ∧ wr.heap[p.1]? = some p.2) ∧ Upd [] w wr
theorem RefX.old {w : World} {d : Nat} {F : Nat → Prop} {S : Dk} (h : RefX w d F S) : ∀ x, F x → x < w.heap.size := by
  obtain ⟨L, h⟩ := h
  exact h.old
theorem RefX.fr {w : World} {d : Nat} {F : Nat → Prop} {S : Dk} (h : RefX w d F S) : F d := by
  obtain ⟨L, h⟩ := h
  exact h.fr
theorem Two.ok {w wr : World} {d r : Nat} {K : List (Nat × Obj)} {S T : Dk} (h : Two w wr d r K S T) : S.Ok := by
  obtain ⟨F, G, h1, _⟩ := h
  exact h1.ok
theorem Two.size {w wr : World} {d r : Nat} {K : List (Nat × Obj)} {S T : Dk} (h : Two w wr d r K S T) : Upd [] w wr := by
  obtain ⟨F, G, _, _, _, _, _, _, h⟩ := h
  exact h
theorem Two.up {w wr w' : World} {d r : Nat} {K : List (Nat × Obj)} {S T : Dk} (h : Two w wr d r K S T) (u : Upd [] wr w') : Two w w' d r K S T := by
  obtain ⟨F, G, h1, h2, h3, h4, h5, h6, h7⟩ := h
  exact ⟨F, G, h1.up u (by simp), h2.up u (by simp), h3, h4, h5, fun p hp => ⟨(h6 p hp).1, (h6 p hp).2.1, u.get (h6 p hp).2.2 (by simp)⟩, h7.trans u⟩
theorem Two.get {w wr : World} {d r : Nat} {K : List (Nat × Obj)} {S T : Dk} (h : Two w wr d r K S T) {g : Nat} {o : Obj} (hm : (g, o) ∈ K) : wr.heap[g]? = some o := by
  obtain ⟨F, G, h1, h2, h3, h4, h5, h6, h7⟩ := h
  exact (h6 _ hm).2.2
/-- A new block is none of the disks'. -/
theorem Two.keep {w w0 wr : World} {d r : Nat} {K : List (Nat × Obj)} {S T : Dk} (h : Two w w0 d r K S T) (u : Upd [] w0 wr) {g : Nat} {o : Obj} (hg : w0.heap.size ≤ g) (ho : wr.heap[g]? = some o) : Two w wr d r ((g, o) :: K) S T := by
  obtain ⟨F, G, h1, h2, h3, h4, h5, h6, h7⟩ := h.up u
  obtain ⟨F, G, h1, h2, h3, h4, h5, h6, h7⟩ := h
  refine ⟨F, G, h1.up u (by simp), h2.up u (by simp), h3, h4, h5, fun p hp => ?_, h7.trans u⟩
  rcases List.mem_cons.1 hp with rfl | hp
  · exact ⟨fun e => by have := h1.old _ e; omega, fun e => by have := h2.old _ e; omega, ho⟩
  · exact ⟨(h6 p hp).1, (h6 p hp).2.1, u.get (h6 p hp).2.2 (by simp)⟩
/-- A block of before the law is none of the disks'. -/
theorem Two.keep0 {w wr : World} {d r : Nat} {K : List (Nat × Obj)} {S T : Dk} (h : Two w wr d r K S T) {g : Nat} {o : Obj} (hg : g < w.heap.size) (ho : wr.heap[g]? = some o) : Two w wr d r ((g, o) :: K) S T := by
  obtain ⟨F, G, h1, h2, h3, h4, h5, h6, h7⟩ := h
  refine ⟨F, G, h1, h2, h3, h4, h5, fun p hp => ?_, h7⟩
  rcases List.mem_cons.1 hp with rfl | hp
  · exact ⟨fun e => by have := h4 _ e; omega, fun e => by have := h5 _ e; omega, ho⟩
  · exact h6 p hp
theorem Two.drop {w wr : World} {d r : Nat} {K K' : List (Nat × Obj)} {S T : Dk} (h : Two w wr d r K S T) (hk : ∀ p ∈ K', p ∈ K) : Two w wr d r K' S T := by
  obtain ⟨F, G, h1, h2, h3, h4, h5, h6, h7⟩ := h
  exact ⟨F, G, h1, h2, h3, h4, h5, fun p hp => h6 p (hk p hp), h7⟩
/-- A store into a kept block that is new. -/
theorem Two.put {w wr w' : World} {d r g : Nat} {o o' : Obj} {K : List (Nat × Obj)} {S T : Dk} (h : Two w wr d r ((g, o) :: K) S T) (hg : w.heap.size ≤ g) (hK : ∀ p ∈ K, p.1 ≠ g) (u : Upd [g] wr w') (ho : w'.heap[g]? = some o') : Two w w' d r ((g, o') :: K) S T := by
  obtain ⟨F, G, h1, h2, h3, h4, h5, h6, h7⟩ := h
  have h0 := h6 _ (List.mem_cons_self ..)
  refine ⟨F, G, h1.up u (by simpa using h0.1), h2.up u (by simpa using h0.2.1), h3, h4, h5, fun p hp => ?_, h7.step u fun x hx => .inr (by rw [List.mem_singleton.1 hx]; exact hg)⟩
  rcases List.mem_cons.1 hp with rfl | hp
  · exact ⟨h0.1, h0.2.1, ho⟩
  · exact ⟨(h6 p (List.mem_cons_of_mem _ hp)).1, (h6 p (List.mem_cons_of_mem _ hp)).2.1, u.get (h6 p (List.mem_cons_of_mem _ hp)).2.2 (by simpa using hK p hp)⟩
theorem td_of {w wr : World} {d r : Nat} {K : List (Nat × Obj)} {S T S' : Dk} (h : Two w wr d r K S T) {f : Nat} {args : Array Value} {O : Ending → World → Prop}
    (hc : ∀ F, DiskX wr d F S → (∀ x, F x → w.heap.size ≤ x ∧ ∀ c, (x, c) ∉ K) → Calls Tryz.prog f args wr fun e w' => O e w' ∧ ∃ F', DiskX w' d F' S' ∧ (∀ x, F' x → F x ∨ wr.heap.size ≤ x) ∧ UpdP F wr w') :
    Calls Tryz.prog f args wr fun e w' => O e w' ∧ Two w w' d r K S' T := by
  obtain ⟨F, G, h1, h2, h3, h4, h5, h6, h7⟩ := h
  refine (hc F h1 fun x hx => ⟨h4 x hx, fun c hp => (h6 _ hp).1 hx⟩).mono fun e w' ⟨k1, k2⟩ => ⟨k1, ?_⟩
  obtain ⟨F', k1, k2, u⟩ := k2
  have hG : ∀ x, G x → ¬ F x := fun x hg hf => h3 x hf hg
  refine ⟨F', G, k1, h2.upd u hG, fun x hx hg => ?_, fun y hy => ?_, h5, fun p hp => ⟨fun e => ?_, (h6 p hp).2.1, u.get (h6 p hp).2.2 (h6 p hp).1⟩, ((h7.p (F := fun _ => False) (by simp)).step u fun x hx => .inr (h4 x hx)).upd0⟩
  · rcases k2 x hx with e | e
    · exact h3 x e hg
    · have := h2.old x hg; omega
  · rcases k2 y hy with e | e
    · exact h4 y e
    · have := h7.size; omega
  · rcases k2 _ e with e | e
    · exact (h6 p hp).1 e
    · have := lt_of_block (h6 p hp).2.2; omega
theorem tr_of {w wr : World} {d r : Nat} {K : List (Nat × Obj)} {S T T' : Dk} (h : Two w wr d r K S T) {f : Nat} {args : Array Value} {O : Ending → World → Prop}
    (hc : ∀ F, RefX wr r F T → (∀ x, F x → w.heap.size ≤ x ∧ ∀ c, (x, c) ∉ K) → Calls Tryz.prog f args wr fun e w' => O e w' ∧ ∃ F', RefX w' r F' T' ∧ (∀ x, F' x → F x ∨ wr.heap.size ≤ x) ∧ UpdP F wr w') :
    Calls Tryz.prog f args wr fun e w' => O e w' ∧ Two w w' d r K S T' := by
  obtain ⟨F, G, h1, h2, h3, h4, h5, h6, h7⟩ := h
  refine (hc G h2 fun x hx => ⟨h5 x hx, fun c hp => (h6 _ hp).2.1 hx⟩).mono fun e w' ⟨k1, k2⟩ => ⟨k1, ?_⟩
  obtain ⟨G', k1, k2, u⟩ := k2
  refine ⟨F, G', h1.upd u h3, k1, fun x hx hg => ?_, h4, fun y hy => ?_, fun p hp => ⟨(h6 p hp).1, fun e => ?_, u.get (h6 p hp).2.2 (h6 p hp).2.1⟩, ((h7.p (F := fun _ => False) (by simp)).step u fun x hx => .inr (h5 x hx)).upd0⟩
  · rcases k2 x hg with e | e
    · exact h3 x hx e
    · have := h1.old x hx; omega
  · rcases k2 y hy with e | e
    · exact h5 y e
    · have := h7.size; omega
  · rcases k2 _ e with e | e
    · exact (h6 p hp).2.1 e
    · have := lt_of_block (h6 p hp).2.2; omega
section
variable {w wr : World} {d r : Nat} {K : List (Nat × Obj)} {S T : Dk}
theorem td_read (h : Two w wr d r K S T) (p c : Int) : Calls Tryz.prog 24 #[.pointer (some ⟨d, 0, none⟩), .int .i64 p, .int .i64 c] wr fun e w' => ReadOut wr.heap.size (S.read p c).1 e w' ∧ Two w w' d r K (S.read p c).2 T :=
  td_of h fun F h1 _ => (x_read h1 p c).mono fun _ _ ⟨k1, k2, k3⟩ => ⟨k1, F, k2, fun _ hx => .inl hx, k3.p (F := F) (by simpa using h1.fd)⟩
theorem tr_read (h : Two w wr d r K S T) (p c : Int) : Calls Tryz.prog 26 #[.pointer (some ⟨r, 0, none⟩), .int .i64 p, .int .i64 c] wr fun e w' => ReadOut wr.heap.size (T.read p c).1 e w' ∧ Two w w' d r K S (T.read p c).2 :=
  tr_of h fun F ⟨L, h1⟩ _ => (rread_any h1 p c).mono fun _ _ ⟨k1, k2, k3⟩ => ⟨k1, F, ⟨L, k2⟩, fun _ hx => .inl hx, k3.p (F := F) (by simpa using h1.fr)⟩
theorem td_fail (h : Two w wr d r K S T) (k n : Int) : Calls Tryz.prog 13 #[.pointer (some ⟨d, 0, none⟩), .int .i64 k, .int .i64 n] wr fun e w' => e = .returned (.int .i64 (S.fail k n).1) ∧ Two w w' d r K (S.fail k n).2 T :=
  td_of h fun F h1 _ => (x_fail h1 k n).mono fun _ _ ⟨k1, k2, k3⟩ => ⟨k1, F, k2, fun _ hx => .inl hx, k3.p (F := F) (by simpa using h1.fd)⟩
theorem tr_fail (h : Two w wr d r K S T) (k n : Int) : Calls Tryz.prog 14 #[.pointer (some ⟨r, 0, none⟩), .int .i64 k, .int .i64 n] wr fun e w' => e = .returned (.int .i64 (T.fail k n).1) ∧ Two w w' d r K S (T.fail k n).2 :=
  tr_of h fun F ⟨L, h1⟩ _ => (rfail_any h1 k n).mono fun _ _ ⟨k1, k2, k3⟩ => ⟨k1, F, ⟨L, k2⟩, fun _ hx => .inl hx, k3.p (F := F) (by simpa using h1.fr)⟩
theorem td_dirty (h : Two w wr d r K S T) : Calls Tryz.prog 28 #[.pointer (some ⟨d, 0, none⟩)] wr fun e w' => DirtyOut wr.heap.size S.dirty e w' ∧ Two w w' d r K S T :=
  td_of h fun F h1 _ => (x_dirty h1).mono fun _ _ ⟨k1, k2⟩ => ⟨k1, F, h1.up k2 (by simp), fun _ hx => .inl hx, k2.p (by simp)⟩
theorem tr_dirty (h : Two w wr d r K S T) : Calls Tryz.prog 30 #[.pointer (some ⟨r, 0, none⟩)] wr fun e w' => DirtyOut wr.heap.size T.dirty e w' ∧ Two w w' d r K S T :=
  tr_of h fun F ⟨L, h1⟩ _ => (rdirty_any h1).mono fun _ _ ⟨k1, k2⟩ => ⟨k1, F, ⟨L, h1.up k2 (by simp)⟩, fun _ hx => .inl hx, k2.p (by simp)⟩
/-- A slice lies where neither disk does. -/
def Safe (w : World) (K : List (Nat × Obj)) (a : Option Addr) : Prop := ∀ b o, a = some ⟨b, o, none⟩ → b < w.heap.size ∨ ∃ c, (b, c) ∈ K
theorem Safe.not {a : Option Addr} (h : Safe w K a) {F : Nat → Prop} (hk : ∀ x, F x → w.heap.size ≤ x ∧ ∀ c, (x, c) ∉ K) : ∀ b o, a = some ⟨b, o, none⟩ → ¬ F b := fun b o e hf => by
  obtain ⟨k1, k2⟩ := hk b hf
  rcases h b o e with q | ⟨c, q⟩
  · omega
  · exact k2 c q
theorem td_crash (h : Two w wr d r K S T) {a : Option Addr} {picks : List Int} {pc n : Nat} (hp : IsIntsAt wr a picks) (hpf : 0 < n → Safe w K a) (hn : picks.length = n) (hpl : n ≤ 9223372036854775807) (hB : ∀ i, i < S.n → (S.sec i).ver.length ≤ 2000000000000) :
    Calls Tryz.prog 15 #[.pointer (some ⟨d, 0, none⟩), .slice a n pc] wr fun e w' => e = .returned (.tuple #[]) ∧ Two w w' d r K (S.crash picks) T :=
  td_of h fun F h1 hk => (x_crash (pc := pc) h1 hp (fun b o e h0 => (hpf (by omega)).not hk b o e) (by omega) hB hn.symm).mono fun _ _ ⟨k1, k2, k3⟩ => ⟨k1, F, k2, fun _ hx => .inl hx, k3⟩
theorem tr_crash (h : Two w wr d r K S T) {a : Option Addr} {picks : List Int} {pc n : Nat} (hp : IsIntsAt wr a picks) (hpf : 0 < n → Safe w K a) (hn : picks.length = n) (hpl : n ≤ 9223372036854775807) (hB : ∀ i, i < T.n → (T.sec i).ver.length ≤ 2000000000000) :
    Calls Tryz.prog 16 #[.pointer (some ⟨r, 0, none⟩), .slice a n pc] wr fun e w' => e = .returned (.tuple #[]) ∧ Two w w' d r K S (T.crash picks) :=
  tr_of h fun F h1 hk => (rcrash_any (pc := pc) h1 hp (fun b o e h0 => (hpf (by omega)).not hk b o e) (by omega) hB hn.symm).mono fun _ _ ⟨k1, k2, k3⟩ => ⟨k1, F, k2, fun _ hx => .inl hx, k3⟩
theorem td_write (h : Two w wr d r K S T) (p : Int) {a : Option Addr} {data : List Nat} {cap n : Nat} (fua : Bool) (hb : IsBytes wr a data) (hbf : Safe w K a) (hn : data.length = n) (hcap : n ≤ cap) (hc : cap ≤ 9223372036854775807) (hvl : ∀ i, i < S.n → (S.sec i).ver.length ≤ 2000000000000) :
    Calls Tryz.prog 20 #[.pointer (some ⟨d, 0, none⟩), .int .i64 p, .slice a n cap, .bool fua] wr fun e w' => e = .returned (.int .i64 (S.write p data fua).1) ∧ Two w w' d r K (S.write p data fua).2 T :=
  td_of h fun F h1 hk => (x_write (cap := cap) h1 p fua hb (hbf.not hk) (by omega) hvl hn.symm).mono fun _ _ ⟨k1, ⟨F', k2, k3⟩, k4⟩ => ⟨k1, F', k2, k3, k4⟩
theorem tr_write (h : Two w wr d r K S T) (p : Int) {a : Option Addr} {data : List Nat} {cap n : Nat} (fua : Bool) (hb : IsBytes wr a data) (hbf : Safe w K a) (hn : data.length = n) (hcap : n ≤ cap) (hc : cap ≤ 9223372036854775807) (hvl : ∀ i, i < T.n → (T.sec i).ver.length ≤ 2000000000000) :
    Calls Tryz.prog 23 #[.pointer (some ⟨r, 0, none⟩), .int .i64 p, .slice a n cap, .bool fua] wr fun e w' => e = .returned (.int .i64 (T.write p data fua).1) ∧ Two w w' d r K S (T.write p data fua).2 :=
  tr_of h fun F h1 hk => (rwrite_any (cap := cap) h1 p fua hb (hbf.not hk) (by omega) hc hvl hn.symm).mono fun _ _ ⟨k1, ⟨F', k2, k3⟩, k4⟩ => ⟨k1, F', k2, k3, k4⟩
end
/-- A step of a script, on the plain disk. -/
def Dk.step (S : Dk) (k a c b f : Int) (u : Bool) (picks : List Int) : Dk :=
  if k = 0 then (S.read a c).2 else if k = 1 then (S.write a (opData c b f) u).2 else if k = 2 then S.flush.2 else if k = 3 then (S.fail a c).2 else if k = 4 then (S.cut c).2 else if k = 5 then S.crash picks else S
theorem puts_ver {fua : Bool} {ls : List (List Nat)} : ∀ {S : Dk} {p : Nat} (i : Nat), ((puts S fua p ls).sec i).ver.length ≤ (S.sec i).ver.length + 1 := by
  induction ls with
  | nil => intro S p i; exact Nat.le_succ _
  | cons l r ih =>
    intro S p i
    rw [puts_cons]
    by_cases e : i = p
    · subst e
      have hx : ∀ (ls : List (List Nat)) (S : Dk) (q : Nat), i < q → (puts S fua q ls).sec i = S.sec i := by
        intro ls
        induction ls with
        | nil => intro S q _; rfl
        | cons l r ih => intro S q hq; rw [puts_cons, ih _ _ (by omega), putV_sec (by omega)]
      rw [hx _ _ _ (Nat.lt_succ_self _)]
      cases fua
      · rw [putV_false]; simp
      · rw [putV_true]; simp
    · have := ih (S := putV S fua p l) (p := p + 1) i
      rw [putV_sec e] at this
      exact this
theorem step_ver (S : Dk) (k a c b f : Int) (u : Bool) (picks : List Int) (i : Nat) : ((S.step k a c b f u picks).sec i).ver.length ≤ (S.sec i).ver.length + 1 := by
  unfold Dk.step
  split
  · unfold Dk.read; split <;> (try split) <;> simp [Dk.tick]
  split
  · unfold Dk.write
    split
    · simp
    split
    · split
      · simp [Dk.tick]
      · exact puts_ver (S := S.tick 2) i
    · simp
  split
  · unfold Dk.flush
    split
    · simp [Dk.tick]
    · exact Nat.zero_le _
  split
  · unfold Dk.fail; split <;> simp
  split
  · unfold Dk.cut; split <;> simp
  split
  · exact Nat.zero_le _
  · omega
theorem step_n (S : Dk) (k a c b f : Int) (u : Bool) (picks : List Int) : (S.step k a c b f u picks).n = S.n := by
  unfold Dk.step
  split
  · unfold Dk.read; split <;> (try split) <;> rfl
  split
  · unfold Dk.write
    split
    · rfl
    split
    · split
      · rfl
      · exact (puts_n (S.tick 2) u a.toNat (pieces (opData c b f))).1
    · rfl
  split
  · unfold Dk.flush
    split <;> rfl
  split
  · unfold Dk.fail; split <;> rfl
  split
  · unfold Dk.cut; split <;> rfl
  split <;> rfl
end Go.Proofs.YtpnpjffhkaejgaaGreatDoor
