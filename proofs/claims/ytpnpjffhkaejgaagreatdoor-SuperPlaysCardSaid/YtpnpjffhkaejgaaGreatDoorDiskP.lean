/-
  PROVED HERE: the disk's methods, as a law uses them: where the disk lies is left open but for its blocks; a law under way. Conditions: those that each theorem names.
-/
import Derived.Test.YtpnpjffhkaejgaaGreatDoorDiskO
namespace Go.Proofs.YtpnpjffhkaejgaaGreatDoor
open Go.RowKit

/-- There is a disk at d whose blocks are those of F. -/
def DiskX (w : World) (d : Nat) (F : Nat → Prop) (S : Dk) : Prop := ∃ L, IsDisk w d L F S
theorem DiskX.upd {w w' : World} {d : Nat} {F G : Nat → Prop} {S : Dk} (h : DiskX w d F S) (u : UpdP G w w') (hs : ∀ x, F x → ¬ G x) : DiskX w' d F S := by
  obtain ⟨L, h⟩ := h
  exact ⟨L, h.upd u hs⟩
theorem DiskX.up {w w' : World} {d : Nat} {F : Nat → Prop} {S : Dk} {T : List Nat} (h : DiskX w d F S) (u : Upd T w w') (hs : ∀ x ∈ T, ¬ F x) : DiskX w' d F S := by
  obtain ⟨L, h⟩ := h
  exact ⟨L, h.up u hs⟩
theorem DiskX.old {w : World} {d : Nat} {F : Nat → Prop} {S : Dk} (h : DiskX w d F S) : ∀ x, F x → x < w.heap.size := by
  obtain ⟨L, h⟩ := h
  exact h.old
theorem DiskX.fd {w : World} {d : Nat} {F : Nat → Prop} {S : Dk} (h : DiskX w d F S) : F d := by
  obtain ⟨L, h⟩ := h
  exact h.fd
theorem DiskX.ok {w : World} {d : Nat} {F : Nat → Prop} {S : Dk} (h : DiskX w d F S) : S.Ok := by
  obtain ⟨L, h⟩ := h
  exact h.ok
def NewX (B n : Nat) (e : Ending) (w' : World) : Prop := ∃ d F, e = .returned (.tuple #[.pointer (some ⟨d, 0, none⟩), .int .i64 0]) ∧ DiskX w' d F (Dk.new n) ∧ ∀ x, F x → B ≤ x
theorem x_new {w : World} (n : Nat) (h1 : 1 ≤ n) (h2 : n ≤ 4096) : Calls Tryz.prog 5 #[.int .i64 (n : Nat)] w fun e w' => NewX w.heap.size n e w' ∧ Upd [] w w' :=
  (new_yes n h1 h2).mono fun e w' ⟨⟨d, L, F, h1, h2, h3⟩, h4⟩ => ⟨⟨d, F, h1, ⟨L, h2⟩, h3⟩, h4⟩
theorem x_read {w : World} {d : Nat} {F : Nat → Prop} {S : Dk} (h : DiskX w d F S) (p c : Int) :
    Calls Tryz.prog 24 #[.pointer (some ⟨d, 0, none⟩), .int .i64 p, .int .i64 c] w fun e w' => ReadOut w.heap.size (S.read p c).1 e w' ∧ DiskX w' d F (S.read p c).2 ∧ Upd [d] w w' := by
  obtain ⟨L, h⟩ := h
  exact (read_any h p c).mono fun e w' ⟨h1, h2, h3⟩ => ⟨h1, ⟨L, h2⟩, h3⟩
theorem x_fail {w : World} {d : Nat} {F : Nat → Prop} {S : Dk} (h : DiskX w d F S) (k n : Int) :
    Calls Tryz.prog 13 #[.pointer (some ⟨d, 0, none⟩), .int .i64 k, .int .i64 n] w fun e w' => e = .returned (.int .i64 (S.fail k n).1) ∧ DiskX w' d F (S.fail k n).2 ∧ Upd [d] w w' := by
  obtain ⟨L, h⟩ := h
  exact (fail_any h k n).mono fun e w' ⟨h1, h2, h3⟩ => ⟨h1, ⟨L, h2⟩, h3⟩
theorem x_size {w : World} {d : Nat} {F : Nat → Prop} {S : Dk} (h : DiskX w d F S) :
    Calls Tryz.prog 18 #[.pointer (some ⟨d, 0, none⟩)] w fun e w' => e = .returned (.int .i64 (S.n : Nat)) ∧ w = w' := by
  obtain ⟨L, h⟩ := h
  exact size_any h.hd h.ok.n2
theorem x_dirty {w : World} {d : Nat} {F : Nat → Prop} {S : Dk} (h : DiskX w d F S) :
    Calls Tryz.prog 28 #[.pointer (some ⟨d, 0, none⟩)] w fun e w' => DirtyOut w.heap.size S.dirty e w' ∧ Upd [] w w' := by
  obtain ⟨L, h⟩ := h
  exact dirty_any h
theorem x_crash {w : World} {d : Nat} {F : Nat → Prop} {S : Dk} (h : DiskX w d F S) {a : Option Addr} {picks : List Int} {pc : Nat} (hp : IsIntsAt w a picks) (hpf : ∀ b o, a = some ⟨b, o, none⟩ → 0 < picks.length → ¬ F b) (hpl : picks.length ≤ 9223372036854775807)
    (hB : ∀ i, i < S.n → (S.sec i).ver.length ≤ 2000000000000) {n : Nat} (hn : n = picks.length) :
    Calls Tryz.prog 15 #[.pointer (some ⟨d, 0, none⟩), .slice a n pc] w fun e w' => e = .returned (.tuple #[]) ∧ DiskX w' d F (S.crash picks) ∧ UpdP F w w' := by
  obtain ⟨L, h⟩ := h
  subst hn
  exact (crash_any h hp hpf hpl hB).mono fun e w' ⟨h1, h2, h3⟩ => ⟨h1, ⟨L, h2⟩, h3.p (by simp [h.fd, h.fdb, h.fmb])⟩
/-- A disk behind a write: it may have taken new blocks. -/
def WroteX (w' : World) (d : Nat) (F : Nat → Prop) (B : Nat) (S : Dk) : Prop := ∃ F', DiskX w' d F' S ∧ ∀ x, F' x → F x ∨ B ≤ x
theorem x_write {w : World} {d : Nat} {F : Nat → Prop} {S : Dk} (h : DiskX w d F S) (p : Int) {a : Option Addr} {data : List Nat} {cap n : Nat} (fua : Bool) (hb : IsBytes w a data) (hbf : ∀ b o, a = some ⟨b, o, none⟩ → ¬ F b) (hlen : data.length ≤ 9223372036854775807) (hvl : ∀ i, i < S.n → (S.sec i).ver.length ≤ 2000000000000) (hn : n = data.length) :
    Calls Tryz.prog 20 #[.pointer (some ⟨d, 0, none⟩), .int .i64 p, .slice a n cap, .bool fua] w fun e w' => e = .returned (.int .i64 (S.write p data fua).1) ∧ WroteX w' d F w.heap.size (S.write p data fua).2 ∧ UpdP F w w' := by
  obtain ⟨L, h⟩ := h
  subst hn
  exact (write_any h p fua hb hbf hlen hvl).mono fun e w' ⟨h1, ⟨L', F', _, _, h2, h3⟩, h4⟩ => ⟨h1, ⟨F', ⟨L', h2⟩, h3⟩, h4⟩
theorem crash_nil (S : Dk) (i : Nat) : ((S.crash []).sec i) = ⟨(S.sec i).dur, []⟩ := by
  show (⟨S.durs [] (min S.dirty.length 0) i, []⟩ : Sec) = _
  rw [Nat.min_zero]; rfl
theorem crash_n (S : Dk) (picks : List Int) : (S.crash picks).n = S.n := rfl
theorem tick_n (S : Dk) (k : Nat) : (S.tick k).n = S.n := rfl
theorem tick_sec (S : Dk) (k : Nat) : (S.tick k).sec = S.sec := rfl
/-- A row of so many bytes, of which there are some. -/
theorem row_some {w : World} {B n : Nat} {v : Value} {l : List Nat} (h : IsRow w B v l) (hn : l.length = n) (h0 : 0 < n) : ∃ g cap, v = .slice (some ⟨g, 0, none⟩) n cap ∧ B ≤ g ∧ g < w.heap.size ∧ n ≤ cap ∧ cap ≤ 9223372036854775807 ∧ IsBytes w (some ⟨g, 0, none⟩) l := by
  obtain ⟨g, cap, rfl, hg, hm, hc⟩ := h.some (by omega)
  obtain ⟨a, cap', e, hb, hl, _⟩ := h.slice
  cases e
  exact ⟨g, cap, by rw [hn], hg, (hl g 0 rfl).2, by omega, by unfold maxLen at hm; exact hm, hb⟩
theorem IsBytes.upd2 {w w' : World} {g o : Nat} {l : List Nat} {F : Nat → Prop} (h : IsBytes w (some ⟨g, o, none⟩) l) (u : UpdP F w w') (hs : ¬ F g) : IsBytes w' (some ⟨g, o, none⟩) l :=
  ⟨h.1, fun i hi => by
    obtain ⟨b, o', ha, hc⟩ := h.2 i hi
    cases ha
    exact ⟨g, o, rfl, by rw [← hc]; exact World.cell?_of_block (u.block g (World.block_lt_of_cell? _ _ hc) hs)⟩⟩
theorem UpdP.upd0 {w w' : World} (h : UpdP (fun _ => False) w w') : Upd [] w w' := ⟨h.os, h.tape, h.output, h.size, fun k hk _ => h.block k hk fun e => e⟩
/-- A law under way: its disk, which is all new; the blocks of T, which are none of the disk's; what the call had at its beginning is as it was. -/
def LawD (w wr : World) (d : Nat) (F : Nat → Prop) (T : List (Nat × Obj)) (S : Dk) : Prop := DiskX wr d F S ∧ (∀ y, F y → w.heap.size ≤ y) ∧ (∀ p ∈ T, ¬ F p.1 ∧ wr.heap[p.1]? = some p.2) ∧ Upd [] w wr
theorem LawD.next {w wr w' : World} {d : Nat} {F F' G : Nat → Prop} {T : List (Nat × Obj)} {S S' : Dk} (h : LawD w wr d F T S) (hd : DiskX w' d F' S') (hF : ∀ x, F' x → F x ∨ wr.heap.size ≤ x) (u : UpdP G wr w') (hG : ∀ x, G x → F x) : LawD w w' d F' T S' := by
  obtain ⟨h1, h2, h3, h4⟩ := h
  refine ⟨hd, fun y hy => ?_, fun p hp => ?_, ?_⟩
  · rcases hF y hy with e | e
    · exact h2 y e
    · have := h4.size; omega
  · obtain ⟨k1, k2⟩ := h3 p hp
    refine ⟨fun e => ?_, u.get k2 fun e => k1 (hG _ e)⟩
    rcases hF _ e with e | e
    · exact k1 e
    · have := lt_of_block k2; omega
  · exact ((h4.p (F := fun _ => False) (by simp)).step u fun x hx => .inr (h2 x (hG x hx))).upd0
theorem LawD.up {w wr w' : World} {d : Nat} {F : Nat → Prop} {T : List (Nat × Obj)} {S : Dk} (h : LawD w wr d F T S) (u : Upd [] wr w') : LawD w w' d F T S :=
  ⟨h.1.up u (by simp), h.2.1, fun p hp => ⟨(h.2.2.1 p hp).1, u.get (h.2.2.1 p hp).2 (by simp)⟩, h.2.2.2.trans u⟩
theorem LawD.drew {w wr : World} {d : Nat} {F : Nat → Prop} {T : List (Nat × Obj)} {S : Dk} (h : LawD w wr d F T S) : LawD w wr.drew d F T S := h.up (Upd.drew (Upd.refl _ _))
theorem LawD.alloc {w wr : World} {d : Nat} {F : Nat → Prop} {T : List (Nat × Obj)} {S : Dk} (h : LawD w wr d F T S) (cs : Array Value) (t : TypeId) : LawD w (wr.alloc (.cells cs t)) d F ((wr.heap.size, .cells cs t (0, 0)) :: T) S := by
  have u := (Upd.refl [] wr).alloc (.cells cs t)
  refine ⟨h.1.up u (by simp), h.2.1, fun p hp => ?_, h.2.2.2.trans u⟩
  rcases List.mem_cons.1 hp with rfl | hp
  · exact ⟨fun e => Nat.lt_irrefl _ (h.1.old _ e), heap_alloc_new wr _⟩
  · exact ⟨(h.2.2.1 p hp).1, u.get (h.2.2.1 p hp).2 (by simp)⟩
theorem LawD.keep {w wr : World} {d : Nat} {F : Nat → Prop} {T : List (Nat × Obj)} {S : Dk} (h : LawD w wr d F T S) {g : Nat} {o : Obj} (hg : ¬ F g) (ho : wr.heap[g]? = some o) : LawD w wr d F ((g, o) :: T) S :=
  ⟨h.1, h.2.1, fun p hp => by
    rcases List.mem_cons.1 hp with rfl | hp
    · exact ⟨hg, ho⟩
    · exact h.2.2.1 p hp, h.2.2.2⟩
theorem LawD.get {w wr : World} {d : Nat} {F : Nat → Prop} {T : List (Nat × Obj)} {S : Dk} (h : LawD w wr d F T S) {g : Nat} {o : Obj} (hm : (g, o) ∈ T) : wr.heap[g]? = some o := (h.2.2.1 _ hm).2
def LWrote (w : World) (d : Nat) (T : List (Nat × Obj)) (S : Dk) (w' : World) : Prop := ∃ F', LawD w w' d F' T S
theorem ld_write {w wr : World} {d : Nat} {F : Nat → Prop} {T : List (Nat × Obj)} {S : Dk} (h : LawD w wr d F T S) (p : Int) {g : Nat} {data : List Nat} {cap n : Nat} (fua : Bool) (hb : IsBytes wr (some ⟨g, 0, none⟩) data) (hbf : ¬ F g) (hlen : data.length = n) (hn : n ≤ 9223372036854775807) (hvl : ∀ i, i < S.n → (S.sec i).ver.length ≤ 2000000000000) {e0 : Int} {S' : Dk} (he : S.write p data fua = (e0, S')) :
    Calls Tryz.prog 20 #[.pointer (some ⟨d, 0, none⟩), .int .i64 p, .slice (some ⟨g, 0, none⟩) n cap, .bool fua] wr fun e w' => e = .returned (.int .i64 e0) ∧ LWrote w d T S' w' :=
  (x_write (cap := cap) h.1 p fua hb (fun b o e => by cases e; exact hbf) (by omega) hvl hlen.symm).mono fun e w' ⟨h1, ⟨F', h2, h3⟩, h4⟩ => by
    rw [he] at h1 h2
    exact ⟨h1, F', h.next h2 h3 h4 fun _ hx => hx⟩
theorem ld_read {w wr : World} {d : Nat} {F : Nat → Prop} {T : List (Nat × Obj)} {S : Dk} (h : LawD w wr d F T S) (p c : Int) {l : List Nat} {e0 : Int} {S' : Dk} (he : S.read p c = ((l, e0), S')) :
    Calls Tryz.prog 24 #[.pointer (some ⟨d, 0, none⟩), .int .i64 p, .int .i64 c] wr fun e w' => ReadOut wr.heap.size (l, e0) e w' ∧ LawD w w' d F T S' :=
  (x_read h.1 p c).mono fun e w' ⟨h1, h2, h3⟩ => by
    rw [he] at h1 h2
    exact ⟨h1, h.next h2 (fun _ hx => .inl hx) (h3.p (F := (· = d)) (by simp)) fun x hx => by rw [hx]; exact h.1.fd⟩
theorem ld_fail {w wr : World} {d : Nat} {F : Nat → Prop} {T : List (Nat × Obj)} {S : Dk} (h : LawD w wr d F T S) (k n : Int) {e0 : Int} {S' : Dk} (he : S.fail k n = (e0, S')) :
    Calls Tryz.prog 13 #[.pointer (some ⟨d, 0, none⟩), .int .i64 k, .int .i64 n] wr fun e w' => e = .returned (.int .i64 e0) ∧ LawD w w' d F T S' :=
  (x_fail h.1 k n).mono fun e w' ⟨h1, h2, h3⟩ => by
    rw [he] at h1 h2
    exact ⟨h1, h.next h2 (fun _ hx => .inl hx) (h3.p (F := (· = d)) (by simp)) fun x hx => by rw [hx]; exact h.1.fd⟩
theorem ld_crash {w wr : World} {d : Nat} {F : Nat → Prop} {T : List (Nat × Obj)} {S : Dk} (h : LawD w wr d F T S) {a : Option Addr} {picks : List Int} {pc : Nat} (hp : IsIntsAt wr a picks) (hpf : ∀ b o, a = some ⟨b, o, none⟩ → 0 < picks.length → ¬ F b) (hpl : picks.length ≤ 9223372036854775807)
    (hB : ∀ i, i < S.n → (S.sec i).ver.length ≤ 2000000000000) {n : Nat} (hn : n = picks.length) :
    Calls Tryz.prog 15 #[.pointer (some ⟨d, 0, none⟩), .slice a n pc] wr fun e w' => e = .returned (.tuple #[]) ∧ LawD w w' d F T (S.crash picks) :=
  (x_crash (pc := pc) h.1 hp hpf hpl hB hn).mono fun e w' ⟨h1, h2, h3⟩ => ⟨h1, h.next h2 (fun _ hx => .inl hx) h3 fun x hx => hx⟩
theorem ld_crash_nil {w wr : World} {d : Nat} {F : Nat → Prop} {T : List (Nat × Obj)} {S : Dk} (h : LawD w wr d F T S) (hB : ∀ i, i < S.n → (S.sec i).ver.length ≤ 2000000000000) :
    Calls Tryz.prog 15 #[.pointer (some ⟨d, 0, none⟩), .slice none 0 0] wr fun e w' => e = .returned (.tuple #[]) ∧ LawD w w' d F T (S.crash []) :=
  ld_crash (picks := []) h (fun i hi => absurd hi (Nat.not_lt_zero i)) (by simp) (by decide) hB rfl
def LNew (w : World) (n : Nat) (e : Ending) (w' : World) : Prop := ∃ d F, e = .returned (.tuple #[.pointer (some ⟨d, 0, none⟩), .int .i64 0]) ∧ LawD w w' d F [] (Dk.new n)
theorem ld_new {w : World} (n : Nat) (h1 : 1 ≤ n) (h2 : n ≤ 4096) : Calls Tryz.prog 5 #[.int .i64 (n : Nat)] w (LNew w n) :=
  (x_new n h1 h2).mono fun e w' ⟨⟨d, F, h1, h2, h3⟩, h4⟩ => ⟨d, F, h1, h2, h3, by simp, h4⟩
theorem ld_new4 {w : World} : Calls Tryz.prog 5 #[.int .i64 4] w (LNew w 4) := ld_new 4 (by decide) (by decide)
theorem ld_new8 {w : World} : Calls Tryz.prog 5 #[.int .i64 8] w (LNew w 8) := ld_new 8 (by decide) (by decide)
theorem LawD.store {w wr : World} {d : Nat} {F : Nat → Prop} {T : List (Nat × Obj)} {S : Dk} {b i : Nat} {cs : Array Value} {t : TypeId} (h : LawD w wr d F ((b, .cells cs t (0, 0)) :: T) S) (hb : w.heap.size ≤ b) (hT : ∀ p ∈ T, p.1 ≠ b) (v : Value) :
    LawD w (wr.setCell ⟨b, i, none⟩ v) d F ((b, .cells (cs.setIfInBounds i v) t (0, 0)) :: T) S := by
  have hbb := h.2.2.1 _ (List.mem_cons_self ..)
  have u : Upd [b] wr (wr.setCell ⟨b, i, none⟩ v) := (Upd.refl [b] wr).setCell (.inl (by simp)) _
  refine ⟨h.1.up u (by simpa using hbb.1), h.2.1, fun p hp => ?_, ((h.2.2.2.p (F := fun _ => False) (by simp)).step (u.p (F := (· = b)) (by simp)) fun x hx => .inr (by omega)).upd0⟩
  rcases List.mem_cons.1 hp with rfl | hp
  · exact ⟨hbb.1, heap_setCell_same wr b i _ _ _ hbb.2⟩
  · have := h.2.2.1 p (List.mem_cons_of_mem _ hp)
    exact ⟨this.1, u.get this.2 (by simpa using hT p hp)⟩
theorem LawD.sub {w wr : World} {d : Nat} {F : Nat → Prop} {T T' : List (Nat × Obj)} {S : Dk} (h : LawD w wr d F T S) (hs : ∀ p ∈ T', p ∈ T) : LawD w wr d F T' S := ⟨h.1, h.2.1, fun p hp => h.2.2.1 p (hs p hp), h.2.2.2⟩
/-- A row that was read is kept, if there is one. -/
theorem LawD.row {w wr : World} {d B n : Nat} {F : Nat → Prop} {T : List (Nat × Obj)} {S : Dk} {e0 : Int} {v : Value} {l : List Nat} (h : LawD w wr d F T S) (hr : IsRow wr B v l) (hB : ∀ y, F y → y < B) (hl : e0 = 0 → l.length = n) (h0 : 0 < n) :
    ∃ T', LawD w wr d F (T ++ T') S ∧ (e0 = 0 → ∃ g cap o, v = .slice (some ⟨g, 0, none⟩) n cap ∧ (g, o) ∈ T' ∧ n ≤ cap ∧ cap ≤ 9223372036854775807 ∧ ∀ W : World, W.heap[g]? = some o → IsBytes W (some ⟨g, 0, none⟩) l) := by
  by_cases he : e0 = 0
  · obtain ⟨g, cap, rfl, hg, hgl, hc1, hc2, hb⟩ := row_some hr (hl he) h0
    have ho : wr.heap[g]? = some wr.heap[g] := Array.getElem?_eq_getElem hgl
    refine ⟨[(g, wr.heap[g])], (h.keep (g := g) (fun hf => by have := hB g hf; omega) ho).sub (fun p hp => by simpa [or_comm] using hp), fun _ => ⟨g, cap, wr.heap[g], rfl, by simp, hc1, hc2, fun W hW => hb.same (by rw [hW, ho])⟩⟩
  · exact ⟨[], by simpa using h, fun e => absurd e he⟩
end Go.Proofs.YtpnpjffhkaejgaaGreatDoor
