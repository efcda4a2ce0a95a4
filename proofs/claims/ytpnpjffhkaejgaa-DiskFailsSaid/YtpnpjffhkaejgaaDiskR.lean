/-
  PROVED HERE: the disk's methods in a law: what else the law holds stays. Conditions: those that each theorem names.
-/
import Derived.Test.YtpnpjffhkaejgaaDiskQ
namespace Go.Proofs.Ytpnpjffhkaejgaa
open Go.RowKit

/-- A law under way: its disk, which is all new; the blocks of T, which are none of the disk's; what the call had at its beginning is as it was. -/
def LawD (w wr : World) (d : Nat) (F : Nat → Prop) (T : List (Nat × Obj)) (S : Dk) : Prop := DiskX wr d F S ∧ (∀ y, F y → w.heap.size ≤ y) ∧ (∀ p ∈ T, ¬ F p.1 ∧ wr.heap[p.1]? = some p.2) ∧ Upd [] w wr
theorem LawD.next {w wr w' : World} {d : Nat} {F F' G : Nat → Prop} {T : List (Nat × Obj)} {S S' : Dk} (h : LawD w wr d F T S) (hd : DiskX w' d F' S') (hF : ∀ x, F' x → F x ∨ wr.heap.size ≤ x) (u : UpdP G wr w') (hG : ∀ x, G x → F x) : LawD w w' d F' T S' := by
  obtain ⟨h1, h2, h3, h4⟩ := h
  refine ⟨hd, fun y hy => ?_, fun p hp => ?_, ?_⟩
  · rcases hF y hy with e | e
    · exact h2 y e
    · have := h4.size; omega
  · obtain ⟨k1, k2⟩ := h3 p hp
    refine ⟨fun e => ?_, u.get k2 fun e => k1 (hG _ e)⟩
    rcases hF _ e with e | e
    · exact k1 e
    · have := lt_of_block k2; omega
  · exact ((h4.p (F := fun _ => False) (by simp)).step u fun x hx => .inr (h2 x (hG x hx))).upd0
theorem LawD.up {w wr w' : World} {d : Nat} {F : Nat → Prop} {T : List (Nat × Obj)} {S : Dk} (h : LawD w wr d F T S) (u : Upd [] wr w') : LawD w w' d F T S :=
  ⟨h.1.up u (by simp), h.2.1, fun p hp => ⟨(h.2.2.1 p hp).1, u.get (h.2.2.1 p hp).2 (by simp)⟩, h.2.2.2.trans u⟩
theorem LawD.drew {w wr : World} {d : Nat} {F : Nat → Prop} {T : List (Nat × Obj)} {S : Dk} (h : LawD w wr d F T S) : LawD w wr.drew d F T S := h.up (Upd.drew (Upd.refl _ _))
theorem LawD.alloc {w wr : World} {d : Nat} {F : Nat → Prop} {T : List (Nat × Obj)} {S : Dk} (h : LawD w wr d F T S) (cs : Array Value) (t : TypeId) : LawD w (wr.alloc (.cells cs t)) d F ((wr.heap.size, .cells cs t (0, 0)) :: T) S := by
  have u := (Upd.refl [] wr).alloc (.cells cs t)
  refine ⟨h.1.up u (by simp), h.2.1, fun p hp => ?_, h.2.2.2.trans u⟩
  rcases List.mem_cons.1 hp with rfl | hp
  · exact ⟨fun e => Nat.lt_irrefl _ (h.1.old _ e), heap_alloc_new wr _⟩
  · exact ⟨(h.2.2.1 p hp).1, u.get (h.2.2.1 p hp).2 (by simp)⟩
theorem LawD.keep {w wr : World} {d : Nat} {F : Nat → Prop} {T : List (Nat × Obj)} {S : Dk} (h : LawD w wr d F T S) {g : Nat} {o : Obj} (hg : ¬ F g) (ho : wr.heap[g]? = some o) : LawD w wr d F ((g, o) :: T) S :=
  ⟨h.1, h.2.1, fun p hp => by
    rcases List.mem_cons.1 hp with rfl | hp
    · exact ⟨hg, ho⟩
    · exact h.2.2.1 p hp, h.2.2.2⟩
theorem LawD.get {w wr : World} {d : Nat} {F : Nat → Prop} {T : List (Nat × Obj)} {S : Dk} (h : LawD w wr d F T S) {g : Nat} {o : Obj} (hm : (g, o) ∈ T) : wr.heap[g]? = some o := (h.2.2.1 _ hm).2
/-- Bytes of the law's own. -/
def OwnB (w : World) (F : Nat → Prop) (l : List Nat) (n : Nat) (e : Ending) (w' : World) : Prop := ∃ g cap, e = .returned (.slice (some ⟨g, 0, none⟩) n cap) ∧ n ≤ cap ∧ cap ≤ 9223372036854775807 ∧ w.heap.size ≤ g ∧ ¬ F g ∧ g < w'.heap.size ∧ IsBytes w' (some ⟨g, 0, none⟩) l ∧ ∃ B, IsRow w' B (.slice (some ⟨g, 0, none⟩) n cap) l
theorem ld_data {w wr : World} {d : Nat} {F : Nat → Prop} {T : List (Nat × Obj)} {S : Dk} (h : LawD w wr d F T S) (k a c b f : Int) (u : Bool) (p : Value) {n : Nat} (hn : (opData c b f).length = n) (h0 : 0 < n) :
    Calls Try.prog 14 #[.agg #[.int .i64 k, .int .i64 a, .int .i64 c, .int .i64 b, .int .i64 f, .bool u, p]] wr fun e w' => OwnB wr F (opData c b f) n e w' ∧ LawD w w' d F T S :=
  (data_any k a c b f u p).mono fun e w' ⟨⟨v, he, hr⟩, hu⟩ => by
    obtain ⟨g, cap, rfl, hg, hgl, hc1, hc2, hb⟩ := row_some hr hn h0
    exact ⟨⟨g, cap, he, hc1, hc2, hg, fun e => by have := h.1.old _ e; omega, hgl, hb, _, hr⟩, h.up hu⟩
def LWrote (w : World) (d : Nat) (T : List (Nat × Obj)) (S : Dk) (w' : World) : Prop := ∃ F', LawD w w' d F' T S
theorem ld_write {w wr : World} {d : Nat} {F : Nat → Prop} {T : List (Nat × Obj)} {S : Dk} (h : LawD w wr d F T S) (p : Int) {g : Nat} {data : List Nat} {cap n : Nat} (fua : Bool) (hb : IsBytes wr (some ⟨g, 0, none⟩) data) (hbf : ¬ F g) (hlen : data.length = n) (hn : n ≤ 9223372036854775807) (hvl : ∀ i, i < S.n → (S.sec i).ver.length ≤ 2000000000000) {e0 : Int} {S' : Dk} (he : S.write p data fua = (e0, S')) :
    Calls Try.prog 13 #[.pointer (some ⟨d, 0, none⟩), .int .i64 p, .slice (some ⟨g, 0, none⟩) n cap, .bool fua] wr fun e w' => e = .returned (.int .i64 e0) ∧ LWrote w d T S' w' :=
  (x_write (cap := cap) h.1 p fua hb (fun b o e => by cases e; exact hbf) (by omega) hvl hlen.symm).mono fun e w' ⟨h1, ⟨F', h2, h3⟩, h4⟩ => by
    rw [he] at h1 h2
    exact ⟨h1, F', h.next h2 h3 h4 fun _ hx => hx⟩
theorem ld_read {w wr : World} {d : Nat} {F : Nat → Prop} {T : List (Nat × Obj)} {S : Dk} (h : LawD w wr d F T S) (p c : Int) {l : List Nat} {e0 : Int} {S' : Dk} (he : S.read p c = ((l, e0), S')) :
    Calls Try.prog 12 #[.pointer (some ⟨d, 0, none⟩), .int .i64 p, .int .i64 c] wr fun e w' => ReadOut wr.heap.size (l, e0) e w' ∧ LawD w w' d F T S' :=
  (x_read h.1 p c).mono fun e w' ⟨h1, h2, h3⟩ => by
    rw [he] at h1 h2
    exact ⟨h1, h.next h2 (fun _ hx => .inl hx) (h3.p (F := (· = d)) (by simp)) fun x hx => by rw [hx]; exact h.1.fd⟩
theorem ld_flush {w wr : World} {d : Nat} {F : Nat → Prop} {T : List (Nat × Obj)} {S : Dk} (h : LawD w wr d F T S) {e0 : Int} {S' : Dk} (he : S.flush = (e0, S')) :
    Calls Try.prog 15 #[.pointer (some ⟨d, 0, none⟩)] wr fun e w' => e = .returned (.int .i64 e0) ∧ LawD w w' d F T S' :=
  (x_flush h.1).mono fun e w' ⟨h1, h2, h3⟩ => by
    rw [he] at h1 h2
    exact ⟨h1, h.next h2 (fun _ hx => .inl hx) h3 fun x hx => hx⟩
theorem ld_fail {w wr : World} {d : Nat} {F : Nat → Prop} {T : List (Nat × Obj)} {S : Dk} (h : LawD w wr d F T S) (k n : Int) {e0 : Int} {S' : Dk} (he : S.fail k n = (e0, S')) :
    Calls Try.prog 11 #[.pointer (some ⟨d, 0, none⟩), .int .i64 k, .int .i64 n] wr fun e w' => e = .returned (.int .i64 e0) ∧ LawD w w' d F T S' :=
  (x_fail h.1 k n).mono fun e w' ⟨h1, h2, h3⟩ => by
    rw [he] at h1 h2
    exact ⟨h1, h.next h2 (fun _ hx => .inl hx) (h3.p (F := (· = d)) (by simp)) fun x hx => by rw [hx]; exact h.1.fd⟩
theorem ld_cut {w wr : World} {d : Nat} {F : Nat → Prop} {T : List (Nat × Obj)} {S : Dk} (h : LawD w wr d F T S) (n : Int) {e0 : Int} {S' : Dk} (he : S.cut n = (e0, S')) :
    Calls Try.prog 16 #[.pointer (some ⟨d, 0, none⟩), .int .i64 n] wr fun e w' => e = .returned (.int .i64 e0) ∧ LawD w w' d F T S' :=
  (x_cut h.1 n).mono fun e w' ⟨h1, h2, h3⟩ => by
    rw [he] at h1 h2
    exact ⟨h1, h.next h2 (fun _ hx => .inl hx) (h3.p (F := (· = d)) (by simp)) fun x hx => by rw [hx]; exact h.1.fd⟩
theorem ld_crash {w wr : World} {d : Nat} {F : Nat → Prop} {T : List (Nat × Obj)} {S : Dk} (h : LawD w wr d F T S) {a : Option Addr} {picks : List Int} {pc : Nat} (hp : IsIntsAt wr a picks) (hpf : ∀ b o, a = some ⟨b, o, none⟩ → ¬ F b) (hpl : picks.length ≤ 9223372036854775807)
    (hB : ∀ i, i < S.n → (S.sec i).ver.length ≤ 2000000000000) {n : Nat} (hn : n = picks.length) :
    Calls Try.prog 17 #[.pointer (some ⟨d, 0, none⟩), .slice a n pc] wr fun e w' => e = .returned (.tuple #[]) ∧ LawD w w' d F T (S.crash picks) :=
  (x_crash (pc := pc) h.1 hp hpf hpl hB hn).mono fun e w' ⟨h1, h2, h3⟩ => ⟨h1, h.next h2 (fun _ hx => .inl hx) h3 fun x hx => hx⟩
theorem ld_crash_nil {w wr : World} {d : Nat} {F : Nat → Prop} {T : List (Nat × Obj)} {S : Dk} (h : LawD w wr d F T S) (hB : ∀ i, i < S.n → (S.sec i).ver.length ≤ 2000000000000) :
    Calls Try.prog 17 #[.pointer (some ⟨d, 0, none⟩), .slice none 0 0] wr fun e w' => e = .returned (.tuple #[]) ∧ LawD w w' d F T (S.crash []) :=
  ld_crash (picks := []) h (fun i hi => absurd hi (Nat.not_lt_zero i)) (by simp) (by decide) hB rfl
def LNew (w : World) (n : Nat) (e : Ending) (w' : World) : Prop := ∃ d F, e = .returned (.tuple #[.pointer (some ⟨d, 0, none⟩), .int .i64 0]) ∧ LawD w w' d F [] (Dk.new n)
theorem ld_new {w : World} (n : Nat) (h1 : 1 ≤ n) (h2 : n ≤ 4096) : Calls Try.prog 9 #[.int .i64 (n : Nat)] w (LNew w n) :=
  (x_new n h1 h2).mono fun e w' ⟨⟨d, F, h1, h2, h3⟩, h4⟩ => ⟨d, F, h1, h2, h3, by simp, h4⟩
theorem ld_new4 {w : World} : Calls Try.prog 9 #[.int .i64 4] w (LNew w 4) := ld_new 4 (by decide) (by decide)
theorem ld_new8 {w : World} : Calls Try.prog 9 #[.int .i64 8] w (LNew w 8) := ld_new 8 (by decide) (by decide)
end Go.Proofs.Ytpnpjffhkaejgaa
