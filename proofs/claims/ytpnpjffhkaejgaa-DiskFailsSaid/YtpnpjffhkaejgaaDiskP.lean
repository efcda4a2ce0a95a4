/-
  PROVED HERE: the disk's methods, as a law uses them: where the disk lies is left open but for its blocks; what the statements ask first (known). Conditions: those that each theorem names.
-/
import Derived.Test.YtpnpjffhkaejgaaDiskO
import Derived.Test.YtpnpjffhkaejgaaOpData
import Derived.Test.YtpnpjffhkaejgaaDiskCutsP
namespace Go.Proofs.Ytpnpjffhkaejgaa
open Go.RowKit

/-- There is a disk at d whose blocks are those of F. -/
def DiskX (w : World) (d : Nat) (F : Nat → Prop) (S : Dk) : Prop := ∃ L, IsDisk w d L F S
theorem DiskX.upd {w w' : World} {d : Nat} {F G : Nat → Prop} {S : Dk} (h : DiskX w d F S) (u : UpdP G w w') (hs : ∀ x, F x → ¬ G x) : DiskX w' d F S := by
  obtain ⟨L, h⟩ := h
  exact ⟨L, h.upd u hs⟩
theorem DiskX.up {w w' : World} {d : Nat} {F : Nat → Prop} {S : Dk} {T : List Nat} (h : DiskX w d F S) (u : Upd T w w') (hs : ∀ x ∈ T, ¬ F x) : DiskX w' d F S := by
  obtain ⟨L, h⟩ := h
  exact ⟨L, h.up u hs⟩
theorem DiskX.old {w : World} {d : Nat} {F : Nat → Prop} {S : Dk} (h : DiskX w d F S) : ∀ x, F x → x < w.heap.size := by
  obtain ⟨L, h⟩ := h
  exact h.old
theorem DiskX.fd {w : World} {d : Nat} {F : Nat → Prop} {S : Dk} (h : DiskX w d F S) : F d := by
  obtain ⟨L, h⟩ := h
  exact h.fd
theorem DiskX.ok {w : World} {d : Nat} {F : Nat → Prop} {S : Dk} (h : DiskX w d F S) : S.Ok := by
  obtain ⟨L, h⟩ := h
  exact h.ok
def NewX (B n : Nat) (e : Ending) (w' : World) : Prop := ∃ d F, e = .returned (.tuple #[.pointer (some ⟨d, 0, none⟩), .int .i64 0]) ∧ DiskX w' d F (Dk.new n) ∧ ∀ x, F x → B ≤ x
theorem x_new {w : World} (n : Nat) (h1 : 1 ≤ n) (h2 : n ≤ 4096) : Calls Try.prog 9 #[.int .i64 (n : Nat)] w fun e w' => NewX w.heap.size n e w' ∧ Upd [] w w' :=
  (new_yes n h1 h2).mono fun e w' ⟨⟨d, L, F, h1, h2, h3⟩, h4⟩ => ⟨⟨d, F, h1, ⟨L, h2⟩, h3⟩, h4⟩
theorem x_read {w : World} {d : Nat} {F : Nat → Prop} {S : Dk} (h : DiskX w d F S) (p c : Int) :
    Calls Try.prog 12 #[.pointer (some ⟨d, 0, none⟩), .int .i64 p, .int .i64 c] w fun e w' => ReadOut w.heap.size (S.read p c).1 e w' ∧ DiskX w' d F (S.read p c).2 ∧ Upd [d] w w' := by
  obtain ⟨L, h⟩ := h
  exact (read_any h p c).mono fun e w' ⟨h1, h2, h3⟩ => ⟨h1, ⟨L, h2⟩, h3⟩
theorem x_flush {w : World} {d : Nat} {F : Nat → Prop} {S : Dk} (h : DiskX w d F S) :
    Calls Try.prog 15 #[.pointer (some ⟨d, 0, none⟩)] w fun e w' => e = .returned (.int .i64 S.flush.1) ∧ DiskX w' d F S.flush.2 ∧ UpdP F w w' := by
  obtain ⟨L, h⟩ := h
  exact (flush_any h).mono fun e w' ⟨h1, h2, h3⟩ => ⟨h1, ⟨L, h2⟩, h3.p (by simp [h.fd, h.fdb, h.fmb])⟩
theorem x_fail {w : World} {d : Nat} {F : Nat → Prop} {S : Dk} (h : DiskX w d F S) (k n : Int) :
    Calls Try.prog 11 #[.pointer (some ⟨d, 0, none⟩), .int .i64 k, .int .i64 n] w fun e w' => e = .returned (.int .i64 (S.fail k n).1) ∧ DiskX w' d F (S.fail k n).2 ∧ Upd [d] w w' := by
  obtain ⟨L, h⟩ := h
  exact (fail_any h k n).mono fun e w' ⟨h1, h2, h3⟩ => ⟨h1, ⟨L, h2⟩, h3⟩
theorem x_cut {w : World} {d : Nat} {F : Nat → Prop} {S : Dk} (h : DiskX w d F S) (n : Int) :
    Calls Try.prog 16 #[.pointer (some ⟨d, 0, none⟩), .int .i64 n] w fun e w' => e = .returned (.int .i64 (S.cut n).1) ∧ DiskX w' d F (S.cut n).2 ∧ Upd [d] w w' := by
  obtain ⟨L, h⟩ := h
  exact (cut_any h n).mono fun e w' ⟨h1, h2, h3⟩ => ⟨h1, ⟨L, h2⟩, h3⟩
theorem x_size {w : World} {d : Nat} {F : Nat → Prop} {S : Dk} (h : DiskX w d F S) :
    Calls Try.prog 26 #[.pointer (some ⟨d, 0, none⟩)] w fun e w' => e = .returned (.int .i64 (S.n : Nat)) ∧ w = w' := by
  obtain ⟨L, h⟩ := h
  exact size_any h.hd h.ok.n2
theorem x_dirty {w : World} {d : Nat} {F : Nat → Prop} {S : Dk} (h : DiskX w d F S) :
    Calls Try.prog 21 #[.pointer (some ⟨d, 0, none⟩)] w fun e w' => DirtyOut w.heap.size S.dirty e w' ∧ Upd [] w w' := by
  obtain ⟨L, h⟩ := h
  exact dirty_any h
theorem x_crash {w : World} {d : Nat} {F : Nat → Prop} {S : Dk} (h : DiskX w d F S) {a : Option Addr} {picks : List Int} {pc : Nat} (hp : IsIntsAt w a picks) (hpf : ∀ b o, a = some ⟨b, o, none⟩ → ¬ F b) (hpl : picks.length ≤ 9223372036854775807)
    (hB : ∀ i, i < S.n → (S.sec i).ver.length ≤ 2000000000000) {n : Nat} (hn : n = picks.length) :
    Calls Try.prog 17 #[.pointer (some ⟨d, 0, none⟩), .slice a n pc] w fun e w' => e = .returned (.tuple #[]) ∧ DiskX w' d F (S.crash picks) ∧ UpdP F w w' := by
  obtain ⟨L, h⟩ := h
  subst hn
  exact (crash_any h hp hpf hpl hB).mono fun e w' ⟨h1, h2, h3⟩ => ⟨h1, ⟨L, h2⟩, h3.p (by simp [h.fd, h.fdb, h.fmb])⟩
/-- A disk behind a write: it may have taken new blocks. -/
def WroteX (w' : World) (d : Nat) (F : Nat → Prop) (B : Nat) (S : Dk) : Prop := ∃ F', DiskX w' d F' S ∧ ∀ x, F' x → F x ∨ B ≤ x
theorem x_write {w : World} {d : Nat} {F : Nat → Prop} {S : Dk} (h : DiskX w d F S) (p : Int) {a : Option Addr} {data : List Nat} {cap n : Nat} (fua : Bool) (hb : IsBytes w a data) (hbf : ∀ b o, a = some ⟨b, o, none⟩ → ¬ F b) (hlen : data.length ≤ 9223372036854775807) (hvl : ∀ i, i < S.n → (S.sec i).ver.length ≤ 2000000000000) (hn : n = data.length) :
    Calls Try.prog 13 #[.pointer (some ⟨d, 0, none⟩), .int .i64 p, .slice a n cap, .bool fua] w fun e w' => e = .returned (.int .i64 (S.write p data fua).1) ∧ WroteX w' d F w.heap.size (S.write p data fua).2 ∧ UpdP F w w' := by
  obtain ⟨L, h⟩ := h
  subst hn
  exact (write_any h p fua hb hbf hlen hvl).mono fun e w' ⟨h1, ⟨L', F', _, _, h2, h3⟩, h4⟩ => ⟨h1, ⟨F', ⟨L', h2⟩, h3⟩, h4⟩
end Go.Proofs.Ytpnpjffhkaejgaa
