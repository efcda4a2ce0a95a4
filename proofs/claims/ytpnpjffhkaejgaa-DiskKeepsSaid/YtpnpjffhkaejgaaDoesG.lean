/-
  PROVED HERE: two new disks side by side; what their Dirty answers; how many versions a script makes. Conditions: those that each theorem names.
-/
import Derived.Test.YtpnpjffhkaejgaaScript
namespace Go.Proofs.Ytpnpjffhkaejgaa
open Go.RowKit

theorem two_new {w w1 w2 : World} {n d r : Nat} {F G : Nat → Prop} (h1 : DiskX w1 d F (Dk.new n)) (hF : ∀ x, F x → w.heap.size ≤ x) (u1 : Upd [] w w1) (h2 : RefX w2 r G (Dk.new n)) (hG : ∀ x, G x → w1.heap.size ≤ x) (u2 : Upd [] w1 w2) : Two w w2 d r [] (Dk.new n) (Dk.new n) :=
  ⟨F, G, h1.up u2 (by simp), h2, fun x hx hg => by have := h1.old x hx; have := hG x hg; omega, hF, fun y hy => by have := hG y hy; have := u1.size; omega, by simp, u1.trans u2⟩
theorem run_vers (n : Nat) (l : List Stp) (j : Nat) (h : l.length ≤ 1990000000000) : ∀ i, i < ((Dk.new n).run (l.take j)).n → (((Dk.new n).run (l.take j)).sec i).ver.length ≤ 2000000000000 := fun i _ => by
  have h1 := Dk.run_ver (Dk.new n) (l.take j) i
  have h2 : ((Dk.new n).sec i).ver.length = 0 := rfl
  rw [List.length_take] at h1
  omega
theorem dirty_le (S : Dk) (h : S.Ok) : S.dirty.length ≤ 4096 := by
  have h1 := List.length_filter_le (fun i => !(S.sec i).ver.isEmpty) (List.range S.n)
  rw [List.length_range] at h1
  have := h.n2
  exact Nat.le_trans h1 this
theorem td_dirty2 {w wr : World} {d r : Nat} {K : List (Nat × Obj)} {S T : Dk} (h : Two w wr d r K S T) : Calls Try.prog 21 #[.pointer (some ⟨d, 0, none⟩)] wr fun e w' => DirtyOut wr.heap.size S.dirty e w' ∧ Upd [] wr w' := by
  obtain ⟨F, G, h1, _⟩ := h
  exact x_dirty h1
theorem tr_dirty2 {w wr : World} {d r : Nat} {K : List (Nat × Obj)} {S T : Dk} (h : Two w wr d r K S T) : Calls Try.prog 22 #[.pointer (some ⟨r, 0, none⟩)] wr fun e w' => DirtyOut wr.heap.size T.dirty e w' ∧ Upd [] wr w' := by
  obtain ⟨F, G, _, ⟨L, h2⟩, _⟩ := h
  exact rdirty_any h2
theorem x_new8 {w : World} : Calls Try.prog 9 #[.int .i64 8] w fun e w' => NewX w.heap.size 8 e w' ∧ Upd [] w w' := x_new 8 (by decide) (by decide)
theorem rnew8 {w : World} : Calls Try.prog 18 #[.int .i64 8] w (RNew w 8) := rnew_yes 8 (by decide) (by decide)
end Go.Proofs.Ytpnpjffhkaejgaa
