/-
  PROVED HERE: append onto a row that is the call's own: as the library's law, and of which block the row is then. Conditions: the library's.
-/
import Derived.Test.YtpnpjffhkaejgaaGreatDoorBase
import Derived.Laws.OwnMore
import Derived.OwnWalk
namespace Go.Proofs.YtpnpjffhkaejgaaGreatDoor
open Go.RowKit
/-- From v in w to u in w': nothing has turned but v's own block, and u's block is v's or new. -/
structure Mine (v : Value) (w : World) (u : Value) (w' : World) : Prop where
  upd : Upd v.ownBlock.toList w w'
  blk : ∀ x ∈ u.ownBlock.toList, x ∈ v.ownBlock.toList ∨ w.heap.size ≤ x
theorem Mine.refl (v : Value) (w : World) : Mine v w v w := ⟨Upd.refl _ _, fun _ h => .inl h⟩
theorem Mine.trans {v u t : Value} {a b c : World} (h : Mine v a u b) (k : Mine u b t c) : Mine v a t c :=
  ⟨h.upd.step k.upd h.blk, fun x hx => by
    rcases k.blk x hx with h1 | h1
    · exact h.blk x h1
    · exact .inr (Nat.le_trans h.upd.size h1)⟩
theorem Mine.alloc {v u : Value} {a b : World} (h : Mine v a u b) (o : Obj) : Mine v a u (b.alloc o) := ⟨h.upd.alloc o, h.blk⟩
theorem Mine.drew {v u : Value} {a b : World} (h : Mine v a u b) : Mine v a u b.drew := ⟨h.upd.drew, h.blk⟩
/-- All of it is new, when it began at no block. -/
theorem Mine.fresh {u : Value} {a b : World} (h : Mine (.slice none 0 0) a u b) : Upd [] a b := h.upd
theorem Mine.step {v u : Value} {a b c : World} {S : List Nat} (h : Mine v a u b) (k : Upd S b c) (hs : ∀ x ∈ S, x ∈ v.ownBlock.toList ∨ a.heap.size ≤ x) : Mine v a u c := ⟨h.upd.step k hs, h.blk⟩
theorem run_append_blk {P : Program} (w : World) (base : Nat) (t ty e : TypeId) (i : TypeInfo) (z : Value) (size bytes : Nat) (ht : P.underlying t = some (.slice e)) (hi : P.info? e = some i) (hz : i.zero = some z)
    (hsize : i.size = size) (hby : i.bytes = bytes) (hzs : z.cells.size = size) (hsz : 0 < size)
    (v : Value) (n : Nat) (xs : List Value) (hown : w.ownsRow base e size v n xs)
    (a : Addr) (m c : Nat) (news : List Value) (hl : news.length = m * size) (hnews : ∀ j u, news[j]? = some u → w.cell? (a.add j) = some u) (h1 : ∀ u ∈ news, u.oneCell' = true)
    (h63 : n + m ≤ maxLen) (hbytes : (n + m) * bytes ≤ 140737488355328) (hbase : base ≤ w.heap.size) :
    ∃ v' w', (Builtin.append_ #[t, t] ty #[v, .slice (some a) m c]).run P w = .ok v' w' ∧ w'.ownsRow base e size v' (n + m) (xs ++ news) ∧ Mine v w v' w' := by
  obtain ⟨v', w', hr, ho, hg, _⟩ := run_append_own (P := P) w base t ty e i z size bytes ht hi hz hsize hby hzs hsz v n xs hown a m c news hl hnews h1 h63 hbytes hbase
  refine ⟨v', w', hr, ho, Upd.of_grown hg, fun x hx => ?_⟩
  rcases hown.2 with ⟨rfl, rfl⟩ | ⟨g, cap, cur, rfl, hbg, hgg, hnc, hcm, hcs, htake⟩
  · have hx0 : xs = [] := List.eq_nil_of_length_eq_zero (by simpa using hown.1)
    subst hx0
    obtain ⟨v2, w2, hr2, ho2, _⟩ := run_append_own (P := P) w w.heap.size t ty e i z size bytes ht hi hz hsize hby hzs hsz (.slice none 0 0) 0 [] (World.ownsRow_nil _ _ _ _) a m c news hl hnews h1 h63 hbytes (Nat.le_refl _)
    rw [hr] at hr2
    obtain ⟨rfl, rfl⟩ : v' = v2 ∧ w' = w2 := by simpa using hr2
    exact .inr (ownsRow_block ho2 x hx)
  · by_cases hroom : n + m ≤ cap
    · obtain ⟨w2, hr2, ho2, _⟩ := run_append_fits (P := P) (w := w) base t ty e i size ht hi hsize g n cap xs hown a m c news hl hnews h1 hroom
      rw [hr] at hr2
      obtain ⟨rfl, rfl⟩ : v' = .slice (some ⟨g, 0, none⟩) (n + m) cap ∧ w' = w2 := by simpa using hr2
      exact .inl (by simpa [Value.ownBlock] using hx)
    · subst hsize
      subst hby
      have h63' : n + m ≤ 9223372036854775807 := by simp only [maxLen] at h63; omega
      have hr2 := run_append_grow (P := P) w t ty e i z ht hi hz ⟨g, 0, none⟩ n cap xs hown.1 (hown.cells (g := g) rfl) a m c news hl hnews (by omega) (by omega) (growslice_fits (by omega) hbytes)
      rw [hr] at hr2
      simp only [Result.ok.injEq] at hr2
      rw [hr2.1] at hx
      simp [Value.ownBlock] at hx
      exact .inr (by omega)
theorem wpList_append_blk {P : Program} (w : World) {ops : Array Oper} {rest : List Oper} {o : Oper} {a : Act} {Q : Exit → Act → World → Prop} (hgd : o.guard = none) (s x : Operand) (t : TypeId)
    (ho : o.op = .call { callee := .builtin .append, args := #[s, x], argTypes := #[t, t] })
    (base : Nat) (e : TypeId) (i : TypeInfo) (z : Value) (size bytes : Nat) (ht : P.underlying t = some (.slice e)) (hi : P.info? e = some i) (hz : i.zero = some z)
    (hsize : i.size = size) (hby : i.bytes = bytes) (hzs : z.cells.size = size) (hsz : 0 < size)
    (v : Value) (n : Nat) (xs : List Value) (hs : a.eval s = v) (hown : w.ownsRow base e size v n xs)
    (ad : Addr) (m c : Nat) (news : List Value) (hx : a.eval x = .slice (some ad) m c) (hl : news.length = m * size) (hnews : ∀ j u, news[j]? = some u → w.cell? (ad.add j) = some u) (h1 : ∀ u ∈ news, u.oneCell' = true)
    (h63 : n + m ≤ maxLen) (hbytes : (n + m) * bytes ≤ 140737488355328) (hbase : base ≤ w.heap.size)
    (h : ∀ v' w', w'.ownsRow base e size v' (n + m) (xs ++ news) → Mine v w v' w' → wpList P ops Q rest (a.put o.dst v') w') : wpList P ops Q (o :: rest) a w := by
  obtain ⟨v', w', hr, h2, h3⟩ := run_append_blk (P := P) w base t o.type e i z size bytes ht hi hz hsize hby hzs hsz v n xs hown ad m c news hl hnews h1 h63 hbytes hbase
  refine wpList_val (w' := w') hgd v' ?_ (h v' w' h2 h3)
  unfold execOp
  simp only [ho, resolve, invoke, builtin, Sem.run_bind, Sem.run_pure, Result.andThen_ok, List.map_toArray, List.map_cons, List.map_nil, hs, hx, hr]
end Go.Proofs.YtpnpjffhkaejgaaGreatDoor
