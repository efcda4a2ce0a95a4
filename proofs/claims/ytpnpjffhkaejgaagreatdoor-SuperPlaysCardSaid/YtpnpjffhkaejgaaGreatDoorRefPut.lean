/-
  PROVED HERE: the document's parts of package polderref02 and 01: bytes are put behind bytes, filled, summed, framed; a number is read; two texts are held against one another. Conditions: what is put has room.
-/
import Derived.Test.YtpnpjffhkaejgaaGreatDoorFramed
import Derived.Test.YtpnpjffhkaejgaaGreatDoorAppend
namespace Go.Proofs.YtpnpjffhkaejgaaGreatDoor
open Go.RowKit

theorem infoByte : (Tryz.prog.info? 5).map (fun i => (i.zero, i.size, i.bytes)) = some (some (.int .u8 0), 1, 1) := by kernel_rfl
/-- The value v is a literal of bytes: full, in a block that nobody writes. -/
def IsLit (w : World) (B : Nat) (v : Value) (l : List Nat) : Prop := ∃ g cs ty fr, v = .slice (some ⟨g, 0, none⟩) l.length l.length ∧ B ≤ g ∧ w.heap[g]? = some (.cells cs ty fr) ∧ (∀ i (h : i < l.length), cs[i]? = some (.int .u8 (l[i] : Int))) ∧ l.length ≤ 1000000
/-- The value v is a slice of the call's own that holds the bytes l. -/
structure IsOut (w : World) (B : Nat) (v : Value) (l : List Nat) : Prop where
  row : w.ownsRow B 5 1 v l.length (u8s l) ∨ IsLit w B v l
  ok : BytesOk l
theorem IsOut.nil (w : World) (B : Nat) : IsOut w B (.slice none 0 0) [] := ⟨.inl ⟨rfl, .inl ⟨rfl, rfl⟩⟩, BytesOk.nil⟩
theorem ownsRow_upd {w w' : World} {B : Nat} {e : TypeId} {z n : Nat} {v : Value} {xs : List Value} {S : List Nat} (h : w.ownsRow B e z v n xs) (u : Upd S w w') (hs : ∀ x ∈ v.ownBlock.toList, x ∉ S) : w'.ownsRow B e z v n xs := by
  obtain ⟨hl, ⟨rfl, rfl⟩ | ⟨g, cap, cur, rfl, hg, hb, r⟩⟩ := h
  · exact ⟨hl, .inl ⟨rfl, rfl⟩⟩
  · exact ⟨hl, .inr ⟨g, cap, cur, rfl, hg, u.get hb (hs g (by simp [Value.ownBlock])), r⟩⟩
theorem IsOut.upd {w w' : World} {B : Nat} {v : Value} {l : List Nat} {S : List Nat} (h : IsOut w B v l) (u : Upd S w w') (hs : ∀ x ∈ v.ownBlock.toList, x ∉ S) : IsOut w' B v l := by
  obtain ⟨h | ⟨g, cs, ty, fr, rfl, hg, hb, r⟩, ok⟩ := h
  · exact ⟨.inl (ownsRow_upd h u hs), ok⟩
  · exact ⟨.inr ⟨g, cs, ty, fr, rfl, hg, u.get hb (hs g (by simp [Value.ownBlock])), r⟩, ok⟩
theorem IsOut.base {w : World} {B C : Nat} {v : Value} {l : List Nat} (h : IsOut w B v l) (hC : C ≤ B) : IsOut w C v l := by
  obtain ⟨⟨hl, ⟨rfl, h0⟩ | ⟨g, cap, cur, rfl, hg, r⟩⟩ | ⟨g, cs, ty, fr, rfl, hg, r⟩, ok⟩ := h
  · exact ⟨.inl ⟨hl, .inl ⟨rfl, h0⟩⟩, ok⟩
  · exact ⟨.inl ⟨hl, .inr ⟨g, cap, cur, rfl, Nat.le_trans hC hg, r⟩⟩, ok⟩
  · exact ⟨.inr ⟨g, cs, ty, fr, rfl, Nat.le_trans hC hg, r⟩, ok⟩
theorem IsOut.slice {w : World} {B : Nat} {v : Value} {l : List Nat} (h : IsOut w B v l) : ∃ a cap, v = .slice a l.length cap ∧ IsBytes w a l ∧ (∀ b o, a = some ⟨b, o, none⟩ → b ∈ v.ownBlock.toList) ∧ l.length ≤ maxLen := by
  obtain ⟨⟨hl, ⟨rfl, h0⟩ | ⟨g, cap, cur, rfl, hg, hb, hc, hm, hs, ht⟩⟩ | ⟨g, cs, ty, fr, rfl, hg, hb, hi, hm⟩, ok⟩ := h
  · refine ⟨none, 0, by rw [h0], ⟨ok, fun i hi => by omega⟩, (by simp), by omega⟩
  · refine ⟨some ⟨g, 0, none⟩, cap, rfl, ⟨ok, fun i hi => ⟨g, 0, rfl, ?_⟩⟩, (by rintro b o ⟨⟩; simp [Value.ownBlock]), by omega⟩
    rw [(cells_of hb).1, Nat.zero_add]
    have e : (cur.toList.take (l.length * 1))[i]? = (u8s l)[i]? := by rw [ht]
    rw [List.getElem?_take_of_lt (by omega), u8s_get, List.getElem?_eq_getElem hi] at e
    simpa using e
  · refine ⟨some ⟨g, 0, none⟩, _, rfl, ⟨ok, fun i h => ⟨g, 0, rfl, ?_⟩⟩, (by rintro b o ⟨⟩; simp [Value.ownBlock]), by unfold maxLen; omega⟩
    rw [cell_of_row w g _ cs ty fr hb, Nat.zero_add]
    exact hi i h
theorem IsOut.more {w : World} {B : Nat} {v : Value} {l p : List Nat} (h : w.ownsRow B 5 1 v (l.length + p.length) (u8s l ++ u8s p)) (hl : BytesOk l) (hp : BytesOk p) : IsOut w B v (l ++ p) := ⟨.inl (by rw [List.length_append, show u8s (l ++ p) = u8s l ++ u8s p by simp [u8s]]; exact h), hl.append hp⟩
theorem IsOut.push {w : World} {B : Nat} {v : Value} {l : List Nat} {b : Nat} (h : w.ownsRow B 5 1 v (l.length + 1) (u8s l ++ [.int .u8 (b : Int)])) (hl : BytesOk l) (hb : b < 256) : IsOut w B v (l ++ [b]) :=
  IsOut.more (w := w) (p := [b]) h hl (fun x hx => by simp at hx; omega)
theorem run_append_lit {w : World} {B : Nat} {v : Value} {l p : List Nat} (h : IsLit w B v l) (hl : BytesOk l) (hp : BytesOk p) (hm : 0 < p.length) (hpm : p.length ≤ 100000000000000) (a : Addr) (c : Nat) (hc : ∀ j u, (u8s p)[j]? = some u → w.cell? (a.add j) = some u) (hB : B ≤ w.heap.size) :
    ∃ v' w', (Builtin.append_ #[62, 62] 62 #[v, .slice (some a) p.length c]).run Tryz.prog w = .ok v' w' ∧ IsOut w' B v' (l ++ p) ∧ Mine v w v' w' := by
  obtain ⟨i0, hi, hz0, hz1, hz2⟩ := info_parts infoByte
  obtain ⟨g, cs, ty, fr, rfl, hg, hb, hcs, hml⟩ := h
  have hr := run_append_grow (P := Tryz.prog) w 62 62 5 i0 _ Tryz.underlying62 hi hz0 ⟨g, 0, none⟩ l.length l.length (u8s l) (by rw [u8s_len, hz1, Nat.mul_one]) (fun j u hj => by
      rw [add_off, Nat.zero_add, cell_of_row w g j cs ty fr hb]
      rw [u8s_get] at hj
      by_cases hjl : j < l.length
      · rw [List.getElem?_eq_getElem hjl] at hj
        rw [hcs j hjl, ← hj]; rfl
      · rw [List.getElem?_eq_none (by omega)] at hj; cases hj)
    a p.length c (u8s p) (by rw [u8s_len, hz1, Nat.mul_one]) hc (by omega) (by omega) (growslice_fits (by omega) (by rw [hz2]; omega))
  have hge := grownCap_ge w (l.length + p.length) l.length 5
  have hcm : grownCap w (l.length + p.length) l.length 5 ≤ maxLen := grownCap_le_maxLen w _ _ _ (by unfold maxLen; omega)
  refine ⟨_, _, hr, IsOut.more (p := p) ⟨?_, .inr ⟨w.heap.size, _, _, rfl, hB, heap_alloc_new w.drew _, hge, hcm, ?_, ?_⟩⟩ hl hp, ⟨(Upd.refl _ _).drew.alloc _, fun x hx => .inr (by simp [Value.ownBlock] at hx; omega)⟩⟩
  · rw [List.length_append, u8s_len, u8s_len, Nat.mul_one]
  · simp only [Array.size_append, List.size_toArray, size_zeroCells, u8s_len, Nat.mul_one]
    rw [show (Value.int IntKind.u8 0).cells.size = 1 from rfl]
    omega
  · simp only [Array.toList_append, List.append_assoc, Nat.mul_one]
    rw [← List.append_assoc]
    exact List.take_left' (by rw [List.length_append, u8s_len, u8s_len])
theorem run_append_out {w : World} {B : Nat} {v : Value} {l p : List Nat} (hown : IsOut w B v l) (hp : BytesOk p) (hm : 0 < p.length) (hpm : l.length + p.length ≤ 100000000000000) (a : Addr) (c : Nat) (hc : ∀ j u, (u8s p)[j]? = some u → w.cell? (a.add j) = some u) (hB : B ≤ w.heap.size) :
    ∃ v' w', (Builtin.append_ #[62, 62] 62 #[v, .slice (some a) p.length c]).run Tryz.prog w = .ok v' w' ∧ IsOut w' B v' (l ++ p) ∧ Mine v w v' w' := by
  rcases hown.row with hr | hr
  · obtain ⟨i0, hi, hz0, hz1, hz2⟩ := info_parts infoByte
    obtain ⟨v', w', h1, h2, h3⟩ := run_append_blk (P := Tryz.prog) w B 62 62 5 i0 _ 1 1 Tryz.underlying62 hi hz0 hz1 hz2 rfl (by decide) v _ _ hr a p.length c (u8s p) (by rw [u8s_len, Nat.mul_one]) hc (u8s_one p) (by unfold maxLen; omega) (by omega) hB
    exact ⟨v', w', h1, IsOut.more h2 hown.ok hp, h3⟩
  · exact run_append_lit hr hown.ok hp hm (by omega) a c hc hB
theorem wpList_pushes {w : World} {ops : Array Oper} {rest : List Oper} {o : Oper} {a : Act} {Q : Exit → Act → World → Prop} (hgd : o.guard = none) (s x : Operand)
    (ho : o.op = .call { callee := .builtin .append, args := #[s, x], argTypes := #[62, 62] }) (hty : o.type = 62) {B : Nat} {v : Value} {l p : List Nat} (hs : a.eval s = v) (hown : IsOut w B v l)
    (ad : Addr) (n c : Nat) (hn : n = p.length) (hx : a.eval x = .slice (some ad) n c) (hc : ∀ j u, (u8s p)[j]? = some u → w.cell? (ad.add j) = some u) (hp : BytesOk p) (hm : 0 < p.length) (hr : l.length + p.length ≤ 100000000000000) (hB : B ≤ w.heap.size)
    (h : ∀ v' w', IsOut w' B v' (l ++ p) → Mine v w v' w' → wpList Tryz.prog ops Q rest (a.put o.dst v') w') : wpList Tryz.prog ops Q (o :: rest) a w := by
  subst hn
  obtain ⟨v', w', hr, h2, h3⟩ := run_append_out hown hp hm hr ad c hc hB
  refine wpList_val (w' := w') hgd v' ?_ (h v' w' h2 h3)
  unfold execOp
  simp only [ho, hty, resolve, invoke, builtin, Sem.run_bind, Sem.run_pure, Result.andThen_ok, List.map_toArray, List.map_cons, List.map_nil, hs, hx, hr]
theorem wpList_push {w : World} {ops : Array Oper} {rest : List Oper} {o : Oper} {a : Act} {Q : Exit → Act → World → Prop} (hgd : o.guard = none) (s x : Operand)
    (ho : o.op = .call { callee := .builtin .append, args := #[s, x], argTypes := #[62, 62] }) (hty : o.type = 62) {B : Nat} {v : Value} {l : List Nat} (hs : a.eval s = v) (hown : IsOut w B v l)
    (g : Nat) (c : Nat) (b : Nat) (hx : a.eval x = .slice (some ⟨g, 0, none⟩) 1 c) (hc : w.cell? ⟨g, 0, none⟩ = some (.int .u8 (b : Int))) (hb : b < 256) (hr : l.length < 100000000000000) (hB : B ≤ w.heap.size)
    (h : ∀ v' w', IsOut w' B v' (l ++ [b]) → Mine v w v' w' → wpList Tryz.prog ops Q rest (a.put o.dst v') w') : wpList Tryz.prog ops Q (o :: rest) a w :=
  wpList_pushes hgd s x ho hty hs hown ⟨g, 0, none⟩ 1 c rfl hx (fun j u hj => by
    cases j with
    | zero => rw [add_off, hc]; simpa [u8s] using hj
    | succ j => simp [u8s] at hj) (fun x hx => by simp at hx; omega) (by simp) (by simp; omega) hB h
/-- Two slices of the same kind: how one turns into the next. -/
theorem be_take_succ (n k j : Nat) (hj : j < k) : (be n k).take (j + 1) = (be n k).take j ++ [n / 256 ^ (k - 1 - j) % 256] := by
  rw [List.take_add_one, be_get n k j hj]; rfl
theorem rin_any (n most : Int) (w : World) : Calls Tryz.prog 41 #[.int .i64 n, .int .i64 most] w fun e w' => w' = w ∧ e = .returned (.bool (decide (0 ≤ n ∧ n ≤ most))) := by
  by_cases h1 : 0 ≤ n <;> by_cases h2 : n ≤ most <;>
  · go_enter Tryz.func41, Tryz.ntmps41
    go_wp2
    go_ret
    simp_all
theorem byte_of' (n m : Nat) : (n : Int) / 2 ^ (8 * m) % 256 = ((n / 256 ^ m % 256 : Nat) : Int) := by
  have : (2 : Nat) ^ (8 * m) = 256 ^ m := by rw [Nat.pow_mul]
  rw [← this]
  simp
set_option maxRecDepth 100000 in
set_option maxHeartbeats 1600000 in
theorem rput_any {v : Value} {n k B : Nat} {l : List Nat} {w : World} (h : IsOut w B v l) (hB : B ≤ w.heap.size) (hk : k ≤ 8) (hr : l.length + k ≤ 100000000000000) :
    Calls Tryz.prog 42 #[v, .int .i64 n, .int .i64 k] w fun e w' => ∃ v', e = .returned v' ∧ IsOut w' B v' (l ++ be n k) ∧ Mine v w v' w' := by
  have H := Lib.hid h
  have HB := Lib.hid hB
  clear h hB
  go_enter Tryz.func42, Tryz.ntmps42
  go_wp2
  go_loopw [0, 7] (fun u i wr => ∃ j : Nat, j ≤ k ∧ i = .int .i64 ((k : Int) - 1 - j) ∧ IsOut wr B u (l ++ (be n k).take j) ∧ Mine v w u wr) (fun _ i _ => (intOf i + 1).toNat)
  case atStart => exact ⟨0, by omega, by simp, by simpa using H.out, Mine.refl _ _⟩
  case round =>
    obtain ⟨j, hj, rfl, hV, hU⟩ := hrel
    have HV := Lib.hid hV
    have HU := Lib.hid hU
    clear hV hU
    by_cases hlt : j < k
    · obtain ⟨m, hm⟩ : ∃ m : Nat, m = k - 1 - j := ⟨_, rfl⟩
      have hmi : (k : Int) - 1 - j = m := by omega
      have hm8 : m < 8 := by omega
      have hlen : (l ++ (be n k).take j).length < 100000000000000 := by rw [List.length_append, List.length_take, be_len]; omega
      have hV1 : IsOut (wr.alloc (.cells #[.int .u8 ((n : Int) / 2 ^ (8 * m) % 256)] 5)) B u0 (l ++ (be n k).take j) := HV.out.upd ((Upd.refl [] _).alloc _) (by simp)
      have HVA := Lib.hid hV1
      have HPL := Lib.hid hlen
      have HM := Lib.hid hm
      clear hV1 hlen hm
      rw [hmi]
      clear hmi
      go_wp2_with (at_builtin; refine wpList_push rfl (.tmp 14) (.tmp 20) rfl rfl rfl HVA.out wr.heap.size 1 (n / 256 ^ m % 256) rfl ?c1 (Nat.mod_lt _ (by decide)) HPL.out ?c2 ?_)
      case c1 => rw [← byte_of']; exact news_at _ _ _ 0 _ rfl
      case c2 => simp; have := HU.out.upd.size; have := HB.out; omega
      intro v' w1 hn1 hx1
      have hnew : IsOut w1 B v' (l ++ (be n k).take (j + 1)) := by
        rw [be_take_succ n k j hlt, ← HM.out]; exact hn1
      have HN := Lib.hid hnew
      have HU1 := Lib.hid ((HU.out.alloc _).trans hx1)
      clear hn1 hx1 hnew HVA
      go_wp2
      go_roundw
      case rel => exact ⟨j + 1, by omega, by have := HM.out; congr 1; omega, HN.out, HU1.out⟩
      case measure => simp [intOf]
    · obtain rfl : j = k := by omega
      go_wp2
      go_ret
      have := HV.out
      rw [List.take_of_length_le (by rw [be_len]; exact Nat.le_refl _)] at this
      exact ⟨_, rfl, this, HU.out⟩

set_option maxRecDepth 100000 in
set_option maxHeartbeats 1600000 in
theorem filled_any {v : Value} {n B : Nat} {l : List Nat} {w : World} (h : IsOut w B v l) (hB : B ≤ w.heap.size) (hr : n ≤ 1000000) (hl : l.length < 100000000000000) :
    Calls Tryz.prog 57 #[v, .int .i64 n] w fun e w' => ∃ v', e = .returned v' ∧ IsOut w' B v' (pad l n) ∧ Mine v w v' w' := by
  have H := Lib.hid h
  have HB := Lib.hid hB
  have HL := Lib.hid hl
  clear h hB hl
  go_enter Tryz.func57, Tryz.ntmps57
  go_wp2
  go_loopw [0] (fun u wr => ∃ j : Nat, j ≤ n - l.length ∧ IsOut wr B u (l ++ List.replicate j 0) ∧ Mine v w u wr) (fun u _ => n - (match u with | .slice _ m _ => m | _ => 0))
  case atStart => exact ⟨0, by omega, by simpa using H.out, Mine.refl _ _⟩
  case round =>
    obtain ⟨j, hj, hV, hU⟩ := hrel
    obtain ⟨a, cap, hu, _⟩ := hV.slice
    have hll : (l ++ List.replicate j 0).length = l.length + j := by simp
    rw [hll] at hu
    subst hu
    have HV := Lib.hid hV
    have HU := Lib.hid hU
    have HLL := Lib.hid hll
    have HJ := Lib.hid hj
    clear hV hU hll hj
    by_cases hlt : l.length + j < n
    · have hV1 : IsOut (wr.alloc (.cells #[.int .u8 0] 5)) B (.slice a (l.length + j) cap) (l ++ List.replicate j 0) := HV.out.upd ((Upd.refl [] _).alloc _) (by simp)
      have HVA := Lib.hid hV1
      clear hV1
      go_wp2_with (at_builtin; refine wpList_push rfl (.tmp 9) (.tmp 10) rfl rfl rfl HVA.out wr.heap.size 1 0 rfl ?c1 (by decide) ?c0 ?c2 ?_)
      case c0 => rw [HLL.out]; have := HL.out; omega
      case c1 => exact news_at _ _ _ 0 _ rfl
      case c2 => simp; have := HU.out.upd.size; have := HB.out; omega
      intro v' w1 hn1 hx1
      have hnew : IsOut w1 B v' (l ++ List.replicate (j + 1) 0) := by
        rw [List.replicate_succ']; simpa using hn1
      obtain ⟨a2, cap2, hu, _⟩ := hnew.slice
      have hll2 : (l ++ List.replicate (j + 1) 0).length = l.length + (j + 1) := by simp
      rw [hll2] at hu
      clear hll2
      subst hu
      have HN := Lib.hid hnew
      have HU1 := Lib.hid ((HU.out.alloc _).trans hx1)
      clear hn1 hx1 hnew HVA
      go_wp2
      go_roundw
      case rel => exact ⟨j + 1, by omega, HN.out, HU1.out⟩
      case measure => simp; omega
    · go_wp2
      go_ret
      have hv := HV.out
      have hj := HJ.out
      by_cases hle : l.length ≤ n
      · obtain rfl : j = n - l.length := by omega
        exact ⟨_, rfl, hv, HU.out⟩
      · obtain rfl : j = 0 := by omega
        have e : pad l n = l ++ List.replicate 0 0 := by unfold pad; rw [show n - l.length = 0 by omega]
        rw [e]
        exact ⟨_, rfl, hv, HU.out⟩
end Go.Proofs.YtpnpjffhkaejgaaGreatDoor
