/-
  PROVED HERE: plain laws on nodes as bytes. Conditions: those that each theorem names; no program's text is used.
  PROVED HERE: PutNode of package codec. Conditions: the keys and the values can be read.
-/
import Derived.Test.YtkahpkmofeglgaaDoorHeadGet
import Derived.Test.YtkahpkmofeglgaaDoorHeadW
import Derived.Test.YtkahpkmofeglgaaDoorImageG
namespace Go.Proofs.YtkahpkmofeglgaaDoor
open Go.RowKit

/-- A node: leaf, keys, values. -/
structure Nd where
  leaf : Bool
  keys : List Int
  vals : List Int
deriving DecidableEq
def okNode0 (n : Nd) : Bool := decide (n.keys.length = n.vals.length ∧ n.keys.length ≤ 8)
def okPair (p : Int × Int) : Bool := inB p.1 1048575 && inB p.2 1023
def okPairs (l : List (Int × Int)) : Bool := l.all okPair
def Nd.pairs (n : Nd) : List (Int × Int) := n.keys.zip n.vals
def okNode (n : Nd) : Bool := okNode0 n && okPairs n.pairs
def pairBytes (l : List (Int × Int)) : List Nat := l.flatMap fun p => be p.1.toNat 4 ++ be p.2.toNat 2
def nodeHead (n : Nd) : List Nat := be n.leaf.toNat 1 ++ be n.keys.length 1
def nodeBytes (n : Nd) : List Nat := nodeHead n ++ pairBytes n.pairs
def putNode (n : Nd) : Option (List Nat) := if okNode n then some (pad (nodeBytes n) 240) else none
theorem pairBytes_len (l : List (Int × Int)) : (pairBytes l).length = 6 * l.length := by
  unfold pairBytes
  rw [List.length_flatMap]
  simp only [be_len, List.length_append]
  induction l with
  | nil => rfl
  | cons a l ih => simp at ih ⊢; omega
theorem pairBytes_take (l : List (Int × Int)) (k : Nat) (hk : k < l.length) : pairBytes (l.take (k + 1)) = pairBytes (l.take k) ++ (be l[k].1.toNat 4 ++ be l[k].2.toNat 2) := by
  unfold pairBytes
  rw [List.take_succ_eq_append_getElem hk, List.flatMap_append]
  simp
theorem pairBytes_snoc (l : List (Int × Int)) (p : Int × Int) : pairBytes (l ++ [p]) = pairBytes l ++ (be p.1.toNat 4 ++ be p.2.toNat 2) := by simp [pairBytes]
theorem pairBytes_ok (l : List (Int × Int)) : BytesOk (pairBytes l) := fun x hx => by
  obtain ⟨n, _, hn⟩ := List.mem_flatMap.1 hx
  rcases List.mem_append.1 hn with h | h <;> exact be_lt _ _ x h
theorem nodeHead_len (n : Nd) : (nodeHead n).length = 2 := by unfold nodeHead; rw [List.length_append, be_len, be_len]
theorem nodeHead_ok (n : Nd) : BytesOk (nodeHead n) := BytesOk.append (BytesOk.be _ _) (BytesOk.be _ _)
theorem nodeBytes_ok (n : Nd) : BytesOk (nodeBytes n) := BytesOk.append (nodeHead_ok n) (pairBytes_ok _)
theorem okNode0_parts {n : Nd} (h : okNode0 n = true) : n.keys.length = n.vals.length ∧ n.keys.length ≤ 8 := by
  unfold okNode0 at h; simpa only [decide_eq_true_eq] using h
theorem pairs_len {n : Nd} (h : okNode0 n = true) : n.pairs.length = n.keys.length := by
  unfold Nd.pairs; rw [List.length_zip, ← (okNode0_parts h).1, Nat.min_self]
theorem nodeBytes_len {n : Nd} (h : okNode0 n = true) : (nodeBytes n).length = 2 + 6 * n.keys.length := by
  unfold nodeBytes
  rw [List.length_append, nodeHead_len, pairBytes_len, pairs_len h]
theorem pairs_get {n : Nd} {k : Nat} (h1 : k < n.keys.length) (h2 : k < n.vals.length) (h : k < n.pairs.length) : n.pairs[k] = (n.keys[k], n.vals[k]) := by
  unfold Nd.pairs at h ⊢; exact List.getElem_zip
theorem okPairs_not {l : List (Int × Int)} {k : Nat} (hk : k < l.length) (h : okPair l[k] = false) : okPairs l = false := by
  unfold okPairs
  rw [List.all_eq_false]
  exact ⟨l[k], List.getElem_mem hk, by rw [h]; decide⟩
theorem okPairs_of {l : List (Int × Int)} (h : ∀ k (hk : k < l.length), okPair l[k] = true) : okPairs l = true := by
  unfold okPairs
  rw [List.all_eq_true]
  intro x hx
  obtain ⟨k, hk, rfl⟩ := List.mem_iff_getElem.1 hx
  exact h k hk
theorem putNode_not0 {n : Nd} (h : okNode0 n = false) : putNode n = none := by unfold putNode okNode; rw [h, Bool.false_and]; simp
theorem putNode_notp {n : Nd} (h : okPairs n.pairs = false) : putNode n = none := by unfold putNode okNode; rw [h, Bool.and_false]; simp
theorem putNode_some {n : Nd} (h : okNode0 n = true) (h' : okPairs n.pairs = true) : putNode n = some (pad (nodeBytes n) 240) := by unfold putNode okNode; rw [h, h']; simp
theorem okNode_parts {n : Nd} (h : okNode n = true) : okNode0 n = true ∧ okPairs n.pairs = true := by
  unfold okNode at h; simpa only [Bool.and_eq_true] using h

/-- What is read of a body as a node with n keys. -/
def keysOf (l : List Nat) (n : Nat) : List Int := (List.range n).map fun k => numi (seg l (2 + 6 * k) 4)
def valsOf (l : List Nat) (n : Nat) : List Int := (List.range n).map fun k => numi (seg l (6 + 6 * k) 2)
theorem keysOf_len (l : List Nat) (n : Nat) : (keysOf l n).length = n := by unfold keysOf; rw [List.length_map, List.length_range]
theorem valsOf_len (l : List Nat) (n : Nat) : (valsOf l n).length = n := by unfold valsOf; rw [List.length_map, List.length_range]
theorem keysOf_succ (l : List Nat) (n : Nat) : keysOf l (n + 1) = keysOf l n ++ [numi (seg l (2 + 6 * n) 4)] := by unfold keysOf; rw [List.range_succ, List.map_append]; rfl
theorem valsOf_succ (l : List Nat) (n : Nat) : valsOf l (n + 1) = valsOf l n ++ [numi (seg l (6 + 6 * n) 2)] := by unfold valsOf; rw [List.range_succ, List.map_append]; rfl
theorem keysOf_get (l : List Nat) (n k : Nat) (hk : k < (keysOf l n).length) : (keysOf l n)[k] = numi (seg l (2 + 6 * k) 4) := by
  unfold keysOf at hk ⊢; rw [List.getElem_map, List.getElem_range]
theorem valsOf_get (l : List Nat) (n k : Nat) (hk : k < (valsOf l n).length) : (valsOf l n)[k] = numi (seg l (6 + 6 * k) 2) := by
  unfold valsOf at hk ⊢; rw [List.getElem_map, List.getElem_range]
def nodeOf (l : List Nat) (n : Nat) : Nd := ⟨decide (numi (seg l 0 1) = 1), keysOf l n, valsOf l n⟩
theorem nodeOf_pairs_succ (l : List Nat) (n : Nat) : (nodeOf l (n + 1)).pairs = (nodeOf l n).pairs ++ [(numi (seg l (2 + 6 * n) 4), numi (seg l (6 + 6 * n) 2))] := by
  unfold Nd.pairs nodeOf
  simp only
  rw [keysOf_succ, valsOf_succ, List.zip_append (by rw [keysOf_len, valsOf_len])]
  rfl
theorem nodeOf_pairs_len (l : List Nat) (n : Nat) : (nodeOf l n).pairs.length = n := by
  unfold Nd.pairs nodeOf; simp only; rw [List.length_zip, keysOf_len, valsOf_len, Nat.min_self]
theorem nodeOf_pairs_get (l : List Nat) (n k : Nat) (hk : k < (nodeOf l n).pairs.length) : (nodeOf l n).pairs[k] = (numi (seg l (2 + 6 * k) 4), numi (seg l (6 + 6 * k) 2)) := by
  have hk' := hk
  rw [nodeOf_pairs_len] at hk'
  rw [pairs_get (by rw [show (nodeOf l n).keys = keysOf l n from rfl, keysOf_len]; exact hk') (by rw [show (nodeOf l n).vals = valsOf l n from rfl, valsOf_len]; exact hk')]
  exact Prod.ext (keysOf_get _ _ _ _) (valsOf_get _ _ _ _)
theorem nodeOf_ok0 (l : List Nat) (n : Nat) : okNode0 (nodeOf l n) = decide (n ≤ 8) := by
  unfold okNode0 nodeOf; simp only [keysOf_len, valsOf_len, true_and]
def nodeCount (l : List Nat) : Nat := num (seg l 1 1)
/-- As the program reads. -/
def getNode (l : List Nat) : Option Nd :=
  if decide (l.length = 240) && (decide (num (seg l 0 1) ≤ 1) && (okNode (nodeOf l (nodeCount l)) && bare (l.drop (2 + 6 * nodeCount l)))) then some (nodeOf l (nodeCount l)) else none
/-- As the document reads. -/
def refNode (l : List Nat) : Option Nd :=
  if okNode (nodeOf l (min (nodeCount l) 8)) && decide (pad (nodeBytes (nodeOf l (min (nodeCount l) 8))) 240 = l) then some (nodeOf l (min (nodeCount l) 8)) else none
theorem pairBytes_of {l : List Nat} (hb : BytesOk l) (n : Nat) (hl : 2 + 6 * n ≤ l.length) : pairBytes (nodeOf l n).pairs = (l.drop 2).take (6 * n) := by
  induction n with
  | zero => simp [pairBytes, Nd.pairs, nodeOf, keysOf]
  | succ n ih =>
    rw [nodeOf_pairs_succ, pairBytes_snoc, ih (by omega)]
    simp only
    rw [seg_be hb _ 4 (by decide), seg_be hb _ 2 (by decide), seg_eq (by omega), seg_eq (by omega), show 6 * (n + 1) = 6 * n + (4 + 2) by omega, List.take_add, List.take_add, List.drop_drop, List.drop_drop, show 2 + 6 * n + 4 = 6 + 6 * n by omega]
theorem seg_one {l : List Nat} (hb : BytesOk l) (a : Nat) (ha : a < l.length) : be (num (seg l a 1)) 1 = (l.drop a).take 1 := be_seg_num hb (by omega)
theorem nodeHead_of {l : List Nat} (hb : BytesOk l) (hl : 2 ≤ l.length) (h1 : num (seg l 0 1) ≤ 1) : nodeHead (nodeOf l (nodeCount l)) = l.take 2 := by
  unfold nodeHead
  have e1 : (nodeOf l (nodeCount l)).leaf.toNat = num (seg l 0 1) := by
    rw [show (nodeOf l (nodeCount l)).leaf = decide (numi (seg l 0 1) = 1) from rfl, seg_nat hb 0 1 (by decide)]
    by_cases h : num (seg l 0 1) = 1
    · rw [h]; rfl
    · rw [decide_eq_false (by omega)]; show 0 = _; omega
  have e2 : (nodeOf l (nodeCount l)).keys.length = num (seg l 1 1) := keysOf_len _ _
  rw [e1, e2, seg_one hb 0 (by omega), seg_one hb 1 (by omega), show (2 : Nat) = 1 + 1 from rfl, List.take_add, List.drop_zero]
theorem nodeBytes_of {l : List Nat} (hb : BytesOk l) (hl : 2 + 6 * nodeCount l ≤ l.length) (h1 : num (seg l 0 1) ≤ 1) : nodeBytes (nodeOf l (nodeCount l)) = l.take (2 + 6 * nodeCount l) := by
  unfold nodeBytes
  rw [nodeHead_of hb (by omega) h1, pairBytes_of hb _ hl, List.take_add]
theorem nodeBytes_seg {n : Nd} (h : n.keys.length ≤ 8) (q : List Nat) : num (seg (nodeBytes n ++ q) 0 1) = n.leaf.toNat ∧ nodeCount (nodeBytes n ++ q) = n.keys.length := by
  unfold nodeCount nodeBytes nodeHead
  have h256 : (256 : Nat) ^ 1 = 256 := by decide
  constructor
  · rw [List.append_assoc, List.append_assoc, ← List.nil_append (be n.leaf.toNat 1 ++ _), seg_app (by rfl) (be_len _ _), num_be_of_lt]
    cases n.leaf <;> decide
  · rw [List.append_assoc, List.append_assoc, seg_app (be_len _ _) (be_len _ _), num_be_of_lt]
    omega
theorem pad_split (m : List Nat) (n : Nat) : ∃ q, pad m n = m ++ q := ⟨_, rfl⟩
theorem getNode_ref {l : List Nat} (hb : BytesOk l) : getNode l = refNode l := by
  unfold getNode refNode
  by_cases hn : nodeCount l ≤ 8
  · rw [Nat.min_eq_left hn]
    by_cases ho : okNode (nodeOf l (nodeCount l)) = true
    · rw [ho]
      have h0 := (okNode_parts ho).1
      have hkl : (nodeOf l (nodeCount l)).keys.length = nodeCount l := keysOf_len _ _
      have hm : (nodeBytes (nodeOf l (nodeCount l))).length = 2 + 6 * nodeCount l := by rw [nodeBytes_len h0, hkl]
      have hiff := pad_iff (m := nodeBytes (nodeOf l (nodeCount l))) (l := l) (n := 240) (by omega)
      have key : (decide (l.length = 240) && (decide (num (seg l 0 1) ≤ 1) && (true && bare (l.drop (2 + 6 * nodeCount l))))) = (true && decide (pad (nodeBytes (nodeOf l (nodeCount l))) 240 = l)) := by
        rw [Bool.eq_iff_iff]
        simp only [Bool.true_and, Bool.and_eq_true, decide_eq_true_eq, hiff, hm]
        constructor
        · rintro ⟨h1, h2, h3⟩
          exact ⟨h1, (nodeBytes_of hb (by omega) h2).symm, h3⟩
        · rintro ⟨h1, h2, h3⟩
          refine ⟨h1, ?_, h3⟩
          have := (nodeBytes_seg (n := nodeOf l (nodeCount l)) (by omega) (l.drop (2 + 6 * nodeCount l))).1
          rw [← h2, List.take_append_drop] at this
          rw [this]
          cases (nodeOf l (nodeCount l)).leaf <;> decide
      rw [key]
    · rw [Bool.not_eq_true] at ho
      rw [ho]; simp
  · rw [Nat.min_eq_right (by omega)]
    rw [if_neg, if_neg]
    · intro h
      simp only [Bool.and_eq_true, decide_eq_true_eq] at h
      obtain ⟨q, hq⟩ := pad_split (nodeBytes (nodeOf l 8)) 240
      have hkl : (nodeOf l 8).keys.length = 8 := keysOf_len _ _
      have := (nodeBytes_seg (n := nodeOf l 8) (by omega) q).2
      rw [← hq, h.2, hkl] at this
      omega
    · intro h
      simp only [Bool.and_eq_true] at h
      have h5 := (okNode_parts h.2.2.1).1
      rw [nodeOf_ok0, decide_eq_true_eq] at h5
      omega
theorem keysVals_bytes {n : Nd} (ho : okNode n = true) (q : List Nat) : keysOf (nodeBytes n ++ q) n.keys.length = n.keys ∧ valsOf (nodeBytes n ++ q) n.keys.length = n.vals := by
  obtain ⟨h0, h1⟩ := okNode_parts ho
  obtain ⟨he, h8⟩ := okNode0_parts h0
  have hpl := pairs_len h0
  have key : ∀ k (hk : k < n.keys.length) (hv : k < n.vals.length), numi (seg (nodeBytes n ++ q) (2 + 6 * k) 4) = n.keys[k] ∧ numi (seg (nodeBytes n ++ q) (6 + 6 * k) 2) = n.vals[k] := by
    intro k hk hv
    have hkp : k < n.pairs.length := by omega
    have hg := pairs_get hk hv hkp
    have hok : okPair n.pairs[k] = true := List.all_eq_true.1 h1 _ (List.getElem_mem hkp)
    have e1 : pairBytes n.pairs = pairBytes (n.pairs.take k) ++ (be n.pairs[k].1.toNat 4 ++ be n.pairs[k].2.toNat 2) ++ pairBytes (n.pairs.drop (k + 1)) := by
      rw [← pairBytes_take _ k hkp]
      unfold pairBytes
      rw [← List.flatMap_append, List.take_append_drop]
    have hl : (pairBytes (n.pairs.take k)).length = 6 * k := by rw [pairBytes_len, List.length_take, Nat.min_eq_left (by omega)]
    rw [hg] at hok e1
    unfold okPair at hok
    simp only [Bool.and_eq_true] at hok
    simp only at e1
    unfold nodeBytes
    rw [e1]
    constructor
    · rw [show nodeHead n ++ (pairBytes (n.pairs.take k) ++ (be n.keys[k].toNat 4 ++ be n.vals[k].toNat 2) ++ pairBytes (n.pairs.drop (k + 1))) ++ q = (nodeHead n ++ pairBytes (n.pairs.take k)) ++ (be n.keys[k].toNat 4 ++ (be n.vals[k].toNat 2 ++ (pairBytes (n.pairs.drop (k + 1)) ++ q))) by simp only [List.append_assoc], seg_app (by rw [List.length_append, nodeHead_len, hl]) (be_len _ _)]
      exact numi_be hok.1 (by decide) (by decide)
    · rw [show nodeHead n ++ (pairBytes (n.pairs.take k) ++ (be n.keys[k].toNat 4 ++ be n.vals[k].toNat 2) ++ pairBytes (n.pairs.drop (k + 1))) ++ q = (nodeHead n ++ pairBytes (n.pairs.take k) ++ be n.keys[k].toNat 4) ++ (be n.vals[k].toNat 2 ++ (pairBytes (n.pairs.drop (k + 1)) ++ q)) by simp only [List.append_assoc], seg_app (by rw [List.length_append, List.length_append, nodeHead_len, hl, be_len]; omega) (be_len _ _)]
      exact numi_be hok.2 (by decide) (by decide)
  constructor
  · apply List.ext_getElem
    · rw [keysOf_len]
    · intro k k1 k2; rw [keysOf_get]; exact (key k k2 (by omega)).1
  · apply List.ext_getElem
    · rw [valsOf_len]; exact he
    · intro k k1 k2; rw [valsOf_get]; exact (key k (by omega) k2).2
theorem nodeOf_bytes {n : Nd} (ho : okNode n = true) (q : List Nat) (hb : BytesOk (nodeBytes n ++ q)) : nodeOf (nodeBytes n ++ q) n.keys.length = n := by
  obtain ⟨e1, e2⟩ := keysVals_bytes ho q
  have e3 := (nodeBytes_seg (okNode0_parts (okNode_parts ho).1).2 q).1
  unfold nodeOf
  rw [e1, e2, seg_nat hb 0 1 (by decide), e3]
  obtain ⟨b, k, v⟩ := n
  cases b <;> simp
theorem pad_ok {m : List Nat} {n : Nat} (h : BytesOk m) : BytesOk (pad m n) := by
  unfold pad
  refine h.append fun x hx => ?_
  have := List.eq_of_mem_replicate hx
  omega
theorem getNode_put {n : Nd} (ho : okNode n = true) : getNode (pad (nodeBytes n) 240) = some n := by
  have hok := pad_ok (n := 240) (nodeBytes_ok n)
  rw [getNode_ref hok]
  have h5 := (okNode0_parts (okNode_parts ho).1).2
  obtain ⟨q, hq⟩ := pad_split (nodeBytes n) 240
  have hc : nodeCount (pad (nodeBytes n) 240) = n.keys.length := by rw [hq]; exact (nodeBytes_seg h5 q).2
  have e : nodeOf (pad (nodeBytes n) 240) n.keys.length = n := by rw [hq] at hok ⊢; exact nodeOf_bytes ho q hok
  unfold refNode
  rw [hc, Nat.min_eq_left h5, e, ho]; simp
theorem getNode_nil : getNode [] = none := by
  unfold getNode
  rw [if_neg]
  simp
theorem getNode_of_put {n : Nd} : getNode ((putNode n).getD []) = if okNode n then some n else none := by
  unfold putNode
  cases ho : okNode n
  · exact getNode_nil
  · exact getNode_put ho
end Go.Proofs.YtkahpkmofeglgaaDoor
namespace Go.Proofs.YtkahpkmofeglgaaDoor
open Go.RowKit

/-- A node as the program holds it. -/
def nodeV (n : Nd) (v u : Value) : Value := .agg #[.bool n.leaf, v, u]
theorem Upd.cell {S : List Nat} {w w' : World} (h : Upd S w w') {p : Addr} {v : Value} (hc : w.cell? p = some v) (hs : p.block ∉ S) : w'.cell? p = some v := by
  rw [World.cell?_of_block (h.block p.block (World.block_lt_of_cell? _ _ hc) hs)]; exact hc
theorem okNode0_cases (n : Nd) : (okNode0 n = true ∧ ((n.keys.length : Int) != (n.vals.length : Int)) = false ∧ decide (8 < (n.keys.length : Int)) = false) ∨
    (okNode0 n = false ∧ (((n.keys.length : Int) != (n.vals.length : Int)) = true ∨ (((n.keys.length : Int) != (n.vals.length : Int)) = false ∧ decide (8 < (n.keys.length : Int)) = true))) := by
  unfold okNode0
  by_cases h1 : n.keys.length = n.vals.length
  · by_cases h2 : 8 < n.keys.length
    · exact .inr ⟨decide_eq_false (by omega), .inr ⟨by rw [h1]; simp, decide_eq_true (by omega)⟩⟩
    · exact .inl ⟨decide_eq_true (by omega), by rw [h1]; simp, decide_eq_false (by omega)⟩
  · exact .inr ⟨decide_eq_false (by omega), .inl (by rw [bne_iff_ne]; omega)⟩
set_option maxRecDepth 100000 in
set_option maxHeartbeats 1600000 in
theorem putNode_no {w : World} {a a' : Option Addr} {cap cap' : Nat} (n : Nd) (ho : okNode0 n = false) (hl : n.keys.length ≤ 9223372036854775807) (hl' : n.vals.length ≤ 9223372036854775807) :
    Calls Tryd.prog 35 #[nodeV n (.slice a n.keys.length cap) (.slice a' n.vals.length cap')] w fun e w' => PutOut w.heap.size (putNode n) e w' ∧ Upd [] w w' := by
  rw [putNode_not0 ho]
  obtain ⟨lf, ks, vs⟩ := n
  unfold nodeV
  simp only at hl hl' ⊢
  rcases okNode0_cases ⟨lf, ks, vs⟩ with ⟨h1, _⟩ | ⟨_, h1⟩
  · rw [ho] at h1; cases h1
  simp only at h1
  clear ho
  rcases h1 with h1 | ⟨h1, h2⟩
  all_goals
    go_enter Tryd.func35, Tryd.ntmps35
    go_wp2
    go_ret2
    exact ⟨PutOut.no _ _, (Upd.refl [] w).alloc _⟩
set_option maxRecDepth 100000 in
set_option maxHeartbeats 6400000 in
theorem putNode_yes {w : World} {a a' : Option Addr} {cap cap' : Nat} {n : Nd} (hb : IsInts w a n.keys) (hb' : IsInts w a' n.vals) (ho : okNode0 n = true) :
    Calls Tryd.prog 35 #[nodeV n (.slice a n.keys.length cap) (.slice a' n.vals.length cap')] w fun e w' => PutOut w.heap.size (putNode n) e w' ∧ Upd [] w w' := by
  rcases okNode0_cases n with ⟨_, d1, d2⟩ | ⟨h1, _⟩
  rotate_left
  · rw [ho] at h1; cases h1
  obtain ⟨hkv, hl8⟩ := okNode0_parts ho
  have hpl := pairs_len ho
  have hps := fun hp => putNode_some (n := n) ho hp
  have hpn := fun k hk hp => putNode_notp (n := n) (okPairs_not (k := k) hk hp)
  have hpg := fun k h1 h2 h => pairs_get (n := n) (k := k) h1 h2 h
  have hhl := nodeHead_len n
  have hnb : nodeHead n = be n.leaf.toNat 1 ++ be n.keys.length 1 := rfl
  unfold nodeBytes at hps
  generalize putNode n = R at hps hpn ⊢
  generalize nodeHead n = N at hps hhl hnb
  generalize n.pairs = P at hpl hps hpn hpg
  clear ho
  obtain ⟨lf, ks, vs⟩ := n
  simp only at d1 d2 hkv hl8 hpl hpg hnb hb hb'
  unfold nodeV
  simp only
  rw [← hkv] at d1 ⊢
  have HKV := Lib.hid hkv
  clear hkv
  have HPS := Lib.hid hps
  have HPN := Lib.hid hpn
  have HPG := Lib.hid hpg
  have HHL := Lib.hid hhl
  have HNB := Lib.hid hnb
  have HPL := Lib.hid hpl
  have HB := Lib.hid hb
  have HB' := Lib.hid hb'
  clear hps hpn hpg hhl hnb hpl hb hb'
  have hC0 := ((Upd.refl [] _).alloc (.cells Tryd.zeroCells107 107)).get (heap_alloc_new w (.cells #[.bool lf, .slice a ks.length cap, .slice a' ks.length cap'] 67)) (by simp)
  have hW0 := isW_made (w.alloc (.cells #[.bool lf, .slice a ks.length cap, .slice a' ks.length cap'] 67))
  rw [show (w.alloc (.cells #[.bool lf, .slice a ks.length cap, .slice a' ks.length cap'] 67)).heap.size = w.heap.size + 1 by simp] at hW0
  have HC0 := Lib.hid hC0
  have HW0 := Lib.hid hW0
  have hcells : ∀ w' : World, w'.heap[w.heap.size]? = some (.cells #[.bool lf, .slice a ks.length cap, .slice a' ks.length cap'] 67 (0, 0)) → w'.cell? ⟨w.heap.size, 1, none⟩ = some (.slice a ks.length cap) ∧ w'.cell? ⟨w.heap.size, 2, none⟩ = some (.slice a' ks.length cap') := fun w' hx => by
    obtain ⟨k, _⟩ := cells_of hx
    exact ⟨k 1, k 2⟩
  have HCE := Lib.hid hcells
  have HUA := Lib.hid (show Upd [] w _ from ((Upd.refl [] w).alloc (.cells #[.bool lf, .slice a ks.length cap, .slice a' ks.length cap'] 67)).alloc (.cells Tryd.zeroCells107 107))
  clear hC0 hW0 hcells
  have HPUT := Lib.hid (put_any (n := lf.toNat) (k := 1) HW0.out (by decide) (by cases lf <;> decide) (by decide))
  cases lf
  all_goals
    simp only [Bool.toNat_false, Bool.toNat_true, Int.ofNat_zero, Int.ofNat_one] at HPUT
    go_enter Tryd.func35, Tryd.ntmps35
    go_wp2_with fail
    refine HPUT.out.mono ?_
    rintro e w1 ⟨rfl, g1, u1⟩
    have HC1 := Lib.hid (u1.get HC0.out (by simp))
    have G1 := Lib.hid g1
    have U1 := Lib.hid (HUA.out.step u1 (fun x hx => .inr (by simp at hx; omega)))
    clear g1 u1
    obtain ⟨q1, q2⟩ := HCE.out _ HC1.out
    go_wp2_with fail
    refine (put_any (n := ks.length) (k := 1) G1.out (by decide) (by omega) (by simp [be_len])).mono ?_
    rintro e w2 ⟨rfl, g2, u2⟩
    have HC2 := Lib.hid (u2.get HC1.out (by simp))
    have hg2 : IsW w2 (w.heap.size + 1) (N ++ pairBytes (P.take 0)) := by
      rw [HNB.out, List.take_zero, show pairBytes [] = [] from rfl, List.append_nil]; exact g2
    have G2 := Lib.hid hg2
    have U2 := Lib.hid (U1.out.step u2 (fun x hx => .inr (by simp at hx; omega)))
    clear g2 hg2 u2 HC1 G1 q1 q2
    obtain ⟨q1, q2⟩ := HCE.out _ HC2.out
    go_wp2
    go_loopw [32] (fun i wr => ∃ k : Nat, k ≤ ks.length ∧ i = .int .i64 k ∧ (∀ j (_ : j < k) (h7 : j < P.length), okPair P[j] = true) ∧ IsW wr (w.heap.size + 1) (N ++ pairBytes (P.take k)) ∧ wr.heap[w.heap.size]? = w2.heap[w.heap.size]? ∧ Upd [] w wr) (fun i _ => ks.length - (intOf i).toNat)
    case atStart => exact ⟨0, by omega, rfl, fun j hj => absurd hj (by omega), G2.out, rfl, U2.out⟩
    case round =>
      obtain ⟨k, hk, rfl, hin, hW, hX, hU⟩ := hrel
      rw [HC2.out] at hX
      clear q1 q2
      obtain ⟨q1, q2⟩ := HCE.out _ hX
      have HX := Lib.hid hX
      have HIN := Lib.hid hin
      have HWR := Lib.hid hW
      have HU := Lib.hid hU
      clear hin hW hU hX
      by_cases hlt7 : k < ks.length
      · have hkp : k < P.length := by have := HPL.out; omega
        obtain ⟨b, o, rfl, hc⟩ := (HB.out.upd HU.out (by simp)) k hlt7
        have hkv7 : k < vs.length := by have := HKV.out; omega
        obtain ⟨b', o', rfl, hc'⟩ := (HB'.out.upd HU.out (by simp)) k hkv7
        have HSS := Lib.hid (pairBytes_take P k hkp)
        have HL := Lib.hid (show (N ++ pairBytes (P.take k)).length = 2 + 6 * k by rw [List.length_append, HHL.out, pairBytes_len, List.length_take]; omega)
        have HN := Lib.hid (HPN.out k hkp)
        have hpk := HPG.out k hlt7 hkv7 hkp
        have hbw : b' < w.heap.size := HB'.out.lt (by have := HKV.out; omega) b' o' rfl
        rw [hpk] at HSS HN
        generalize ks[k] = x at hc HSS HN hpk
        generalize vs[k] = y at hc' HSS HN hpk
        have HPK := Lib.hid hpk
        have HBW := Lib.hid hbw
        clear hpk hbw
        unfold okPair at HN
        simp only at HN HSS
        cases hI : inB x 1048575
        · go_wp2_with (go_at_call 52; refine (in_b _ _ _).mono ?_; rintro e w' ⟨rfl, rfl⟩)
          go_ret2
          rw [HN.out (by rw [hI]; rfl)]
          exact ⟨PutOut.no _ _, HU.out⟩
        · cases hJ : inB y 1023
          · go_wp2_with (go_at_call 52; refine (in_b _ _ _).mono ?_; rintro e w' ⟨rfl, rfl⟩)
            go_ret2
            rw [HN.out (by rw [hI, hJ]; rfl)]
            exact ⟨PutOut.no _ _, HU.out⟩
          · obtain ⟨m, rfl⟩ := Int.eq_ofNat_of_zero_le (inB_true.1 hI).1
            have hm := (inB_true.1 hI).2
            obtain ⟨m', rfl⟩ := Int.eq_ofNat_of_zero_le (inB_true.1 hJ).1
            have hm' := (inB_true.1 hJ).2
            go_wp2_with (go_at_call 52; refine (in_b _ _ _).mono ?_; rintro e w' ⟨rfl, rfl⟩)
            refine (put_any (k := 4) HWR.out (by decide) (by omega) (by rw [HL.out]; omega)).mono ?_
            rintro e w6 ⟨rfl, h6, u6⟩
            have hc6 := u6.cell hc' (by have := HBW.out; simp; omega)
            have hx6 := u6.get HX.out (by simp)
            have HX6 := Lib.hid hx6
            have H6 := Lib.hid h6
            have U6 := Lib.hid (HU.out.step u6 (fun x hx => .inr (by simp at hx; omega)))
            clear h6 u6 hx6 q1 q2 hc hc'
            obtain ⟨q1, q2⟩ := HCE.out _ HX6.out
            go_wp2_with fail
            refine (put_any (k := 2) H6.out (by decide) (by omega) (by rw [List.length_append, HL.out, be_len]; omega)).mono ?_
            rintro e w7 ⟨rfl, h7, u7⟩
            have HX7 := Lib.hid (u7.get HX6.out (by simp))
            have H7 := Lib.hid h7
            have U7 := Lib.hid (U6.out.step u7 (fun x hx => .inr (by simp at hx; omega)))
            clear h7 u7 q1 q2 hc6
            go_wp2
            go_roundw
            case rel =>
              refine ⟨k + 1, by omega, by go_num, fun j hj h7 => ?_, by rw [HSS.out, ← List.append_assoc, ← List.append_assoc]; exact H7.out, by rw [HX7.out, HC2.out], U7.out⟩
              by_cases e : j = k
              · subst e; rw [HPK.out]; unfold okPair; rw [hI, hJ]; rfl
              · exact HIN.out j (by omega) h7
            case measure => simp [intOf]; omega
      · obtain rfl : k = ks.length := by omega
        have HO := Lib.hid (HPS.out (okPairs_of fun k hk => HIN.out k (by have := HPL.out; omega) hk))
        have hWf := HWR.out
        rw [List.take_of_length_le (by rw [HPL.out]; exact Nat.le_refl _)] at hWf
        have HWF := Lib.hid hWf
        have HLE := Lib.hid (show (N ++ pairBytes P).length ≤ 240 by rw [List.length_append, HHL.out, pairBytes_len, HPL.out]; omega)
        clear hWf
        go_wp2_with (go_at_call 64; refine (body_any HWF.out HLE.out).mono ?_; rintro e w2 ⟨rfl, rfl, h2⟩; have H2 := Lib.hid h2; clear h2)
        go_ret2
        rw [HO.out]
        exact ⟨PutOut.yes (H2.out.ret (by omega) (pad_len HLE.out) (by decide)), HU.out⟩
end Go.Proofs.YtkahpkmofeglgaaDoor
