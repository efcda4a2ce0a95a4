/-
  PROVED HERE: the walk of the statement CodecOwn returns true. Conditions: the image's body and the node's lists can be read.
-/
import Derived.Test.YtkahpkmofeglgaaDoorLawErrors
import Derived.Test.YtkahpkmofeglgaaDoorLawNode
import Derived.Test.YtkahpkmofeglgaaDoorReadPage
namespace Go.Proofs.YtkahpkmofeglgaaDoor
open Go.RowKit

/-- n cells from a on, in a block at B or beyond, hold integers of kind k, and may be written. -/
def Free (w : World) (B : Nat) (k : IntKind) (a : Option Addr) (n : Nat) : Prop :=
  (a = none ∧ n = 0) ∨ ∃ b cs t, a = some ⟨b, 0, none⟩ ∧ B ≤ b ∧ w.heap[b]? = some (.cells cs t (0, 0)) ∧ ∀ i, i < n → ∃ x : Int, cs[i]? = some (.int k x)
theorem Free.cell {w : World} {B n : Nat} {k : IntKind} {a : Option Addr} (h : Free w B k a n) {i : Nat} (hi : i < n) : ∃ b x, a = some ⟨b, 0, none⟩ ∧ B ≤ b ∧ w.cell? ⟨b, i, none⟩ = some (.int k x) ∧ w.frozen? ⟨b, i, none⟩ = false := by
  rcases h with ⟨_, h⟩ | ⟨b, cs, t, ha, hB, hb, hc⟩
  · omega
  · obtain ⟨x, hx⟩ := hc i hi
    exact ⟨b, x, ha, hB, by rw [(cells_of hb).1]; exact hx, (cells_of hb).2 i⟩
theorem Free.set {w : World} {B n b : Nat} {k : IntKind} (h : Free w B k (some ⟨b, 0, none⟩) n) (i : Nat) (y : Int) : Free (w.setCell ⟨b, i, none⟩ (.int k y)) B k (some ⟨b, 0, none⟩) n := by
  rcases h with ⟨h, _⟩ | ⟨b', cs, t, ha, hB, hb, hc⟩
  · cases h
  · obtain rfl : b = b' := by simpa using ha
    refine .inr ⟨b, _, t, rfl, hB, heap_setCell_same w b i cs _ _ hb, fun j hj => ?_⟩
    obtain ⟨x, hx⟩ := hc j hj
    rw [Array.getElem?_setIfInBounds]
    by_cases e : i = j
    · subst e
      have : i < cs.size := (Array.getElem?_eq_some_iff.1 hx).1
      exact ⟨y, by rw [if_pos rfl, if_pos this]⟩
    · exact ⟨x, by rw [if_neg e]; exact hx⟩
theorem Free.upd {w w' : World} {B n : Nat} {k : IntKind} {a : Option Addr} {S : List Nat} (h : Free w B k a n) (u : Upd S w w') (hs : ∀ b, a = some ⟨b, 0, none⟩ → b ∉ S) : Free w' B k a n := by
  rcases h with h | ⟨b, cs, t, ha, hB, hb, hc⟩
  · exact .inl h
  · exact .inr ⟨b, cs, t, ha, hB, u.get hb (hs b ha), hc⟩
theorem Free.blocks {w : World} {B n : Nat} {k : IntKind} {a : Option Addr} (h : Free w B k a n) : ∀ y ∈ a.toList.map (·.block), a = some ⟨y, 0, none⟩ := fun y hy => by
  rcases h with ⟨rfl, _⟩ | ⟨b, cs, t, rfl, _⟩
  · simp at hy
  · simp at hy; subst hy; rfl
theorem IsRet.le {w : World} {B : Nat} {v : Value} {l : List Nat} (h : IsRet w B v l) : l.length ≤ 9223372036854775807 := by
  obtain ⟨a, c, _, _, _, h1, h2⟩ := h.slice
  omega
theorem Free.base {w : World} {B C n : Nat} {k : IntKind} {a : Option Addr} (h : Free w B k a n) (hC : C ≤ B) : Free w C k a n := by
  rcases h with h | ⟨b, cs, t, ha, hB, r⟩
  · exact .inl h
  · exact .inr ⟨b, cs, t, ha, Nat.le_trans hC hB, r⟩
theorem IsRow.free {w : World} {B : Nat} {v : Value} {l : List Nat} (h : IsRow w B v l) : ∃ a cap, v = .slice a l.length cap ∧ Free w B .u8 a l.length ∧ l.length ≤ 9223372036854775807 ∧ ∀ b, a = some ⟨b, 0, none⟩ → B ≤ b ∧ b < w.heap.size := by
  obtain ⟨⟨hl, ⟨rfl, h0⟩ | ⟨g, cap, cur, rfl, hg, hb, hc, hm, hs, ht⟩⟩, ok⟩ := h
  · exact ⟨none, 0, by rw [h0], .inl ⟨rfl, h0⟩, by omega, by rintro b ⟨⟩⟩
  · refine ⟨_, cap, rfl, .inr ⟨g, cur, _, rfl, hg, hb, fun i hi => ⟨(l[i] : Nat), ?_⟩⟩, by unfold maxLen at hm; omega, by rintro b ⟨⟩; exact ⟨hg, lt_of_block hb⟩⟩
    have e : (cur.toList.take (l.length * 1))[i]? = (u8s l)[i]? := by rw [ht]
    rw [List.getElem?_take_of_lt (by omega), u8s_get, List.getElem?_eq_getElem hi] at e
    simpa using e
theorem IntsOut.free {w : World} {B : Nat} {v : Value} {l : List Int} (h : IntsOut w B v l) : ∃ a cap, v = .slice a l.length cap ∧ Free w B .i64 a l.length ∧ l.length ≤ 9223372036854775807 ∧ ∀ b, a = some ⟨b, 0, none⟩ → B ≤ b ∧ b < w.heap.size ∧ b ∈ v.ownBlock.toList := by
  obtain ⟨hl, ⟨rfl, h0⟩ | ⟨g, cap, cur, rfl, hg, hb, hc, hm, hs, ht⟩⟩ := h
  · exact ⟨none, 0, by rw [h0], .inl ⟨rfl, h0⟩, by omega, by rintro b ⟨⟩⟩
  · refine ⟨_, cap, rfl, .inr ⟨g, cur, _, rfl, hg, hb, fun i hi => ⟨l[i], ?_⟩⟩, by unfold maxLen at hm; omega, by rintro b ⟨⟩; exact ⟨hg, lt_of_block hb, by simp [Value.ownBlock]⟩⟩
    have e : (cur.toList.take (l.length * 1))[i]? = (i64s l)[i]? := by rw [ht]
    rw [List.getElem?_take_of_lt (by omega), i64s_get, List.getElem?_eq_getElem hi] at e
    simpa using e
theorem getPage_any_own {w : World} {t : Nat} {a : Option Addr} {l : List Nat} {cap : Nat} (m : Int) (ht : TabOk w t) (hb : IsBytes w a l) (hsep : ∀ b o, a = some ⟨b, o, none⟩ → b ≠ t) (hc : l.length ≤ cap) (hm : cap ≤ 9223372036854775807) :
    Calls Tryd.prog 30 #[pt t, .slice a l.length cap, .int .i64 m] w fun e w' => PageOwn w.heap.size (getPage l m) e w' ∧ TabOk w' t ∧ Upd [t] w w' := by
  cases hz : decide (l = zero256)
  · cases hs : soundL l [80, 80, 65, 71]
    · have hg : getPage l m = none := by
        unfold getPage
        rw [hz, hs, Bool.false_and]
        simp only [Bool.false_eq_true, if_false]
      rw [hg]
      exact getPage_unsound_own m ht hb hsep hc hm hz hs
    · exact getPage_sound_own m ht hb hsep hc hm hz hs
  · have hg : getPage l m = some (0, []) := by rw [of_decide_eq_true hz]; exact getPage_zero m
    rw [hg]
    exact (getPage_zeros_own m hb hz).mono fun e w' h => ⟨h.1, ht.upd h.2 (by simp), h.2.mono (by simp)⟩
/-- What a page is read as, whose body may be written. -/
def PageFree (B : Nat) (e : Ending) (w' : World) : Prop := ∃ k a n c ok, e = .returned (.tuple #[.agg #[.int .i64 k, .slice a n c], .bool ok]) ∧ Free w' B .u8 a n ∧ n ≤ 9223372036854775807 ∧ ∀ b, a = some ⟨b, 0, none⟩ → B ≤ b ∧ b < w'.heap.size
theorem getPage_free {w : World} {t B : Nat} {v : Value} {l : List Nat} (m : Int) (ht : TabOk w t) (h : IsRet w B v l) (hB : t < B) :
    Calls Tryd.prog 30 #[pt t, v, .int .i64 m] w fun e w' => PageFree w.heap.size e w' ∧ TabOk w' t ∧ Upd [t] w w' := by
  obtain ⟨a, c, rfl, hb, hB', hc, hm⟩ := h.slice
  refine (getPage_any_own m ht hb (fun b o e => by have := hB' b o e; omega) hc hm).mono fun e w' ⟨⟨v, he, hv⟩, h2, h3⟩ => ⟨?_, h2, h3⟩
  obtain ⟨a', c', rfl, hf, hl, hlow⟩ := hv.free
  exact ⟨_, a', _, c', _, he, hf, hl, hlow⟩
/-- What a node is read as, whose lists may be written. -/
def NodeFree (B : Nat) (e : Ending) (w' : World) : Prop := ∃ lf a a' n c c' ok, e = .returned (.tuple #[.agg #[.bool lf, .slice a n c, .slice a' n c'], .bool ok]) ∧ Free w' B .i64 a n ∧ Free w' B .i64 a' n ∧ n ≤ 9223372036854775807 ∧
  (∀ b, a = some ⟨b, 0, none⟩ → B ≤ b ∧ b < w'.heap.size ∧ a' ≠ some ⟨b, 0, none⟩) ∧ ∀ b, a' = some ⟨b, 0, none⟩ → B ≤ b ∧ b < w'.heap.size
theorem getNode_lens (l : List Nat) : ((getNode l).getD nd0).keys.length = ((getNode l).getD nd0).vals.length := by
  unfold getNode
  split
  · rename_i h
    simp only [Bool.and_eq_true] at h
    exact (okNode0_parts (okNode_parts h.2.2.1).1).1
  · rfl
theorem getNode_free {w : World} {B : Nat} {v : Value} {l : List Nat} (h : IsRet w B v l) :
    Calls Tryd.prog 37 #[v] w fun e w' => NodeFree w.heap.size e w' ∧ Upd [] w w' := by
  refine (getNode_ret h).mono fun e w' ⟨⟨v, u, he, hv, hu, hd⟩, h2⟩ => ⟨?_, h2⟩
  have hlen := getNode_lens l
  obtain ⟨a, c, rfl, hf, hl, hlow⟩ := hv.free
  obtain ⟨a', c', rfl, hf', hl', hlow'⟩ := hu.free
  rw [← hlen] at hf' he
  refine ⟨_, a, a', _, c, c', _, he, hf, hf', hl, fun b hb => ⟨(hlow b hb).1, (hlow b hb).2.1, fun e' => ?_⟩, fun b hb => ⟨(hlow' b hb).1, (hlow' b hb).2.1⟩⟩
  exact hd b (hlow b hb).2.2 (by subst e'; simp [Value.ownBlock])
/-- What PutPage hands back may be written. -/
def PutFree (B : Nat) (o : Option (List Nat)) (e : Ending) (w' : World) : Prop := ∃ a n c, e = .returned (.tuple #[.slice a n c, .int .i64 (if o.isSome then 0 else 1)]) ∧ IsRet w' B (.slice a n c) (o.getD []) ∧ Free w' B .u8 a n ∧ n = (o.getD []).length ∧ ∀ b, a = some ⟨b, 0, none⟩ → B ≤ b ∧ b < w'.heap.size
theorem putPage_free {t : Nat} {w : World} {a : Option Addr} {cap : Nat} {x : Img} (ht : TabOk w t) (hb : IsBytes w a x.body) (hl : x.body.length ≤ 9223372036854775807) :
    Calls Tryd.prog 28 #[pt t, imgV x (.slice a x.body.length cap)] w fun e w' => PutFree w.heap.size (putPage x) e w' ∧ TabOk w' t ∧ Upd [t] w w' := by
  cases ho : okImg x
  · rw [show putPage x = none by unfold putPage; rw [ho]; rfl]
    exact (putPage_no (t := some ⟨t, 0, none⟩) x (.inr ⟨t, rfl, ho⟩) hl).mono fun e w' ⟨h1, h2⟩ => by
      subst h1
      exact ⟨⟨none, 0, 0, rfl, IsRet.nil _ _, .inl ⟨rfl, rfl⟩, rfl, by rintro b ⟨⟩⟩, ht.upd h2 (by simp), h2.mono (by simp)⟩
  · rw [show putPage x = some (frame (pageBytes x)) by unfold putPage; rw [ho]; rfl]
    refine (putPage_yes ht hb ho).mono fun e w' ⟨⟨b, h1, h2, h3⟩, h4, h5⟩ => ?_
    subst h1
    have h256 : (frame (pageBytes x)).length = 256 := frame_len (by rw [pageBytes_len, (okImg_parts ho).2.2.2.2]; decide)
    have hr := h3.ret h2 h256 (by decide)
    obtain ⟨⟨cs, ty, hbk, hi⟩, _⟩ := h3
    exact ⟨⟨_, 256, 256, rfl, hr, .inr ⟨b, cs, ty, rfl, h2, hbk, fun i hi' => ⟨_, hi i (by rw [h256]; exact hi')⟩⟩, h256.symm, by rintro b' ⟨⟩; exact ⟨h2, lt_of_block hbk⟩⟩, h4, h5⟩
theorem two_blocks (w : World) (o0 o1 : Obj) : (((w.alloc o0).alloc o1).heap[w.heap.size]? = some o0 ∧ ((w.alloc o0).alloc o1).heap[w.heap.size + 1]? = some o1) := by
  have h1 := heap_alloc_new (w.alloc o0) o1
  simp only [alloc_size] at h1
  exact ⟨((Upd.refl [] _).alloc o1).get (heap_alloc_new w o0) (by simp), h1⟩
set_option maxRecDepth 100000 in
set_option maxHeartbeats 6400000 in
theorem codecOwn_any {w : World} {xa ka va : Option Addr} {xc kc vc : Nat} (x : Img) (n : Nd) (hx : IsBytes w xa x.body) (hk : IsInts w ka n.keys) (hv : IsInts w va n.vals) (lx : x.body.length ≤ 9223372036854775807) (lk : n.keys.length ≤ 9223372036854775807) (lv : n.vals.length ≤ 9223372036854775807) :
    Calls Tryd.prog 12 #[.agg #[.int .i64 x.num, .int .i64 x.kind, .slice xa x.body.length xc], .agg #[.bool n.leaf, .slice ka n.keys.length kc, .slice va n.vals.length vc]] w fun e w' => e = .returned (.bool true) ∧ Upd [] w w' := by
  obtain ⟨b0, b1⟩ := two_blocks w (.cells #[.int .i64 x.num, .int .i64 x.kind, .slice xa x.body.length xc] 39) (.cells #[.bool n.leaf, .slice ka n.keys.length kc, .slice va n.vals.length vc] 67)
  have hu0 : Upd [] w ((w.alloc (.cells #[.int .i64 x.num, .int .i64 x.kind, .slice xa x.body.length xc] 39)).alloc (.cells #[.bool n.leaf, .slice ka n.keys.length kc, .slice va n.vals.length vc] 67)) := ((Upd.refl [] w).alloc _).alloc _
  obtain ⟨W, hW⟩ : ∃ W, ((w.alloc (.cells #[.int .i64 x.num, .int .i64 x.kind, .slice xa x.body.length xc] 39)).alloc (.cells #[.bool n.leaf, .slice ka n.keys.length kc, .slice va n.vals.length vc] 67)) = W := ⟨_, rfl⟩
  rw [hW] at hu0 b0 b1
  have hsz : w.heap.size + 2 = W.heap.size := by rw [← hW]; simp
  have K0 : Hid (∀ w', Upd [] W w' → w'.heap[w.heap.size]? = some (.cells #[.int .i64 x.num, .int .i64 x.kind, .slice xa x.body.length xc] 39 (0, 0))) := fun w' u => u.get b0 (by simp)
  have K1 : Hid (∀ w', Upd [] W w' → w'.heap[w.heap.size + 1]? = some (.cells #[.bool n.leaf, .slice ka n.keys.length kc, .slice va n.vals.length vc] 67 (0, 0))) := fun w' u => u.get b1 (by simp)
  have HX : Hid (∀ w', Upd [] W w' → IsBytes w' xa x.body) := fun w' u => hx.upd (hu0.trans u) (by simp)
  have HK : Hid (∀ w', Upd [] W w' → IsInts w' ka n.keys) := fun w' u => hk.upd (hu0.trans u) (by simp)
  have HV : Hid (∀ w', Upd [] W w' → IsInts w' va n.vals) := fun w' u => hv.upd (hu0.trans u) (by simp)
  have HU0 := Lib.hid hu0
  have HSZ := Lib.hid hsz
  have HWE := Lib.hid hW
  have LX := Lib.hid lx
  have LK := Lib.hid lk
  have LV := Lib.hid lv
  clear b0 b1 hu0 hW hsz hx hk hv lx lk lv
  go_enter Tryd.func12, Tryd.ntmps12
  go_wp2_with fail
  rw [HWE.out]
  refine (new_any _).mono ?_
  rintro en w1 ⟨t, rfl, htB, ht1, u1⟩
  have htw := HSZ.out
  have HT1 := Lib.hid ht1
  have U1 := Lib.hid u1
  clear ht1 u1 HWE
  go_wp2_with fail
  refine (known_any HT1.out).mono ?_
  rintro en w2 ⟨rfl, ht2, u2⟩
  have HT2 := Lib.hid ht2
  have U2 := Lib.hid (U1.out.step u2 (fun x hx => .inr (by simp at hx; omega)))
  clear ht2 u2 HT1
  have hx := K0.out _ U2.out
  go_wp2_with (refine wpList_load_all rfl 39 (.tmp 2) rfl (w.heap.size) 3 rfl _ _ _ _ hx Tryd.underlying39 rfl infoImage rfl ?_)
  refine (putPage_free (x := x) (cap := xc) HT2.out (HX.out _ U2.out) LX.out).mono ?_
  rintro en w3 ⟨⟨a3, n3, c3, rfl, r3, f3, e3, l3⟩, ht, u⟩
  obtain ⟨E3, hE3⟩ : ∃ E, (if (putPage x).isSome = true then (0 : Int) else 1) = E := ⟨_, rfl⟩
  rw [hE3]
  have HE3 := Lib.hid hE3
  have HT3 := Lib.hid ht
  have U3 := Lib.hid (U2.out.step u (fun x hx => .inr (by simp at hx; omega)))
  have R3 := Lib.hid r3
  have F3 := Lib.hid f3
  have L3 := Lib.hid l3
  have EL3 := Lib.hid e3
  have hs2 := HT2.out.lt
  clear ht u hx hE3 r3 f3 e3 l3
  have hx := K1.out _ U3.out
  go_wp2_with (refine wpList_load_all rfl 67 (.tmp 3) rfl (w.heap.size + 1) 3 rfl _ _ _ _ hx Tryd.underlying67 rfl infoNode rfl ?_)
  refine (putNode_any (n := n) (cap := kc) (cap' := vc) (HK.out _ U3.out) (HV.out _ U3.out) LK.out LV.out).mono ?_
  rintro en w4 ⟨⟨v4, rfl, hv⟩, u⟩
  obtain ⟨E4, hE4⟩ : ∃ E, (if (putNode n).isSome = true then (0 : Int) else 1) = E := ⟨_, rfl⟩
  rw [hE4]
  have HE4 := Lib.hid hE4
  have HT4 := Lib.hid (HT3.out.upd u (by simp))
  have U4 := Lib.hid (U3.out.trans u)
  have R34 := Lib.hid (R3.out.upd u (by simp))
  have F34 := Lib.hid (F3.out.upd u (by simp))
  have V4 := Lib.hid hv
  have hs3 := U3.out.size
  have hs34 := u.size
  clear u hx hE4 hv R3 F3
  have hx := K0.out _ U4.out
  go_wp2_with (refine wpList_load_all rfl 39 (.tmp 2) rfl (w.heap.size) 3 rfl _ _ _ _ hx Tryd.underlying39 rfl infoImage rfl ?_)
  refine (rputPage_any (x := x) (cap := xc) (HX.out _ U4.out) LX.out).mono ?_
  rintro en w5 ⟨⟨v5, rfl, hv⟩, u⟩
  rw [HE3.out]
  have HT5 := Lib.hid (HT4.out.upd u (by simp))
  have U5 := Lib.hid (U4.out.trans u)
  have R35 := Lib.hid (R34.out.upd u (by simp))
  have F35 := Lib.hid (F34.out.upd u (by simp))
  have V45 := Lib.hid (V4.out.upd u (by simp))
  have V5 := Lib.hid hv
  have hs4 := U4.out.size
  have hs45 := u.size
  clear u hx hv R34 F34 V4
  have hx := K1.out _ U5.out
  go_wp2_with (refine wpList_load_all rfl 67 (.tmp 3) rfl (w.heap.size + 1) 3 rfl _ _ _ _ hx Tryd.underlying67 rfl infoNode rfl ?_)
  refine (rputNode_any (n := n) (cap := kc) (cap' := vc) (HK.out _ U5.out) (HV.out _ U5.out) LK.out LV.out).mono ?_
  rintro en w6 ⟨⟨v6, rfl, hv⟩, u⟩
  rw [HE4.out]
  have HT6 := Lib.hid (HT5.out.upd u (by simp))
  have U6 := Lib.hid (U5.out.trans u)
  have R36 := Lib.hid (R35.out.upd u (by simp))
  have F36 := Lib.hid (F35.out.upd u (by simp))
  have V46 := Lib.hid (V45.out.upd u (by simp))
  have V56 := Lib.hid (V5.out.upd u (by simp))
  have V6 := Lib.hid hv
  have hs5 := U5.out.size
  clear u hx hv R35 F35 V45 V5 HE3 HE4
  have htw2 : W.heap.size ≤ t := by omega
  have ht3 := HT3.out.lt
  have hl3 : ∀ b, a3 = some ⟨b, 0, none⟩ → t < b := fun b hb => by have := (L3.out b hb).1; omega
  have HL3 := Lib.hid hl3
  -- what holds at the head of every round, out of the one fact that nothing but the table has turned
  have HRD : Hid (∀ w', Upd [t] w6 w' → IsRet w' (t + 1) (.slice a3 n3 c3) ((putPage x).getD []) ∧ IsRet w' (t + 1) v4 ((putNode n).getD []) ∧ IsRet w' w3.heap.size v5 ((putPage x).getD []) ∧ IsRet w' (t + 1) v6 ((putNode n).getD []) ∧ Free w' (t + 1) .u8 a3 n3) := fun w' u =>
    ⟨(R36.out.base (by omega)).upd u (by simp), (V46.out.base (by omega)).upd u (by simp), (V56.out.base hs34).upd u (by simpa using ht3), (V6.out.base (by omega)).upd u (by simp), (F36.out.base (C := t + 1) (by omega)).upd u (fun b hb => by have := HL3.out b hb; simp; omega)⟩
  have HUW : Hid (∀ w', Upd [t] w6 w' → Upd [] W w') := fun w' u => U6.out.step u (fun y hy => .inr (by simp at hy; omega))
  have HT3L := Lib.hid ht3
  clear R36 V46 V56 V6 F36 hl3 HT5 HT4 HT3 hs3 hs4 hs5 hs34 hs45 ht3
  go_wp2_with fail
  go_loopw [14] (fun i wr => ∃ k : Nat, k ≤ 2 ∧ i = .int .i64 k ∧ TabOk wr t ∧ Upd [t] w6 wr) (fun i _ => 2 - (intOf i).toNat)
  case atStart => exact ⟨0, by omega, rfl, HT6.out, Upd.refl _ _⟩
  case round =>
    obtain ⟨k, hk, rfl, ht, hu⟩ := hrel
    obtain ⟨wo, rfl⟩ : ∃ wo : World, wo = wr := ⟨_, rfl⟩
    have HT := Lib.hid ht
    have HU := Lib.hid hu
    clear ht hu
    by_cases hlt : k < 2
    · obtain ⟨q0, _, _⟩ := cells3 (K0.out _ (HUW.out _ HU.out))
      go_wp2_with fail
      refine (getPage_free x.num HT.out (HRD.out _ HU.out).1 (Nat.lt_succ_self t)).mono ?_
      rintro en wp ⟨⟨kp, ap, np, cp, okp, rfl, fp, lp, bp⟩, tp, up⟩
      have UP := Lib.hid (HU.out.trans up)
      have TP := Lib.hid tp
      have FP := Lib.hid fp
      have BP := Lib.hid bp
      have SP := Lib.hid up.size
      clear q0 tp up fp bp
      go_wp2_with fail
      refine (getNode_free (HRD.out _ (UP.out.alloc (.cells #[.int .i64 kp, .slice ap np cp] 37))).2.1).mono ?_
      rintro en wn ⟨⟨lf, an, bn, nn, cn, dn, okn, rfl, fn, gn, ln, bn1, bn2⟩, un⟩
      have hP9 := (un.alloc (.cells #[.bool lf, .slice an nn cn, .slice bn nn dn] 67)).get (heap_alloc_new wp (.cells #[.int .i64 kp, .slice ap np cp] 37)) (by simp)
      have hN9 := heap_alloc_new wn (.cells #[.bool lf, .slice an nn cn, .slice bn nn dn] 67)
      have hu9 := (UP.out.alloc (.cells #[.int .i64 kp, .slice ap np cp] 37)).step (un.alloc (.cells #[.bool lf, .slice an nn cn, .slice bn nn dn] 67)) (fun y hy => by simp at hy)
      have ht9 := (TP.out.upd ((Upd.refl [] wp).alloc (.cells #[.int .i64 kp, .slice ap np cp] 37)) (by simp)).upd (un.alloc (.cells #[.bool lf, .slice an nn cn, .slice bn nn dn] 67)) (by simp)
      have hf9 := (FP.out.upd ((Upd.refl [] wp).alloc (.cells #[.int .i64 kp, .slice ap np cp] 37)) (by simp)).upd (un.alloc (.cells #[.bool lf, .slice an nn cn, .slice bn nn dn] 67)) (by simp)
      have hfn9 := fn.upd ((Upd.refl [] wn).alloc (.cells #[.bool lf, .slice an nn cn, .slice bn nn dn] 67)) (by simp)
      have hgn9 := gn.upd ((Upd.refl [] wn).alloc (.cells #[.bool lf, .slice an nn cn, .slice bn nn dn] 67)) (by simp)
      have hsw := un.size
      simp only [World.size_alloc] at hsw hfn9 hgn9 bn1 bn2
      have HP9 := Lib.hid hP9
      have HN9 := Lib.hid hN9
      have HU9 := Lib.hid hu9
      have HT9 := Lib.hid ht9
      have HF9 := Lib.hid hf9
      have HFN9 := Lib.hid hfn9
      have HGN9 := Lib.hid hgn9
      have HB1 := Lib.hid bn1
      have HB2 := Lib.hid bn2
      have HSW := Lib.hid hsw
      clear hP9 hN9 hu9 ht9 hf9 hfn9 hgn9 fn gn bn1 bn2 un hsw
      go_wp2_with fail
      go_loopw [19] (fun i wr => ∃ j : Nat, j ≤ np ∧ i = .int .i64 j ∧ Free wr wo.heap.size .u8 ap np ∧ Upd (ap.toList.map (·.block)) (wn.alloc (.cells #[.bool lf, .slice an nn cn, .slice bn nn dn] 67)) wr) (fun i _ => np - (intOf i).toNat)
      case atStart => exact ⟨0, by omega, rfl, HF9.out, Upd.refl _ _⟩
      case round =>
        obtain ⟨j, hj, rfl, hF, hU2⟩ := hrel
        have HF := Lib.hid hF
        have HU2 := Lib.hid hU2
        clear hF hU2
        have hpb := HU2.out.get HP9.out (fun hm => by have := (BP.out _ (HF.out.blocks _ hm)).2; omega)
        have p1 := (cells_of hpb).1 1
        simp only [List.getElem?_toArray, List.getElem?_cons_zero, List.getElem?_cons_succ] at p1
        clear hpb
        by_cases hlj : j < np
        · obtain ⟨b, xx, rfl, hB, hc, hz⟩ := HF.out.cell hlj
          have hbp := (BP.out b rfl).2
          go_upto_region 18 with fail
          go_region
          go_wp2
          go_roundw
          case rel => exact ⟨j + 1, by omega, by go_num, HF.out.set j _, (HU2.out.setCell (.inl (by simp)) _).drew⟩
          case measure => simp [intOf]; omega
        · obtain rfl : j = np := by omega
          obtain ⟨wq, rfl⟩ : ∃ wq : World, wq = wr := ⟨_, rfl⟩
          have hap : ∀ y ∈ ap.toList.map (·.block), y < wp.heap.size ∧ wo.heap.size ≤ y := fun y hy => by
            have := BP.out y (HF.out.blocks y hy)
            omega
          have hu10 := HU9.out.step HU2.out (fun y hy => by have := hap y hy; have := HU.out.size; exact .inr (by omega))
          have ht10 := HT9.out.upd HU2.out (fun hm => by have := hap t hm; have := HT.out.lt; omega)
          have hfn10 := HFN9.out.upd HU2.out (fun b hb hm => by have := hap b hm; have := (HB1.out b hb).1; omega)
          have hgn10 := HGN9.out.upd HU2.out (fun b hb hm => by have := hap b hm; have := (HB2.out b hb).1; omega)
          have hN10 := HU2.out.get HN9.out (fun hm => by have := hap _ hm; have := HSW.out; omega)
          have HU10 := Lib.hid hu10
          have HT10 := Lib.hid ht10
          have HFN := Lib.hid hfn10
          have HGN := Lib.hid hgn10
          have HN10 := Lib.hid hN10
          clear hap hu10 ht10 hfn10 hgn10 hN10 HFN9 HGN9 HN9 HP9 HF9 HF
          go_wp2_with fail
          go_loopw [20] (fun i wr => ∃ j : Nat, j ≤ nn ∧ i = .int .i64 j ∧ Free wr (wp.heap.size + 1) .i64 an nn ∧ Free wr (wp.heap.size + 1) .i64 bn nn ∧ Upd (an.toList.map (·.block) ++ bn.toList.map (·.block)) wq wr) (fun i _ => nn - (intOf i).toNat)
          case atStart => exact ⟨0, by omega, rfl, HFN.out, HGN.out, Upd.refl _ _⟩
          case round =>
            obtain ⟨i, hi, rfl, hF, hG, hU3⟩ := hrel
            have HF := Lib.hid hF
            have HG := Lib.hid hG
            have HU3 := Lib.hid hU3
            clear hF hG hU3
            have hnb := HU3.out.get HN10.out (fun hm => by
              rcases List.mem_append.1 hm with h | h
              · have := (HB1.out _ (HF.out.blocks _ h)).2.1; omega
              · have := (HB2.out _ (HG.out.blocks _ h)).2; omega)
            obtain ⟨p0, p1, p2⟩ := cells3 hnb
            clear hnb
            by_cases hli : i < nn
            · obtain ⟨b1, y1, rfl, hB1, hc1, hz1⟩ := HF.out.cell hli
              obtain ⟨b2, y2, rfl, hB2, hc2, hz2⟩ := HG.out.cell hli
              have hne : b1 ≠ b2 := fun e => (HB1.out b1 rfl).2.2 (by rw [e])
              have hl1 := (HB1.out b1 rfl).2.1
              have hl2 := (HB2.out b2 rfl).2
              have n1 : wn.heap.size ≠ b1 := by omega
              have n2 : wn.heap.size ≠ b2 := by omega
              have n3 : b1 ≠ wn.heap.size := by omega
              have n4 : b2 ≠ wn.heap.size := by omega
              have n5 : b2 ≠ b1 := fun e => hne e.symm
              go_wp2
              go_roundw
              case rel => exact ⟨i + 1, by omega, by go_num, (HF.out.set i _).upd ((Upd.refl [b2] _).setCell (.inl (by simp)) _) (by rintro b ⟨⟩; simpa using hne), (HG.out.upd ((Upd.refl [b1] _).setCell (.inl (by simp)) _) (by rintro b ⟨⟩; simpa using n5)).set i _, (HU3.out.setCell (.inl (by simp)) _).setCell (.inl (by simp)) _⟩
              case measure => simp [intOf]; omega
            · obtain rfl : i = nn := by omega
              have hall : ∀ y ∈ an.toList.map (·.block) ++ bn.toList.map (·.block), wp.heap.size ≤ y := fun y hy => by
                rcases List.mem_append.1 hy with h | h
                · have := (HB1.out y (HF.out.blocks y h)).1; omega
                · have := (HB2.out y (HG.out.blocks y h)).1; omega
              have hu11 := HU10.out.step HU3.out (fun y hy => by have := hall y hy; have := HU.out.size; have := SP.out; exact .inr (by omega))
              have ht11 := HT10.out.upd HU3.out (fun hm => by have := hall t hm; have := HT.out.lt; have := SP.out; omega)
              have HU11 := Lib.hid hu11
              have HT11 := Lib.hid ht11
              clear hall hu11 ht11
              go_wp2
              go_roundw
              case rel => exact ⟨k + 1, by omega, by go_num, HT11.out, HU11.out⟩
              case measure => simp [intOf]; omega
    · obtain rfl : k = 2 := by omega
      obtain ⟨ra, rb, rc, rd, fa⟩ := HRD.out _ HU.out
      have RA := Lib.hid ra
      have RB := Lib.hid rb
      have RC := Lib.hid rc
      have RD := Lib.hid rd
      have FA := Lib.hid fa
      clear ra rb rc rd fa
      go_wp2_with fail
      refine (same_ret RA.out RC.out RA.out.le RC.out.le).mono ?_
      rw [decide_eq_true rfl]
      rintro en w7 ⟨rfl, u7⟩
      have U7 := Lib.hid u7
      clear u7
      go_wp2_with fail
      refine (same_ret (RB.out.upd U7.out (by simp)) (RD.out.upd U7.out (by simp)) RB.out.le RD.out.le).mono ?_
      rw [decide_eq_true rfl]
      rintro en w8 ⟨rfl, u8⟩
      have hu8 := U7.out.trans u8
      have HU8 := Lib.hid (HU.out.step hu8 (fun y hy => by simp at hy))
      have HT8 := Lib.hid (HT.out.upd hu8 (by simp))
      have RC8 := Lib.hid (RC.out.upd hu8 (by simp))
      have RA8 := Lib.hid (RA.out.upd hu8 (by simp))
      have FA8 := Lib.hid (FA.out.upd hu8 (by simp))
      clear u8 hu8 U7 RA RB RC RD FA
      have ha8 : ∀ b, a3 = some ⟨b, 0, none⟩ → t < b := HL3.out
      have HA8 := Lib.hid ha8
      clear ha8
      have ln3 : n3 ≤ 9223372036854775807 := by have := RA8.out.le; have := EL3.out; omega
      go_wp2_with fail
      go_loopw [22] (fun i wr => ∃ j : Nat, j ≤ n3 ∧ i = .int .i64 j ∧ Free wr (t + 1) .u8 a3 n3 ∧ Upd (a3.toList.map (·.block)) w8 wr) (fun i _ => n3 - (intOf i).toNat)
      case atStart => exact ⟨0, by omega, rfl, FA8.out, Upd.refl _ _⟩
      case round =>
        obtain ⟨j, hj, rfl, hF, hU2⟩ := hrel
        have HF := Lib.hid hF
        have HU2 := Lib.hid hU2
        clear hF hU2
        by_cases hlj : j < n3
        · obtain ⟨b, xx, rfl, hB, hc, hz⟩ := HF.out.cell hlj
          go_wp2
          go_roundw
          case rel => exact ⟨j + 1, by omega, by go_num, HF.out.set j 0, HU2.out.setCell (.inl (by simp)) _⟩
          case measure => simp [intOf]; omega
        · obtain rfl : j = n3 := by omega
          have hap : ∀ y ∈ a3.toList.map (·.block), t < y := fun y hy => HA8.out y (HF.out.blocks y hy)
          have hap3 : ∀ y ∈ a3.toList.map (·.block), y < w3.heap.size := fun y hy => (L3.out y (HF.out.blocks y hy)).2
          have HU9 := Lib.hid ((HUW.out _ HU8.out).step HU2.out (fun y hy => .inr (by have := hap y hy; omega)))
          have HT9 := Lib.hid (HT8.out.upd HU2.out (fun hm => by have := hap t hm; omega))
          have RC9 := Lib.hid (RC8.out.upd HU2.out hap3)
          have hx := K0.out _ HU9.out
          clear hap hap3
          go_wp2_with (refine wpList_load_all rfl 39 (.tmp 2) rfl (w.heap.size) 3 rfl _ _ _ _ hx Tryd.underlying39 rfl infoImage rfl ?_)
          refine (putPage_any (x := x) (cap := xc) HT9.out (HX.out _ HU9.out) LX.out).mono ?_
          rintro en w9 ⟨⟨v9, rfl, hv9⟩, ht9, u9⟩
          obtain ⟨E9, hE9⟩ : ∃ E, (if (putPage x).isSome = true then (0 : Int) else 1) = E := ⟨_, rfl⟩
          rw [hE9]
          clear hE9
          have R9 := Lib.hid hv9
          have HU10 := Lib.hid (HU9.out.step u9 (fun y hy => .inr (by simp at hy; omega)))
          have RCX := Lib.hid (RC9.out.upd u9 (by have := HT3L.out; simpa using this))
          clear hv9 ht9 u9 hx
          go_wp2_with fail
          refine (same_ret R9.out RCX.out R9.out.le RCX.out.le).mono ?_
          rw [decide_eq_true rfl]
          rintro en w10 ⟨rfl, u10⟩
          go_wp2
          go_ret
          exact ⟨rfl, HU0.out.trans (HU10.out.trans u10)⟩
end Go.Proofs.YtkahpkmofeglgaaDoor
