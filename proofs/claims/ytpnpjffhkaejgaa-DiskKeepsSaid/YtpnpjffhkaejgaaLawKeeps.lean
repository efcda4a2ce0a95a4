/-
  PROVED HERE: DiskKeeps returns true whatever it is given. Conditions: those that each theorem names.
-/
import Derived.Test.YtpnpjffhkaejgaaDoesG
import Derived.Test.YtpnpjffhkaejgaaKeepsR
import Derived.StillTail
import Derived.StillTactics
import Derived.BigQuiet
namespace Go.Proofs.Ytpnpjffhkaejgaa
open Go.RowKit

theorem MRow.sub {B : Nat} {E E' : List Nat} {T T' : List (Nat × Obj)} {v : Value} {l : List Nat} (h : MRow B E T v l) (hT : ∀ p ∈ T, p ∈ T') (hE : ∀ x ∈ v.ownBlock.toList, x ∉ E') : MRow B E' T' v l := by
  rcases h with h | ⟨g, o, c, cur, rfl, h1, h2, h3, h4⟩
  · exact .inl h
  · exact .inr ⟨g, o, c, cur, rfl, hT _ h1, h2, hE g (by simp [Value.ownBlock]), h4⟩
theorem Rows8.weak {B : Nat} {E : List Nat} {T : List (Nat × Obj)} {mb : Nat} {V : Nat → Value} {M : Nat → List Nat} (h : Rows8 B E T mb V M) : Rows8 B [] T mb V M :=
  ⟨h.mem, h.low, by simp, by simp, fun i hi => (h.row i hi).sub (fun _ hp => hp) fun x hx e => ((h.row i hi).own x hx).2.2 (by rw [List.mem_singleton.1 e]; exact List.mem_cons_self ..), h.apart⟩
theorem Rows8.congr {B : Nat} {E : List Nat} {T : List (Nat × Obj)} {mb : Nat} {V : Nat → Value} {M M' : Nat → List Nat} (h : Rows8 B E T mb V M) (e : ∀ i, i < 8 → M i = M' i) : Rows8 B E T mb V M' :=
  ⟨h.mem, h.low, h.out, h.ext, fun i hi => by rw [← e i hi]; exact h.row i hi, h.apart⟩
theorem Rows8.keep {B : Nat} {E : List Nat} {T : List (Nat × Obj)} {mb : Nat} {V : Nat → Value} {M : Nat → List Nat} (h : Rows8 B E T mb V M) (K : List (Nat × Obj)) (hK : ∀ p ∈ K, ∀ q ∈ T, p.1 ≠ q.1) : Rows8 B (K.map (·.1) ++ E) (K ++ T) mb V M := by
  have hne : ∀ x, (∃ o, (x, o) ∈ T) → x ∉ K.map (·.1) := fun x ⟨o, hx⟩ hm => by
    obtain ⟨p, hp, rfl⟩ := List.mem_map.1 hm
    exact hK p hp _ hx rfl
  refine ⟨List.mem_append_right _ h.mem, h.low, fun hm => ?_, fun x hx => ?_, fun i hi => (h.row i hi).sub (fun p hp => List.mem_append_right _ hp) fun x hx hm => ?_, h.apart⟩
  · rcases List.mem_append.1 hm with e | e
    · exact hne _ ⟨_, h.mem⟩ e
    · exact h.out e
  · rcases List.mem_append.1 hx with e | e
    · obtain ⟨p, hp, rfl⟩ := List.mem_map.1 e
      exact ⟨p.2, List.mem_append_left _ hp⟩
    · obtain ⟨o, ho⟩ := h.ext x e
      exact ⟨o, List.mem_append_right _ ho⟩
  · obtain ⟨q1, _, q3⟩ := (h.row i hi).own x hx
    rcases List.mem_cons.1 hm with e | e
    · exact q3 (by rw [e]; exact List.mem_cons_self ..)
    · rcases List.mem_append.1 e with e | e
      · exact hne _ q1 e
      · exact q3 (List.mem_cons_of_mem _ e)
theorem ld_write_any {w wr : World} {d : Nat} {F : Nat → Prop} {T : List (Nat × Obj)} {S : Dk} (h : LawD w wr d F T S) (p : Int) {a : Option Addr} {data : List Nat} {cap n : Nat} (fua : Bool) (hb : IsBytes wr a data) (hbf : ∀ b o, a = some ⟨b, o, none⟩ → ¬ F b) (hlen : data.length = n) (hn : n ≤ 9223372036854775807) (hvl : ∀ i, i < S.n → (S.sec i).ver.length ≤ 2000000000000) :
    Calls Try.prog 13 #[.pointer (some ⟨d, 0, none⟩), .int .i64 p, .slice a n cap, .bool fua] wr fun e w' => e = .returned (.int .i64 (S.write p data fua).1) ∧ LWrote w d T (S.write p data fua).2 w' :=
  (x_write (cap := cap) h.1 p fua hb hbf (by omega) hvl hlen.symm).mono fun e w' ⟨h1, ⟨F', h2, h3⟩, h4⟩ => ⟨h1, F', h.next h2 h3 h4 fun _ hx => hx⟩
/-- A row that is new is kept, if it has a block. -/
theorem LawD.row2 {w wr : World} {d B : Nat} {F : Nat → Prop} {T : List (Nat × Obj)} {S : Dk} {v : Value} {l : List Nat} (h : LawD w wr d F T S) (hr : IsRow wr B v l) (hB : ∀ y, F y → y < B) :
    ∃ K : List (Nat × Obj), LawD w wr d F (K ++ T) S ∧ (∀ p ∈ K, B ≤ p.1) ∧ (0 < l.length → ∃ g cap o, v = .slice (some ⟨g, 0, none⟩) l.length cap ∧ K = [(g, o)] ∧ ∀ W : World, W.heap[g]? = some o → IsBytes W (some ⟨g, 0, none⟩) l) := by
  by_cases h0 : 0 < l.length
  · obtain ⟨g, cap, rfl, hg, hgl, hc1, hc2, hb⟩ := row_some hr rfl h0
    have ho : wr.heap[g]? = some wr.heap[g] := Array.getElem?_eq_getElem hgl
    exact ⟨[(g, wr.heap[g])], h.keep (g := g) (fun hf => by have := hB g hf; omega) ho, by simpa using hg, fun _ => ⟨g, cap, _, rfl, rfl, fun W hW => hb.same (by rw [hW, ho])⟩⟩
  · exact ⟨[], h, by simp, fun e => absurd e h0⟩
def initM (j : Nat) : Nat → List Nat := fun i => if i < j then [0] else []
theorem initM_succ (j : Nat) : initM (j + 1) = setf (initM j) j [0] := by
  funext i
  unfold initM setf
  by_cases e : i = j
  · subst e; rw [if_pos rfl, if_pos (by omega)]
  · rw [if_neg e]
    by_cases h : i < j
    · rw [if_pos (show i < j + 1 by omega)]; exact (if_pos h).symm
    · rw [if_neg (show ¬ i < j + 1 by omega)]; exact (if_neg h).symm
abbrev mayNil : Array Value := #[.slice none 0 0, .slice none 0 0, .slice none 0 0, .slice none 0 0, .slice none 0 0, .slice none 0 0, .slice none 0 0, .slice none 0 0]
theorem mayZero : mayNil = mayCells fun _ => .slice none 0 0 := rfl
def InitAt (w : World) (d mb : Nat) (F : Nat → Prop) (j : Nat) (wr : World) : Prop := ∃ T V, LawD w wr d F T (Dk.new 8) ∧ Rows8 w.heap.size [] T mb V (initM j)
def KeepAt (w : World) (d mb : Nat) (j : Nat) (wr : World) : Prop := ∃ S F T V M, LawD w wr d F T S ∧ Rows8 w.heap.size [] T mb V M ∧ Fit S M j
theorem idx_at {p k N : Nat} (t3 : (p : Int) + ((N / 256 : Nat) : Int) ≤ ((8 : Nat) : Int)) (h : k < N / 256) : p + k < 8 ∧ wrap64 ((p : Int) + (k : Int)) = (p : Int) + (k : Int) ∧ IntKind.i64.wrap ((p : Int) + (k : Int)) = (p : Int) + (k : Int) ∧ (0 ≤ (p : Int) + (k : Int) ∧ (p : Int) + (k : Int) < 8) ∧ ((p : Int) + (k : Int)).toNat = p + k := ⟨by omega, by unfold wrap64; omega, by rw [IntKind.wrap_i64]; omega, by omega, by omega⟩
theorem idx_piece {k N : Nat} (h : k < N / 256) (hN : N ≤ 5375) : 256 * k < N ∧ wrap64 (256 * (k : Int)) = 256 * (k : Int) ∧ IntKind.i64.wrap (256 * (k : Int)) = 256 * (k : Int) ∧ (0 ≤ 256 * (k : Int) ∧ 256 * (k : Int) < (N : Int)) ∧ (256 * (k : Int)).toNat = 256 * k := ⟨by omega, by unfold wrap64; omega, by rw [IntKind.wrap_i64]; omega, by omega, by omega⟩
theorem len_le {a j n : Nat} (h1 : a ≤ j + 1) (h2 : j < n) (h3 : n ≤ 1990000000000) : a ≤ 2000000000000 := by omega
def WroteAt (w : World) (d mb xb : Nat) (F : Nat → Prop) (K : List (Nat × Obj)) (o : Obj) (S : Dk) (M : Nat → List Nat) (fua : Bool) (p : Nat) (D : List Nat) (k : Nat) (wr : World) : Prop := ∃ T V, LawD w wr d F T S ∧ Rows8 w.heap.size (K.map (·.1) ++ ([(xb, o)].map (·.1) ++ [])) T mb V (wroteM M fua p k D) ∧ (xb, o) ∈ T ∧ ∀ q ∈ K, q ∈ T
theorem LWrote.at {w w' : World} {d : Nat} {T : List (Nat × Obj)} {S : Dk} (h : LWrote w d T S w') : ∃ F', LawD w w' d F' T S := h
def lastM (M : Nat → List Nat) (k : Nat) : Nat → List Nat := fun i => if i < k then [(M i).getLast?.getD 0] else M i
theorem lastM_at (M : Nat → List Nat) (k : Nat) : lastM M k k = M k := if_neg (Nat.lt_irrefl k)
theorem lastM_succ (M : Nat → List Nat) (k : Nat) : lastM M (k + 1) = setf (lastM M k) k [(M k).getLast?.getD 0] := by
  funext i
  unfold lastM setf
  by_cases e : i = k
  · subst e; rw [if_pos rfl, if_pos (by omega)]
  · rw [if_neg e]
    by_cases h : i < k
    · rw [if_pos (show i < k + 1 by omega)]; exact (if_pos h).symm
    · rw [if_neg (show ¬ i < k + 1 by omega)]; exact (if_neg h).symm
theorem flush_ne {S : Dk} (h : S.flush.1 ≠ 0) : S.flush.2.sec = S.sec := by
  unfold Dk.flush at h ⊢
  split
  · rfl
  · rename_i hh
    rw [if_neg hh] at h
    exact absurd rfl h
def FlushAt (w : World) (d mb : Nat) (F : Nat → Prop) (S : Dk) (M : Nat → List Nat) (k : Nat) (wr : World) : Prop := ∃ T V, LawD w wr d F T S ∧ Rows8 w.heap.size [] T mb V (lastM M k)
theorem idx_last {q c : Nat} (h : q ≤ 1990000000001) (hc : q + 1 ≤ c) : IntKind.i64.wrap (q : Int) = (q : Int) ∧ (0 ≤ (q : Int) ∧ (q : Int) ≤ (q : Int) + 1) ∧ (q : Int).toNat = q ∧ c ≠ q ∧ q + 1 - q = 1 := ⟨by rw [IntKind.wrap_i64]; omega, by omega, rfl, by omega, by omega⟩
theorem Upd.drewN {L : List Nat} {a w : World} (h : Upd L a w) (n : Nat) : Upd L a (w.drewN n) := ⟨h.os, h.tape, h.output, h.size, h.block⟩
def EndAt (w : World) (d mb : Nat) (S0 : Dk) (M : Nat → List Nat) (wr : World) : Prop := ∃ S F T V, S.n = 8 ∧ S.sec = S0.sec ∧ S.fall 1 = 0 ∧ LawD w wr d F T S ∧ Rows8 w.heap.size [] T mb V M
theorem end_read {S S0 : Dk} {i b : Nat} (hn : S.n = 8) (hs : S.sec = S0.sec) (hf : S.fall 1 = 0) (hi : i < 8) (hb : S0.sec i = ⟨List.replicate 256 b, []⟩) : S.read i 1 = ((List.replicate 256 b, 0), S.tick 1) := by
  rw [read_one (by omega), if_neg (by unfold Dk.hit; rw [hf]; decide), hs, hb]
  rfl
/-- A row's bytes in the world. -/
theorem NewRow.cell {w : World} {v : Value} {l : List Nat} (h : NewRow w v l) (hl : l ≠ []) : ∃ g o c, v = .slice (some ⟨g, o, none⟩) l.length c ∧ l.length ≤ c ∧ ∀ k, k < l.length → w.cell? ⟨g, o + k, none⟩ = some (.int .u8 (l.getD k 0 : Nat)) := by
  rcases h with ⟨_, h⟩ | ⟨g, o, c, cur, rfl, h1, h2, h3, h4, h5⟩
  · exact absurd h hl
  · exact ⟨g, o, c, rfl, h2, fun k hk => by rw [(cells_of h1).1, h5 k hk]⟩
theorem getD_rep {b t : Nat} (ht : t < 256) : (List.replicate 256 b).getD t 0 = b := by rw [List.getD_eq_getElem?_getD, List.getElem?_replicate, if_pos ht]; rfl
theorem any_succ (l : List Nat) (b k : Nat) (hk : k < l.length) : (l.take (k + 1)).any (· == b) = ((l.take k).any (· == b) || (l.getD k 0 == b)) := by
  rw [List.take_succ_eq_append_getElem hk, List.any_append, List.getD_eq_getElem?_getD, List.getElem?_eq_getElem hk]
  simp
set_option maxRecDepth 100000 in
set_option maxHeartbeats 6400000 in
theorem keeps_any {w : World} {A : Option Addr} {n cap : Nat} {l : List Stp} (h : IsScript w w.heap.size A l) (hn : l.length = n) (hl : n ≤ 1990000000000) {pa : Option Addr} {m pc : Nat} {picks : List Int} (hp : PicksAt w w.heap.size pa m picks) :
    Calls Try.prog 6 #[.slice A n cap, .slice pa m pc] w fun e w' => e = .returned (.bool true) ∧ Upd [] w w' := by
  have H := Lib.hid h
  have HN := Lib.hid hn
  have HL := Lib.hid hl
  have HP := Lib.hid hp
  have HNEW := Lib.hid (ld_new8 (w := w))
  have HKN := Lib.hid known_any
  clear h hn hp
  go_enter Try.func6, Try.ntmps6
  go_wp2_with fail
  (with_reducible refine HNEW.out.mono ?_)
  rintro e w1 ⟨d, F, rfl, hL⟩
  have L1 := Lib.hid hL
  clear hL HNEW
  go_wp2_with fail
  (with_reducible refine (HKN.out _).mono ?_)
  rintro e w2 ⟨rfl, u2⟩
  have hst : InitAt w d w2.heap.size F 0 (w2.alloc (.cells mayNil 56)) := by
    refine ⟨_, fun _ => .slice none 0 0, (L1.out.up u2).alloc _ _, ?_⟩
    have hs : w.heap.size ≤ w2.heap.size := by have := L1.out.2.2.2.size; have := u2.size; omega
    exact ⟨by rw [← mayZero]; exact List.mem_cons_self .., hs, by simp, by simp, fun i _ => .inl ⟨rfl, rfl⟩, fun i j _ _ _ x hx => by simp [Value.ownBlock] at hx⟩
  have HST := Lib.hid hst
  clear hst u2
  go_wp2_with fail
  go_loopw [8] (fun i wr => ∃ j : Nat, j ≤ 8 ∧ i = .int .i64 j ∧ InitAt w d w2.heap.size F j wr) (fun i _ => 8 - (intOf i).toNat)
  case atStart => exact ⟨0, by omega, rfl, HST.out⟩
  case round =>
    obtain ⟨j, hj, rfl, T, V, hL, hR⟩ := hrel
    by_cases hlt : j < 8
    · have ua := (Upd.refl [] wr).alloc (.cells #[.int .u8 0] 5)
      obtain ⟨q, qf⟩ := cells_of (ua.get (hL.get hR.mem) (by simp))
      have qj := q j
      have qfj := qf j
      rw [mayCells_get V hlt] at qj
      have hset := rows_set hL hR hlt (ua.mono (by simp)) (v' := .slice (some ⟨wr.heap.size, 0, none⟩) 1 1) (l' := [0]) (.inr ⟨wr.heap.size, 0, 1, _, rfl, heap_alloc_new wr _, by decide, by decide, by decide, fun k hk => by
        obtain rfl : k = 0 := by simpa using hk
        rfl⟩) (fun x hx => .inr (by simp [Value.ownBlock] at hx; omega))
      have HSET := Lib.hid hset
      clear hL hR ua q qf hset
      go_wp2
      go_roundw
      case rel =>
        refine ⟨j + 1, by omega, by go_num, ?_⟩
        obtain ⟨T', h1, h2, _⟩ := HSET.out
        rw [← initM_succ] at h2
        exact ⟨T', _, h1, h2⟩
      case measure => simp [intOf]; omega
    · have hk : KeepAt w d w2.heap.size 0 wr := ⟨_, _, _, _, _, hL, hR.congr (M' := fun _ => [0]) fun i hi => if_pos (show i < j by omega), fit_new⟩
      have HK := Lib.hid hk
      clear hL hR hk hj
      go_wp2_with fail
      go_loopw [9] (fun i wr => ∃ j : Nat, j ≤ n ∧ i = .int .i64 j ∧ KeepAt w d w2.heap.size j wr) (fun i _ => n - (intOf i).toNat)
      case atStart => exact ⟨0, by omega, rfl, HK.out⟩
      case round =>
        obtain ⟨j, hj, rfl, S, F1, T, V, M, hL, hR, hF⟩ := hrel
        by_cases hlt : j < n
        · have hjl : j < l.length := by have := HN.out; omega
          have hU := hL.2.2.2
          obtain ⟨g, o, rfl, ⟨q0, q1, q2, q3, q4, q5, q6⟩, hpk⟩ := (H.out.up hU) j hjl
          generalize l[j] = x at *
          obtain ⟨xk, xa, xc, xb, xf, xu, xpa, xn, xpc, xpicks⟩ := x
          dsimp only at q0 q1 q2 q3 q4 q5 q6
          clear hpk
          have hvr : ∀ i, i < S.n → (S.sec i).ver.length ≤ 2000000000000 := fun i hi => by
            have := hF.verl i (by rw [← hF.n]; exact hi)
            have := HL.out
            omega
          have HVR := Lib.hid hvr
          have HL1 := Lib.hid (hL.alloc (opCells xk xa xc xb xf xu (.slice xpa xn xpc)) 29)
          have HR1 := Lib.hid (hR.keep [(wr.heap.size, .cells (opCells xk xa xc xb xf xu (.slice xpa xn xpc)) 29 (0, 0))] (fun p hp q hq e => by have := hL.lt hq; rw [List.mem_singleton.1 hp] at e; dsimp only at e; omega))
          have HF1 := Lib.hid hF
          have HL0 := Lib.hid hL
          have HR0 := Lib.hid hR
          clear hL hR hF hU hvr
          obtain ⟨xbk, HXB⟩ : ∃ x, x = wr.heap.size := ⟨_, rfl⟩
          by_cases e1 : xk = 1
          · subst e1
            have hda := Lib.hid (fun W => data_any (w := W) 1 xa xc 0 xf xu (.slice xpa xn xpc))
            go_wp2_with fail
            (with_reducible refine (hda.out _).mono ?_)
            rintro e w4 ⟨⟨v4, rfl, r4⟩, u4⟩
            have hL4 := (HL0.out.alloc (opCells 1 xa xc 0 xf xu (.slice xpa xn xpc)) 29).up u4
            have hR4 := HR0.out.keep [(wr.heap.size, .cells (opCells 1 xa xc 0 xf xu (.slice xpa xn xpc)) 29 (0, 0))] (fun p hp q hq e => by have := HL0.out.lt hq; rw [List.mem_singleton.1 hp] at e; dsimp only at e; omega)
            obtain ⟨K, hL5, hK, hrow⟩ := hL4.row2 r4 (fun y hy => by have := HL1.out.1.old y hy; simpa using this)
            obtain ⟨D, hD⟩ : ∃ D, opData xc 0 xf = D := ⟨_, rfl⟩
            have hwh := opData_whole xc xf
            have hDl : D.length ≤ 5375 := by rw [← hD, opData_len]; exact opLen_le _ _
            have hDb : BytesOk D := by rw [← hD]; exact opData_ok _ _ _
            rw [hD] at r4 hrow hwh
            clear hD
            obtain ⟨N, hN⟩ : ∃ N, D.length = N := ⟨_, rfl⟩
            obtain ⟨a4, cap4, e4, hb4, hown4, hc4, hm4⟩ := r4.slice
            rw [hN] at e4 hc4 hrow hDl hwh
            subst e4
            have hbf : ∀ b o, a4 = some ⟨b, o, none⟩ → ¬ F1 b := fun b o e hf => by
              have q1 := r4.low b (hown4 b o e).1
              have q2 := HL1.out.1.old b hf
              simp only [World.size_alloc] at q1 q2
              omega
            have hwr := ld_write_any (cap := cap4) hL5 xa xu hb4 hbf hN (by omega) HVR.out
            have hR5 := hR4.keep K (fun p hp q hq e => by
              have q1 := hK p hp
              have q2 := (HL0.out.alloc (opCells 1 xa xc 0 xf xu (.slice xpa xn xpc)) 29).lt hq
              simp only [World.size_alloc] at q1 q2
              omega)
            obtain ⟨fr, hfr⟩ : ∃ fr, (S.write xa D xu).1 = fr := ⟨_, rfl⟩
            rw [hfr] at hwr
            obtain ⟨c0, c1, c2, c3, c4, c5, c6⟩ := op_cells7 (hL5.get (List.mem_append_right K (List.mem_cons_self ..)))
            have HWR := Lib.hid hwr
            have HR5 := Lib.hid hR5
            have HROW := Lib.hid hrow
            have HWH := Lib.hid hwh
            have HDL := Lib.hid hDl
            have HDB := Lib.hid hDb
            have HN2 := Lib.hid hN
            have HFR := Lib.hid hfr
            clear hwr hfr hN hR5 hrow hwh hDl hDb r4 u4 hL4 hR4 hL5 hK hb4 hown4 hc4 hm4 hbf hda
            go_wp2_with fail
            (with_reducible refine HWR.out.mono ?_)
            rintro e w5 ⟨rfl, h5⟩
            obtain ⟨F5, h5⟩ := h5.at
            have H5 := Lib.hid h5
            clear h5
            by_cases hz : fr = 0
            · subst hz
              obtain ⟨t1, t2, t3⟩ := write_zero HFR.out
              obtain ⟨p, rfl⟩ := Int.eq_ofNat_of_zero_le t1
              rw [HN2.out] at t2 t3
              rw [HF1.out.n] at t3
              have hw0 : WroteAt w d w2.heap.size xbk F5 K (.cells (opCells 1 p xc 0 xf xu (.slice xpa xn xpc)) 29 (0, 0)) (S.write p D xu).2 M xu p D 0 w5 := HXB ▸ ⟨_, _, H5.out, by rw [wroteM_zero]; exact HR5.out, List.mem_append_right K (List.mem_cons_self ..), fun q hq => List.mem_append_left _ hq⟩
              have HW0 := Lib.hid hw0
              clear hw0 c0 c1 c2 c3 c4 c5 c6
              go_wp2_with fail
              go_loopw [12] (fun i wr' => ∃ k : Nat, k ≤ N / 256 ∧ i = .int .i64 k ∧ WroteAt w d w2.heap.size xbk F5 K (.cells (opCells 1 p xc 0 xf xu (.slice xpa xn xpc)) 29 (0, 0)) (S.write p D xu).2 M xu p D k wr') (fun i _ => N / 256 - (intOf i).toNat)
              case atStart => exact ⟨0, by omega, rfl, HW0.out⟩
              case round =>
                obtain ⟨k, hk, rfl, T1, V1, h1, h2, h3, h4⟩ := hrel
                by_cases hkc : k < N / 256
                · obtain ⟨lg, lcap, lo, el, eK, hby⟩ := HROW.out (by omega)
                  cases el
                  subst eK
                  obtain ⟨c0, c1, c2, c3, c4, c5, c6⟩ := op_cells7 (h1.get h3)
                  have qm := cells_of (h1.get h2.mem)
                  have qj := qm.1 (p + k)
                  have qf := qm.2 (p + k)
                  obtain ⟨hlt8, e1, e3, e5, e7⟩ := idx_at t3 hkc
                  obtain ⟨hltN, e2, e4, e6, e8⟩ := idx_piece hkc HDL.out
                  rw [mayCells_get V1 hlt8] at qj
                  obtain ⟨bt, hbt⟩ : ∃ bt, D.getD (256 * k) 0 = bt := ⟨_, rfl⟩
                  have HBT := Lib.hid hbt
                  have hS : ∀ W : World, W.heap[xbk]? = some (.cells (opCells 1 p xc 0 xf xu (.slice xpa xn xpc)) 29 (0, 0)) → W.heap[lg]? = some lo → W.cell? ⟨xbk, 1, none⟩ = some (.int .i64 (p : Nat)) ∧ W.cell? ⟨lg, 256 * k, none⟩ = some (.int .u8 (bt : Nat)) := fun W hx hl => ⟨(op_cells7 hx).2.1, by have := (hby W hl).at (256 * k) (by rw [HN2.out]; exact hltN); rw [Nat.zero_add, hbt] at this; exact this⟩
                  obtain ⟨i0, hi0, iz0, iz1, iz2⟩ := info_parts infoByte
                  have HI := Lib.hid hi0
                  clear qm c0 c2 c3 c4 c6 hi0 iz2
                  clear hbt
                  subst HXB
                  cases xu
                  · have hb1 := h1
                    have hb2 := h2
                    have hbx := h3
                    have hbl := h4
                    clear h1 h2 h3 h4
                    obtain ⟨v', w4, ⟨av, nv, cv, rfl⟩, hr, ⟨m0, m1, m2, m3⟩, hE, T', g1, g2, g3⟩ := app_step hb1 hb2 (i := p + k) hlt8 (by rw [wroteM_at]; exact len_le (HF1.out.len (p + k) hlt8) hlt HL.out) bt 31
                    have kx := hE _ hbx (by simp)
                    have kl := hE _ (hbl _ (List.mem_singleton.2 rfl)) (by simp)
                    have m1' : (wr.alloc (.cells #[.int .u8 bt] 5)).cell? ⟨w2.heap.size, p + k, none⟩ = some (V1 (p + k)) := m1
                    have s1' := hS (wr.alloc (.cells #[.int .u8 bt] 5)) kx.2.1 kl.2.1
                    have s0 := hS _ kx.1 kl.1
                    have s1 := hS _ kx.2.1 kl.2.1
                    have s2 := hS _ kx.2.2.1 kl.2.2.1
                    have s3 := hS _ kx.2.2.2 kl.2.2.2
                    have HG1 := Lib.hid g1
                    have HG2 := Lib.hid g2
                    have HG3 := Lib.hid g3
                    have HHR := Lib.hid hr
                    have HBX := Lib.hid hbx
                    have HBL := Lib.hid hbl
                    clear hr g1 g2 g3 kx kl hE hb1 hb2 hbx hbl
                    go_wp2_with fail
                    refine wp_region_order (fun W' => W'.cell? ⟨_, 1, none⟩ = some (.int .i64 (p : Nat)) ∧ W'.cell? ⟨lg, 256 * k, none⟩ = some (.int .u8 (bt : Nat))) [0, 1, 2, 3, 4, 5, 6, 7, 8, 10, 11, 12, 13, 14] [[9, 15, 16, 17, 18], [15, 9, 16, 17, 18]] 5 rfl (by kernel_rfl) s0 ?_
                    simp only [List.map_cons, List.map_nil, opAt]
                    iterate 14
                      apply reads_step rfl
                      · intro wq hq
                        obtain ⟨hq1, hq2⟩ := hq
                        go_simp
                        all_goals (try simp only [e3, e4, if_pos e5, if_pos e6, e7, e8])
                        all_goals with_reducible rfl
                      simp only [Act.put, List.setIfInBounds_toArray, List.set_cons_zero, List.set_cons_succ]
                    refine ⟨?_, ?_, trivial⟩
                    · simp only [List.map_cons, List.map_nil, opAt]
                      refine ⟨rfl, ?_⟩
                      go_simp
                      refine tail_val (w' := wr.drew.alloc (.cells #[.int .u8 (bt : Nat)] 5)) (.slice (some ⟨wr.heap.size, 0, none⟩) 1 1) rfl (exec_build1 rfl Try.underlying31 HI.out iz0 iz1 rfl (v := .int .u8 (bt : Nat)) rfl rfl) s1 ?_
                      simp only [Act.put, List.setIfInBounds_toArray, List.set_cons_zero, List.set_cons_succ]
                      refine tail_val (w' := w4) (.slice av nv cv) rfl (exec_append rfl (vm := V1 (p + k)) (vx := .slice (some ⟨wr.heap.size, 0, none⟩) 1 1) rfl rfl HHR.out) s2 ?_
                      simp only [Act.put, List.setIfInBounds_toArray, List.set_cons_zero, List.set_cons_succ]
                      refine ⟨rfl, ?_⟩
                      go_simp
                      refine ⟨rfl, ?_⟩
                      go_simp
                      dsimp only [OnlyN, Exit.then, wpTail, Exit.inBlock]
                      go_wp2
                      go_roundw
                      case rel => exact ⟨k + 1, Nat.succ_le_of_lt hkc, by go_num, T', _, HG1.out, by have h := HG2.out; rw [wroteM_at] at h; rw [wroteM_succ, HBT.out]; exact h, HG3.out _ HBX.out (by simp), fun q hq => HG3.out q (HBL.out q hq) (by rw [List.mem_singleton.1 hq]; simp)⟩
                      case measure => clear e1 e2 e3 e4 e5 e6 e7 e8; simp [intOf]; omega
                    · simp only [List.map_cons, List.map_nil, opAt]
                      refine tail_val (w' := wr.drew.alloc (.cells #[.int .u8 (bt : Nat)] 5)) (.slice (some ⟨wr.heap.size, 0, none⟩) 1 1) rfl (exec_build1 rfl Try.underlying31 HI.out iz0 iz1 rfl (v := .int .u8 (bt : Nat)) rfl rfl) s1 ?_
                      simp only [Act.put, List.setIfInBounds_toArray, List.set_cons_zero, List.set_cons_succ]
                      refine ⟨rfl, ?_⟩
                      go_simp
                      first | refine ⟨s1, ?_⟩ | skip
                      refine tail_val (w' := w4) (.slice av nv cv) rfl (exec_append rfl (vm := V1 (p + k)) (vx := .slice (some ⟨wr.heap.size, 0, none⟩) 1 1) rfl rfl HHR.out) s2 ?_
                      simp only [Act.put, List.setIfInBounds_toArray, List.set_cons_zero, List.set_cons_succ]
                      refine ⟨rfl, ?_⟩
                      go_simp
                      refine ⟨rfl, ?_⟩
                      go_simp
                      dsimp only [OnlyN, Exit.then, wpTail, Exit.inBlock]
                      go_wp2
                      go_roundw
                      case rel => exact ⟨k + 1, Nat.succ_le_of_lt hkc, by go_num, T', _, HG1.out, by have h := HG2.out; rw [wroteM_at] at h; rw [wroteM_succ, HBT.out]; exact h, HG3.out _ HBX.out (by simp), fun q hq => HG3.out q (HBL.out q hq) (by rw [List.mem_singleton.1 hq]; simp)⟩
                      case measure => clear e1 e2 e3 e4 e5 e6 e7 e8; simp [intOf]; omega
                  · obtain ⟨T2, hb1, hb2, hb3⟩ := rows_set h1 h2 hlt8 (Upd.refl _ _) (v' := .slice none 0 0) (l' := []) (.inl ⟨rfl, rfl⟩) (fun x hx => by simp [Value.ownBlock] at hx)
                    have hbx := hb3 _ h3 (by simp)
                    have hbl := fun q hq => hb3 q (h4 q hq) (by rw [List.mem_singleton.1 hq]; simp)
                    clear h1 h2 h3 h4 hb3
                    obtain ⟨v', w4, ⟨av, nv, cv, rfl⟩, hr, ⟨m0, m1, m2, m3⟩, hE, T', g1, g2, g3⟩ := app_step hb1 hb2 (i := p + k) hlt8 (by rw [setf_same]; decide) bt 31
                    rw [setf_same] at hr m0 m1 m2
                    have kx := hE _ hbx (by simp)
                    have kl := hE _ (hbl _ (List.mem_singleton.2 rfl)) (by simp)
                    have m1' : ((wr.setCell ⟨w2.heap.size, p + k, none⟩ (.slice none 0 0)).alloc (.cells #[.int .u8 bt] 5)).cell? ⟨w2.heap.size, p + k, none⟩ = some (.slice none 0 0) := m1
                    have s1' := hS ((wr.setCell ⟨w2.heap.size, p + k, none⟩ (.slice none 0 0)).alloc (.cells #[.int .u8 bt] 5)) kx.2.1 kl.2.1
                    have s0 := hS _ kx.1 kl.1
                    have s1 := hS _ kx.2.1 kl.2.1
                    have s2 := hS _ kx.2.2.1 kl.2.2.1
                    have s3 := hS _ kx.2.2.2 kl.2.2.2
                    have HG1 := Lib.hid g1
                    have HG2 := Lib.hid g2
                    have HG3 := Lib.hid g3
                    have HHR := Lib.hid hr
                    rw [show (wr.setCell ⟨w2.heap.size, p + k, none⟩ (.slice none 0 0)).heap.size = wr.heap.size from World.size_setCell ..] at hr
                    have HHR2 := Lib.hid hr
                    have HBX := Lib.hid hbx
                    have HBL := Lib.hid hbl
                    clear hr g1 g2 g3 kx kl hE hb1 hb2 hbx hbl
                    go_wp2_with fail
                    refine wp_region_order (fun W' => W'.cell? ⟨_, 1, none⟩ = some (.int .i64 (p : Nat)) ∧ W'.cell? ⟨lg, 256 * k, none⟩ = some (.int .u8 (bt : Nat))) [0, 1, 2, 3, 4, 5, 6, 7, 8, 10, 11, 12, 13, 14] [[9, 15, 16, 17, 18], [15, 9, 16, 17, 18]] 5 rfl (by kernel_rfl) s0 ?_
                    simp only [List.map_cons, List.map_nil, opAt]
                    iterate 14
                      apply reads_step rfl
                      · intro wq hq
                        obtain ⟨hq1, hq2⟩ := hq
                        go_simp
                        all_goals (try simp only [e3, e4, if_pos e5, if_pos e6, e7, e8])
                        all_goals with_reducible rfl
                      simp only [Act.put, List.setIfInBounds_toArray, List.set_cons_zero, List.set_cons_succ]
                    refine ⟨?_, ?_, trivial⟩
                    · simp only [List.map_cons, List.map_nil, opAt]
                      refine ⟨rfl, ?_⟩
                      go_simp
                      refine tail_val (w' := (wr.setCell ⟨w2.heap.size, p + k, none⟩ (.slice none 0 0)).drew.alloc (.cells #[.int .u8 (bt : Nat)] 5)) (.slice (some ⟨(wr.setCell ⟨w2.heap.size, p + k, none⟩ (.slice none 0 0)).heap.size, 0, none⟩) 1 1) rfl (exec_build1 rfl Try.underlying31 HI.out iz0 iz1 rfl (v := .int .u8 (bt : Nat)) rfl rfl) s1 ?_
                      simp only [Act.put, List.setIfInBounds_toArray, List.set_cons_zero, List.set_cons_succ]
                      refine tail_val (w' := w4) (.slice av nv cv) rfl (exec_append rfl (vm := .slice none 0 0) (vx := .slice (some ⟨(wr.setCell ⟨w2.heap.size, p + k, none⟩ (.slice none 0 0)).heap.size, 0, none⟩) 1 1) rfl rfl HHR.out) s2 ?_
                      simp only [Act.put, List.setIfInBounds_toArray, List.set_cons_zero, List.set_cons_succ]
                      refine ⟨rfl, ?_⟩
                      go_simp
                      refine ⟨rfl, ?_⟩
                      go_simp
                      dsimp only [OnlyN, Exit.then, wpTail, Exit.inBlock]
                      go_wp2
                      go_roundw
                      case rel => exact ⟨k + 1, Nat.succ_le_of_lt hkc, by go_num, T', _, HG1.out, by have h := HG2.out; rw [setf_same, setf_setf, setf_setf] at h; rw [wroteM_succ, HBT.out]; exact h, HG3.out _ HBX.out (by simp), fun q hq => HG3.out q (HBL.out q hq) (by rw [List.mem_singleton.1 hq]; simp)⟩
                      case measure => clear e1 e2 e3 e4 e5 e6 e7 e8; simp [intOf]; omega
                    · simp only [List.map_cons, List.map_nil, opAt]
                      refine tail_val (w' := (wr.setCell ⟨w2.heap.size, p + k, none⟩ (.slice none 0 0)).drew.alloc (.cells #[.int .u8 (bt : Nat)] 5)) (.slice (some ⟨(wr.setCell ⟨w2.heap.size, p + k, none⟩ (.slice none 0 0)).heap.size, 0, none⟩) 1 1) rfl (exec_build1 rfl Try.underlying31 HI.out iz0 iz1 rfl (v := .int .u8 (bt : Nat)) rfl rfl) s1 ?_
                      simp only [Act.put, List.setIfInBounds_toArray, List.set_cons_zero, List.set_cons_succ]
                      refine ⟨rfl, ?_⟩
                      go_simp
                      first | refine ⟨s1, ?_⟩ | skip
                      refine tail_val (w' := w4) (.slice av nv cv) rfl (exec_append rfl (vm := .slice none 0 0) (vx := .slice (some ⟨wr.heap.size, 0, none⟩) 1 1) rfl rfl HHR2.out) s2 ?_
                      simp only [Act.put, List.setIfInBounds_toArray, List.set_cons_zero, List.set_cons_succ]
                      refine ⟨rfl, ?_⟩
                      go_simp
                      refine ⟨rfl, ?_⟩
                      go_simp
                      dsimp only [OnlyN, Exit.then, wpTail, Exit.inBlock]
                      go_wp2
                      go_roundw
                      case rel => exact ⟨k + 1, Nat.succ_le_of_lt hkc, by go_num, T', _, HG1.out, by have h := HG2.out; rw [setf_same, setf_setf, setf_setf] at h; rw [wroteM_succ, HBT.out]; exact h, HG3.out _ HBX.out (by simp), fun q hq => HG3.out q (HBL.out q hq) (by rw [List.mem_singleton.1 hq]; simp)⟩
                      case measure => clear e1 e2 e3 e4 e5 e6 e7 e8; simp [intOf]; omega
                · have HWA : Hid (WroteAt w d w2.heap.size xbk F5 K (.cells (opCells 1 p xc 0 xf xu (.slice xpa xn xpc)) 29 (0, 0)) (S.write p D xu).2 M xu p D k wr) := Lib.hid ⟨T1, V1, h1, h2, h3, h4⟩
                  have hkN : k = N / 256 := by omega
                  have HKN2 := Lib.hid hkN
                  clear h1 h2 h3 h4 hkN
                  go_wp2
                  go_roundw
                  case rel =>
                    refine ⟨j + 1, by omega, by go_num, ?_⟩
                    obtain ⟨T1, V1, h1, h2, _⟩ := HWA.out
                    exact ⟨_, _, _, _, _, h1, h2.weak, by have h := HF1.out.write HFR.out HDB.out (fun q hq => HWH.out.2 q (by rw [HN2.out] at hq; exact hq)); rw [HN2.out, ← HKN2.out] at h; exact h⟩
                  case measure => simp [intOf]; omega
            · have hz' : (fr != 0) = true := by simpa using hz
              go_wp2
              go_roundw
              case rel => exact ⟨j + 1, by omega, by go_num, _, _, _, _, _, H5.out, HR5.out.weak, HF1.out.same (write_n S xa D xu).1 (write_ne (by rw [HFR.out]; exact hz))⟩
              case measure => simp [intOf]; omega
          by_cases e2 : xk = 2
          · subst e2
            have hfl := ld_flush HL1.out (e0 := S.flush.1) (S' := S.flush.2) rfl
            obtain ⟨fr, hfr⟩ : ∃ fr, S.flush.1 = fr := ⟨_, rfl⟩
            rw [hfr] at hfl
            have HFL := Lib.hid hfl
            have HFR := Lib.hid hfr
            clear hfl hfr
            go_wp2_with fail
            (with_reducible refine HFL.out.mono ?_)
            rintro e w4 ⟨rfl, h4⟩
            have H4 := Lib.hid h4
            clear h4
            by_cases hz : fr = 0
            · subst hz
              have hfa : FlushAt w d w2.heap.size F1 S.flush.2 M 0 w4 := ⟨_, V, H4.out, HR1.out.weak.congr fun i _ => (if_neg (Nat.not_lt_zero i)).symm⟩
              have HFA := Lib.hid hfa
              clear hfa HXB
              go_wp2_with fail
              go_loopw [13] (fun i wr' => ∃ k : Nat, k ≤ 8 ∧ i = .int .i64 k ∧ FlushAt w d w2.heap.size F1 S.flush.2 M k wr') (fun i _ => 8 - (intOf i).toNat)
              case atStart => exact ⟨0, by omega, rfl, HFA.out⟩
              case round =>
                obtain ⟨k, hk, rfl, T1, V1, h1, h2⟩ := hrel
                by_cases hkc : k < 8
                · have hrow := h2.row k hkc
                  rw [lastM_at] at hrow
                  have hne := HF1.out.ne k hkc
                  have hlen := HF1.out.len k hkc
                  obtain ⟨g1, o1, c1, eV, hlc, hcm, hnew⟩ := (hrow.new (fun p hp => (h1.2.2.1 p hp).2)).tail hne
                  obtain ⟨q, hq⟩ : ∃ q, (M k).length = q + 1 := ⟨(M k).length - 1, by have := List.length_pos_iff.2 hne; omega⟩
                  rw [hq] at eV hlc hnew hlen
                  rw [Nat.add_sub_cancel] at hnew
                  have hset := rows_set h1 h2 hkc ((Upd.refl _ wr).drew) (v' := .slice (some ⟨g1, o1 + q, none⟩) 1 (c1 - q)) (l' := [(M k).getLast?.getD 0]) hnew (fun x hx => .inl (by rw [eV]; simpa [Value.ownBlock] using hx))
                  rw [← lastM_succ] at hset
                  have qm := cells_of (h1.get h2.mem)
                  have qj := qm.1 k
                  have qf := qm.2 k
                  rw [mayCells_get V1 hkc, eV] at qj
                  obtain ⟨e9, e10, e11, e12, e13⟩ := idx_last (q := q) (c := c1) (by have := HL.out; omega) hlc
                  have HSET := Lib.hid hset
                  have HQ := Lib.hid (show q ≤ 1990000000001 by have := HL.out; omega)
                  have hqc : q + 1 ≤ c1 := hlc
                  have hcm' : c1 ≤ 9223372036854775807 := by unfold maxLen at hcm; omega
                  clear h1 h2 hrow hne hlen hnew hset qm hq hlc hcm eV
                  go_wp2_with fail
                  refine wp_region_still_tail 10 (by kernel_rfl) (by kernel_rfl) ?_
                  simp only [List.take_succ_cons, List.take_zero, List.drop_succ_cons, List.drop_zero]
                  change wpStill _ _ wr.drew (fun a' => wpList _ _ _ _ a' wr.drew) _ _
                  iterate 10 still_step
                  clear e9 e10 e11 e12 e13
                  refine wpStill_nil ?_
                  go_wp2
                  go_roundw
                  case rel =>
                    refine ⟨k + 1, Nat.succ_le_of_lt hkc, by go_num, ?_⟩
                    obtain ⟨T', h1, h2, _⟩ := HSET.out
                    exact ⟨T', _, h1, h2⟩
                  case measure => simp [intOf]; omega
                · have HWA : Hid (FlushAt w d w2.heap.size F1 S.flush.2 M k wr) := Lib.hid ⟨T1, V1, h1, h2⟩
                  have hkN : k = 8 := by omega
                  have HKN2 := Lib.hid hkN
                  clear h1 h2 hkN
                  go_wp2
                  go_roundw
                  case rel =>
                    refine ⟨j + 1, by omega, by go_num, ?_⟩
                    obtain ⟨T1, V1, h1, h2⟩ := HWA.out
                    exact ⟨_, _, _, _, _, h1, h2.congr fun i hi => if_pos (by rw [HKN2.out]; exact hi), HF1.out.flush HFR.out⟩
                  case measure => simp [intOf]; omega
            · have hz' : (fr != 0) = true := by simpa using hz
              go_wp2
              go_roundw
              case rel => exact ⟨j + 1, by omega, by go_num, _, _, _, _, _, H4.out, HR1.out.weak, HF1.out.same (flush_n S) (flush_ne (by rw [HFR.out]; exact hz))⟩
              case measure => simp [intOf]; omega
          by_cases e3 : xk = 3
          · subst e3
            have HFA := Lib.hid (ld_fail HL1.out xa xc (e0 := (S.fail xa xc).1) (S' := (S.fail xa xc).2) rfl)
            go_wp2_with fail
            (with_reducible refine HFA.out.mono ?_)
            rintro e w4 ⟨rfl, h4⟩
            have H4 := Lib.hid h4
            clear h4
            go_wp2
            go_roundw
            case rel =>
              refine ⟨j + 1, by omega, by go_num, _, _, _, _, _, H4.out, HR1.out.weak, HF1.out.same ?_ ?_⟩
              · unfold Dk.fail; split <;> rfl
              · unfold Dk.fail; split <;> rfl
            case measure => simp [intOf]; omega
          by_cases e4 : xk = 4
          · subst e4
            have HCU := Lib.hid (ld_cut HL1.out xc (e0 := (S.cut xc).1) (S' := (S.cut xc).2) rfl)
            go_wp2_with fail
            (with_reducible refine HCU.out.mono ?_)
            rintro e w4 ⟨rfl, h4⟩
            have H4 := Lib.hid h4
            clear h4
            go_wp2
            go_roundw
            case rel =>
              refine ⟨j + 1, by omega, by go_num, _, _, _, _, _, H4.out, HR1.out.weak, HF1.out.same ?_ ?_⟩
              · unfold Dk.cut; split <;> rfl
              · unfold Dk.cut; split <;> rfl
            case measure => simp [intOf]; omega
          go_wp2
          go_roundw
          case rel => exact ⟨j + 1, by omega, by go_num, _, _, _, _, _, HL1.out, HR1.out.weak, HF1.out.same rfl rfl⟩
          case measure => simp [intOf]; omega
        · obtain rfl : j = n := by omega
          have hpk := HP.out.up hL.2.2.2
          have hvr : ∀ i, i < S.n → (S.sec i).ver.length ≤ 2000000000000 := fun i hi => by
            have := hF.verl i (by rw [← hF.n]; exact hi)
            have := HL.out
            omega
          have HCR := Lib.hid (ld_crash (pc := pc) hL hpk.1 (fun b o e h0 hf => by have := hpk.2.2.2 (by rw [← hpk.2.1]; exact h0) b o e; have := hL.2.1 b hf; omega) (by rw [hpk.2.1]; exact hpk.2.2.1) hvr hpk.2.1.symm)
          have HFC := Lib.hid (fun i hi => hF.crash picks i hi)
          have HFB := Lib.hid hF.byte
          have HFN := Lib.hid hF.n
          have HNE := Lib.hid hF.ne
          have HLEN := Lib.hid hF.len
          have HR0 := Lib.hid hR
          clear hpk hvr hL hR hF
          go_wp2_with fail
          (with_reducible refine HCR.out.mono ?_)
          rintro e w4 ⟨rfl, h4⟩
          have he : EndAt w d w2.heap.size (S.crash picks) M w4 := ⟨S.crash picks, _, _, _, HFN.out, rfl, rfl, h4, HR0.out⟩
          have HE := Lib.hid he
          clear he h4
          go_wp2_with fail
          go_loopw [14] (fun x wr' => ∃ i : Nat, i ≤ 8 ∧ x = .int .i64 i ∧ EndAt w d w2.heap.size (S.crash picks) M wr') (fun i _ => 8 - (intOf i).toNat)
          case atStart => exact ⟨0, by omega, rfl, HE.out⟩
          case round =>
            obtain ⟨i, hi, rfl, S1, F5, T5, V5, n5, s5, f5, h5, R5⟩ := hrel
            by_cases hi8 : i < 8
            · obtain ⟨b, hb, hsec⟩ := HFC.out i hi8
              have hbt := HFB.out i hi8 b hb
              obtain ⟨R, hRl, hRg, hrd⟩ : ∃ R : List Nat, R.length = 256 ∧ (∀ t, t < 256 → R.getD t 0 = b) ∧ S1.read i 1 = ((R, 0), S1.tick 1) := ⟨_, List.length_replicate, fun t ht => getD_rep ht, end_read n5 s5 f5 hi8 hsec⟩
              have HRD := Lib.hid (ld_read h5 i 1 hrd)
              have HRL := Lib.hid hRl
              have HRG := Lib.hid hRg
              have HB := Lib.hid hb
              have HB2 := Lib.hid hbt
              have N5 := Lib.hid n5
              have S5 := Lib.hid s5
              have F5' := Lib.hid f5
              have RR5 := Lib.hid R5
              clear hb hsec hbt n5 s5 f5 h5 R5 hrd hRl hRg
              go_wp2_with fail
              (with_reducible refine HRD.out.mono ?_)
              rintro e w5 ⟨⟨v5, rfl, r5⟩, h5⟩
              obtain ⟨g5, cap5, rfl, -, -, -, -, hb5⟩ := row_some r5 HRL.out (by decide)
              obtain ⟨g2, o2, c2, eV, hc2, hcell⟩ := ((RR5.out.row i hi8).new (fun p hp => (h5.2.2.1 p hp).2)).cell (HNE.out i hi8)
              have qm := cells_of (h5.get RR5.out.mem)
              have qj := qm.1 i
              rw [mayCells_get V5 hi8, eV] at qj
              obtain ⟨L, hL⟩ : ∃ L, (M i).length = L := ⟨_, rfl⟩
              have hlen := HLEN.out i hi8
              rw [hL] at qj hc2 hcell hlen
              have HL2 := Lib.hid hL
              have HC := Lib.hid hcell
              have HBY := Lib.hid hb5
              have H5 := Lib.hid h5
              have QJ := Lib.hid qj
              have QM := Lib.hid (h5.get RR5.out.mem)
              have hLn : L ≤ 1990000000001 := by have := HL.out; omega
              have EV := Lib.hid eV
              rw [hL] at eV
              have EV := Lib.hid eV
              clear r5 hb5 hcell qm hL h5 eV hlen
              go_wp2_with fail
              go_loopw [17, 18] (fun x y wr' => ∃ k : Nat, k ≤ L ∧ y = .int .i64 k ∧ x = .bool (((M i).take k).any (· == b)) ∧ Upd [] w5 wr') (fun _ y _ => L - (intOf y).toNat)
              case atStart => exact ⟨0, by omega, rfl, rfl, Upd.refl [] _⟩
              case round =>
                obtain ⟨k, hk, rfl, rfl, hU⟩ := hrel
                have qm := cells_of (hU.get QM.out (by simp))
                have qj := qm.1 i
                rw [mayCells_get V5 hi8, EV.out] at qj
                have zz := fun t (ht : t < 256) => (HBY.out.upd hU (by simp)).at t (by rw [HRL.out]; exact ht)
                have zb0 := zz 0 (by decide)
                have zb9 := zz 255 (by decide)
                rw [Nat.zero_add, HRG.out _ (by decide)] at zb0 zb9
                have HU := Lib.hid hU
                by_cases hkL : k < L
                · have z2 : wr.cell? ⟨g2, o2 + k, none⟩ = some (.int .u8 ((M i).getD k 0 : Nat)) := by
                    rw [← HC.out k hkL]
                    exact World.cell?_of_block (hU.block g2 (World.block_lt_of_cell? _ _ (HC.out k hkL)) (by simp))
                  obtain ⟨x, hx⟩ : ∃ x, (M i).getD k 0 = x := ⟨_, rfl⟩
                  rw [hx] at z2
                  have HX := Lib.hid hx
                  obtain ⟨bb, hbb⟩ : ∃ bb, ((M i).take k).any (· == b) = bb := ⟨_, rfl⟩
                  rw [hbb]
                  have HBB := Lib.hid hbb
                  clear hx hbb hU qm zz zb9
                  cases bb
                  · by_cases hxb : x = b
                    · subst hxb
                      go_wp2_with fail
                      go_quiet (fail)
                      go_wp2
                      go_roundw
                      case rel => exact ⟨k + 1, Nat.succ_le_of_lt hkL, by go_num, by rw [any_succ _ _ _ (by rw [HL2.out]; exact hkL), HBB.out, HX.out]; simp, HU.out.drewN _⟩
                      case measure => simp [intOf]; omega
                    · have hxb' : ((x : Int) == (b : Int)) = false := by simpa using (fun e : (x : Int) = (b : Int) => hxb (by omega))
                      go_wp2_with fail
                      go_quiet (fail)
                      go_wp2
                      go_roundw
                      case rel => exact ⟨k + 1, Nat.succ_le_of_lt hkL, by go_num, by rw [any_succ _ _ _ (by rw [HL2.out]; exact hkL), HBB.out, HX.out]; simp [hxb], HU.out.drewN _⟩
                      case measure => simp [intOf]; omega
                  · go_wp2_with fail
                    go_quiet (fail)
                    go_wp2
                    go_roundw
                    case rel => exact ⟨k + 1, Nat.succ_le_of_lt hkL, by go_num, by rw [any_succ _ _ _ (by rw [HL2.out]; exact hkL), HBB.out, HX.out]; simp, HU.out.drewN _⟩
                    case measure => simp [intOf]; omega
                · obtain rfl : k = L := by omega
                  have hin : ((M i).take k).any (· == b) = true := by
                    rw [← HL2.out, List.take_length, List.any_eq_true]
                    exact ⟨b, HB.out, by simp⟩
                  rw [hin]
                  clear hin hU qm zz
                  go_wp2_with fail
                  go_quiet (fail)
                  go_wp2
                  go_roundw
                  case rel =>
                    exact ⟨i + 1, Nat.succ_le_of_lt hi8, by go_num, S1.tick 1, _, _, _, N5.out, S5.out, by show setf S1.fall 1 (S1.fall 1 - 1) 1 = 0; rw [setf_same, F5'.out], H5.out.up (HU.out.drewN _), RR5.out⟩
                  case measure => simp [intOf]; omega
            · have hd : S1.dirty = [] := by
                unfold Dk.dirty
                rw [List.filter_eq_nil_iff]
                intro q hq
                rw [s5]
                obtain ⟨b, _, e⟩ := HFC.out q (by rw [n5] at hq; exact List.mem_range.1 hq)
                rw [e]
                simp
              have hdi := x_dirty h5.1
              rw [hd] at hdi
              have HDI := Lib.hid hdi
              have H5 := Lib.hid h5
              clear hd hdi h5 R5 n5 s5 f5
              go_wp2_with fail
              (with_reducible refine HDI.out.mono ?_)
              rintro e w5 ⟨⟨v5, rfl, r5⟩, u5⟩
              obtain ⟨a5, cap5, rfl, -, -⟩ := row_ints r5
              have U5 := Lib.hid (H5.out.2.2.2.trans u5)
              clear r5 u5
              simp only [List.length_nil]
              go_wp2
              go_ret
              exact ⟨rfl, U5.out⟩
end Go.Proofs.Ytpnpjffhkaejgaa
