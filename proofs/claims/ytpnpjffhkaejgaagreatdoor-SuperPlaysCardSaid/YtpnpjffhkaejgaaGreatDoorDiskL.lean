/-
  PROVED HERE: Write. Conditions: those that each theorem names.
-/
import Derived.Test.YtpnpjffhkaejgaaGreatDoorDiskK
namespace Go.Proofs.YtpnpjffhkaejgaaGreatDoor
open Go.RowKit Go.Shelf

attribute [local go_sem] Oper.semAt_some

def puts (S : Dk) (fua : Bool) (p : Nat) (ls : List (List Nat)) : Dk := (ls.foldl (fun (q : Dk × Nat) l => (putV q.1 fua q.2 l, q.2 + 1)) (S, p)).1
theorem puts_fold (fua : Bool) (ls : List (List Nat)) : ∀ (S : Dk) (p : Nat), (ls.foldl (fun (q : Dk × Nat) l => (putV q.1 fua q.2 l, q.2 + 1)) (S, p)).2 = p + ls.length := by
  induction ls with
  | nil => intro S p; rfl
  | cons l r ih => intro S p; rw [List.foldl_cons, ih, List.length_cons]; omega
theorem puts_snoc (S : Dk) (fua : Bool) (p : Nat) (ls : List (List Nat)) (l : List Nat) : puts S fua p (ls ++ [l]) = putV (puts S fua p ls) fua (p + ls.length) l := by
  unfold puts
  rw [List.foldl_append, List.foldl_cons, List.foldl_nil, puts_fold]
theorem puts_n (S : Dk) (fua : Bool) (p : Nat) (ls : List (List Nat)) : (puts S fua p ls).n = S.n ∧ (puts S fua p ls).fall = S.fall ∧ (puts S fua p ls).left = S.left := by
  unfold puts
  induction ls generalizing S p with
  | nil => exact ⟨rfl, rfl, rfl⟩
  | cons l r ih => rw [List.foldl_cons]; exact ih _ _
def piece (data : List Nat) (j : Nat) : List Nat := (data.drop (256 * j)).take 256
def pieces (data : List Nat) : List (List Nat) := (List.range (data.length / 256)).map (piece data)
def Dk.write (S : Dk) (p : Int) (data : List Nat) (fua : Bool) : Int × Dk :=
  if data.length = 0 ∨ data.length % 256 ≠ 0 then (1, S) else if S.there p ((data.length / 256 : Nat) : Int) then (if S.hit 2 || S.down then (11, S.tick 2) else (0, (puts (S.tick 2) fua p.toNat (pieces data)).did)) else (2, S)
set_option maxRecDepth 100000 in
set_option maxHeartbeats 4000000 in
theorem write_bad {w : World} {d : Nat} {L : DLay} {F : Nat → Prop} {S : Dk} (h : IsDisk w d L F S) (p : Int) {a : Option Addr} {data : List Nat} {cap : Nat} (fua : Bool) (hlen : data.length ≤ 9223372036854775807) (hbad : data.length = 0 ∨ data.length % 256 ≠ 0) :
    Calls Tryz.prog 20 #[.pointer (some ⟨d, 0, none⟩), .int .i64 p, .slice a data.length cap, .bool fua] w fun e w' => e = .returned (.int .i64 1) ∧ IsDisk w' d L F S ∧ Upd [] w w' := by
  have HD := Lib.hid h
  generalize data.length = N at hbad hlen
  have hb2 : ((N : Int) == 0) = true ∨ (((N : Int) == 0) = false ∧ ((N : Int) % 256 != 0) = true ∧ (0 : Int) ≤ N) := by
    rcases Nat.eq_zero_or_pos N with e | e
    · exact .inl (by simp [e])
    · exact .inr ⟨by simpa using (by omega : ¬ N = 0), by simp; omega, by omega⟩
  clear h hbad
  refine (callsIn_wide (n := 8)).1 ?_
  rcases hb2 with h1 | ⟨h1, h2, h3⟩
  all_goals
    refine callsIn_of_wp_marks Tryz.func20 rfl trivial ?_ rfl
    simp only [Tryz.ntmps20, List.size_toArray, List.length_cons, List.length_nil, Nat.reduceAdd, Nat.reduceSub, Array.replicate_succ, Array.replicate_zero, List.push_toArray, List.append_toArray, List.nil_append, List.cons_append]
    gi_wp2
    have u : Upd [] w (((w.alloc (.cells #[.pointer (some ⟨d, 0, none⟩)] 25)).alloc (.cells #[.int .i64 p] 3)).alloc (.cells #[.bool fua] 4)) := (((Upd.refl [] w).alloc _).alloc _).alloc _
    exact ⟨_, results_tmp rfl _ _ _, rfl, HD.out.up u (by simp), u⟩
/-- The world behind the boxes of the arguments that the loop turns or reads. -/
def boxes (w : World) (d : Nat) (p : Int) (fua : Bool) : World := ((w.alloc (.cells #[.pointer (some ⟨d, 0, none⟩)] 25)).alloc (.cells #[.int .i64 p] 3)).alloc (.cells #[.bool fua] 4)
theorem boxes_upd (w : World) (d : Nat) (p : Int) (fua : Bool) : Upd [] w (boxes w d p fua) := (((Upd.refl [] w).alloc _).alloc _).alloc _
theorem boxes_get (w : World) (d : Nat) (p : Int) (fua : Bool) : (boxes w d p fua).heap[w.heap.size]? = some (.cells #[.pointer (some ⟨d, 0, none⟩)] 25 (0, 0)) ∧ (boxes w d p fua).heap[w.heap.size + 1]? = some (.cells #[.int .i64 p] 3 (0, 0)) ∧ (boxes w d p fua).heap[w.heap.size + 2]? = some (.cells #[.bool fua] 4 (0, 0)) := by
  unfold boxes
  have h1 := heap_alloc_new w (.cells #[.pointer (some ⟨d, 0, none⟩)] 25)
  have h2 := heap_alloc_new (w.alloc (.cells #[.pointer (some ⟨d, 0, none⟩)] 25)) (.cells #[.int .i64 p] 3)
  have h3 := heap_alloc_new ((w.alloc (.cells #[.pointer (some ⟨d, 0, none⟩)] 25)).alloc (.cells #[.int .i64 p] 3)) (.cells #[.bool fua] 4)
  rw [World.size_alloc] at h2
  rw [World.size_alloc, World.size_alloc] at h3
  exact ⟨((((Upd.refl [] _).alloc _).alloc _).get h1 (by simp)), (((Upd.refl [] _).alloc _).get h2 (by simp)), h3⟩
/-- The box of the disk's pointer behind what turned the disk's own block. -/
theorem box_up {w w1 : World} {d : Nat} {p : Int} {fua : Bool} (hd : d < w.heap.size) (u : Upd [d] (boxes w d p fua) w1) : w1.cell? ⟨w.heap.size, 0, none⟩ = some (.pointer (some ⟨d, 0, none⟩)) ∧ w1.frozen? ⟨w.heap.size, 0, none⟩ = false := by
  have h := cells_of (u.get (boxes_get w d p fua).1 (by simp; omega))
  exact ⟨by rw [h.1]; rfl, h.2 _⟩
set_option maxRecDepth 100000 in
set_option maxHeartbeats 4000000 in
theorem write_no {w : World} {d : Nat} {L : DLay} {F : Nat → Prop} {S : Dk} (h : IsDisk w d L F S) (p : Int) {a : Option Addr} {data : List Nat} {cap : Nat} (fua : Bool) (hlen : data.length ≤ 9223372036854775807) (h0 : data.length ≠ 0) (h1 : data.length % 256 = 0)
    (hno : S.there p ((data.length / 256 : Nat) : Int) = false ∨ (S.there p ((data.length / 256 : Nat) : Int) = true ∧ (S.hit 2 = true ∨ (S.hit 2 = false ∧ S.down = true)))) :
    Calls Tryz.prog 20 #[.pointer (some ⟨d, 0, none⟩), .int .i64 p, .slice a data.length cap, .bool fua] w fun e w' => e = .returned (.int .i64 (S.write p data fua).1) ∧ IsDisk w' d L F (S.write p data fua).2 ∧ Upd [d] w w' := by
  have HD := Lib.hid h
  have ub := boxes_upd w d p fua
  have HB := Lib.hid (h.up ub (by simp))
  have UB := Lib.hid ub
  have hW : S.write p data fua = if S.there p ((data.length / 256 : Nat) : Int) then (if S.hit 2 || S.down then (11, S.tick 2) else (0, (puts (S.tick 2) fua p.toNat (pieces data)).did)) else (2, S) := by unfold Dk.write; rw [if_neg (by omega)]
  have HT := Lib.hid (there_any HB.out.hd h.ok.n2 p ((data.length / 256 : Nat) : Int))
  have HF := Lib.hid (fails_any HB.out.hd h.ok.fall 2 (by decide))
  have e1 : ((data.length : Int) == 0) = false := by simpa using h0
  have e2 : ((data.length : Int) % 256 != 0) = false := by simp; omega
  have e3 : (0 : Int) ≤ data.length := by omega
  have e4 : ((data.length / 256 : Nat) : Int) = (data.length : Int) / 256 := by omega
  rw [e4] at hW hno HT
  generalize data.length = N at hlen h0 h1 hno HT e1 e2 e3 e4 hW
  clear e4
  clear h h0 h1
  unfold boxes at HT HF
  cases ht : S.there p ((N : Int) / 256)
  · rw [ht] at HT
    rw [ht, if_neg (by decide)] at hW
    rw [hW]
    clear hno ht hW HF HB
    refine (callsIn_wide (n := 8)).1 ?_
    refine callsIn_of_wp_marks Tryz.func20 rfl trivial ?_ rfl
    simp only [Tryz.ntmps20, List.size_toArray, List.length_cons, List.length_nil, Nat.reduceAdd, Nat.reduceSub, Array.replicate_succ, Array.replicate_zero, List.push_toArray, List.append_toArray, List.nil_append, List.cons_append]
    gi_wp2_with (refine ⟨trivial, ?_⟩; gi_at_call 35; refine (callsIn_wide.2 HT.out).mono ?_; rintro e w' ⟨rfl, rfl⟩)
    exact ⟨_, results_tmp rfl _ _ _, rfl, HD.out.up UB.out (by simp), UB.out.mono (by simp)⟩
  · rw [ht] at HT
    have hno2 : S.hit 2 = true ∨ (S.hit 2 = false ∧ S.down = true) := by
      rcases hno with h | h
      · rw [ht] at h; cases h
      · exact h.2
    rw [ht, if_pos rfl] at hW
    have hW2 : (if (S.hit 2 || S.down) = true then ((11 : Int), S.tick 2) else (0, (puts (S.tick 2) fua p.toNat (pieces data)).did)) = (11, S.tick 2) := if_pos (by rcases hno2 with h | ⟨h, h'⟩ <;> simp [*])
    rw [hW2] at hW
    rw [hW]
    clear hno ht hW hW2
    cases hh : S.hit 2
    rotate_left
    · rw [hh] at HF
      clear hno2
      refine (callsIn_wide (n := 8)).1 ?_
      refine callsIn_of_wp_marks Tryz.func20 rfl trivial ?_ rfl
      simp only [Tryz.ntmps20, List.size_toArray, List.length_cons, List.length_nil, Nat.reduceAdd, Nat.reduceSub, Array.replicate_succ, Array.replicate_zero, List.push_toArray, List.append_toArray, List.nil_append, List.cons_append]
      gi_wp2_with (first | (refine ⟨trivial, ?_⟩; gi_at_call 35; refine (callsIn_wide.2 HT.out).mono ?_; rintro e w' ⟨rfl, rfl⟩) | (refine ⟨trivial, ?_⟩; gi_at_call 36; refine (callsIn_wide.2 HF.out).mono ?_; rintro e w1 ⟨rfl, h1, u1⟩; have H1 := Lib.hid h1; have U1 := Lib.hid u1; clear h1 u1))
      exact ⟨_, results_tmp rfl _ _ _, rfl, HB.out.ticked U1.out 2 H1.out, (UB.out.mono (by simp)).trans U1.out⟩
    · have hdn : S.down = true := by
        rcases hno2 with h | h
        · rw [hh] at h; cases h
        · exact h.2
      rw [hh] at HF
      clear hno2
      refine (callsIn_wide (n := 8)).1 ?_
      refine callsIn_of_wp_marks Tryz.func20 rfl trivial ?_ rfl
      simp only [Tryz.ntmps20, List.size_toArray, List.length_cons, List.length_nil, Nat.reduceAdd, Nat.reduceSub, Array.replicate_succ, Array.replicate_zero, List.push_toArray, List.append_toArray, List.nil_append, List.cons_append]
      gi_wp2_with (first | (refine ⟨trivial, ?_⟩; gi_at_call 35; refine (callsIn_wide.2 HT.out).mono ?_; rintro e w' ⟨rfl, rfl⟩) | fail)
      refine ⟨trivial, ?_⟩
      gi_at_call 36
      refine (callsIn_wide.2 HF.out).mono ?_
      rintro e w1 ⟨rfl, h1, u1⟩
      obtain ⟨hb1, hb2⟩ := box_up (HD.out.old _ HD.out.fd) u1
      have H1 := Lib.hid h1
      have U1 := Lib.hid u1
      have hd := down_any h1
      rw [show (S.tick 2).down = S.down from rfl, hdn] at hd
      have HDN := Lib.hid hd
      clear h1 u1 hd hdn
      gi_wp2_with (refine ⟨trivial, ?_⟩; gi_at_call 37; refine (callsIn_wide.2 HDN.out).mono ?_; rintro e w2 ⟨rfl, rfl⟩)
      exact ⟨_, results_tmp rfl _ _ _, rfl, HB.out.ticked U1.out 2 H1.out, (UB.out.mono (by simp)).trans U1.out⟩
end Go.Proofs.YtpnpjffhkaejgaaGreatDoor
