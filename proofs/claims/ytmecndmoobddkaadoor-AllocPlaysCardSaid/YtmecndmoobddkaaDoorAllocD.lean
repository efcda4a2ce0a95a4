/-
  PROVED HERE: Runs of package alloc returns the runs of free pages, in new memory. Conditions: the block is the allocator's, whole.
-/
import Derived.Test.YtmecndmoobddkaaDoorAllocC
namespace Go.Proofs.YtmecndmoobddkaaDoor
open Go.RowKit

def ents (l : List (Nat × Nat)) : List Value := l.flatMap fun x => [.int .i64 (x.1 : Int), .int .i64 (x.2 : Int)]
theorem ents_append (a b : List (Nat × Nat)) : ents (a ++ b) = ents a ++ ents b := by simp [ents]
theorem ents_len (l : List (Nat × Nat)) : (ents l).length = l.length * 2 := by
  induction l with
  | nil => rfl
  | cons x l ih => simp only [ents, List.flatMap_cons, List.length_append, List.length_cons, List.length_nil] at ih ⊢; omega
/-- A value that is a list of entries in memory of its own. -/
def IsEnts (w : World) (B : Nat) (v : Value) (l : List (Nat × Nat)) : Prop := w.ownsRow B 32 2 v l.length (ents l)
theorem IsEnts.nil (w : World) (B : Nat) : IsEnts w B (.slice none 0 0) [] := ⟨rfl, .inl ⟨rfl, rfl⟩⟩
theorem infoEntry : (Tryd.prog.info? 32).map (fun i => (i.zero, i.size, i.bytes)) = some (some (.agg #[.int .i64 0, .int .i64 0]), 2, 16) := by kernel_rfl

theorem runs_cut (f : Nat → Bool) (n p : Nat) (h : ∀ q, n ≤ q → f q = false) (hp : n ≤ p) : runs f p = runs f n := by
  obtain ⟨d, rfl⟩ := Nat.exists_eq_add_of_le hp
  induction d with
  | zero => rfl
  | succ d ih => rw [← Nat.add_assoc, runs_skip _ _ (h _ (by omega))]; exact ih (by omega)

set_option maxHeartbeats 1600000 in
theorem runs_any {b : Nat} {s : St} {w : World} (h : IsA w b s) :
    Calls Tryd.prog 11 #[pt b] w fun e w' => ∃ v, e = .returned v ∧ IsEnts w' w.heap.size v s.runs ∧ Upd [] w w' := by
  have hn := h.2.2.1
  have hnot : ∀ q, s.n ≤ q → s.F.testBit q = false := fun q hq => bit_of_lt h.2.2.2.1 hq
  have HN := Lib.hid hnot
  have H := Lib.hid h
  have hB : b < w.heap.size := lt_of_block h.1
  obtain ⟨i0, hi, hz0, hz1, hz2⟩ := info_parts infoEntry
  have HI := Lib.hid hi
  clear h hnot hi
  go_enter Tryd.func11, Tryd.ntmps11
  go_wp2
  go_loopw [3, 4] (fun v i wr => ∃ p : Nat, p ≤ s.n + 1 ∧ i = .int .i64 p ∧ IsEnts wr w.heap.size v (runs s.F.testBit p) ∧ Hid (p = 0 ∨ s.F.testBit (p - 1) = false) ∧ Upd [] w wr) (fun _ i _ => s.n + 1 - (intOf i).toNat)
  case atStart => exact ⟨0, by omega, rfl, IsEnts.nil _ _, .inl rfl, Upd.refl _ _⟩
  case round =>
    obtain ⟨p, hp, rfl, hv, h0, hU⟩ := hrel
    have hA : IsA wr b s := H.out.upd hU (by simp)
    have hcn := hA.cell 0 (by decide)
    rw [s.cell_n] at hcn
    have HA := Lib.hid hA
    have HU := Lib.hid hU
    have HV := Lib.hid hv
    clear hA hU hv
    by_cases hlt : p < s.n
    · go_wp2
      go_loop [4] (fun i => ∃ q : Nat, p ≤ q ∧ q ≤ s.n ∧ i = .int .i64 q ∧ Hid (∀ r, p ≤ r → r < q → s.F.testBit r = true)) (fun i => s.n + 1 - (intOf i).toNat)
      case atStart => exact ⟨p, by omega, by omega, rfl, fun r _ _ => by omega⟩
      case round =>
        obtain ⟨q, hpq, hq, rfl, hr⟩ := hrel
        cases hf : s.isFree (q : Int)
        · have Hf := Lib.hid hf
          clear hf
          have hfb : s.F.testBit q = false := by
            rcases Nat.lt_or_ge q s.n with h1 | h1
            · have := Hf.out
              simp only [St.isFree, St.there, Int.toNat_natCast] at this
              rw [show decide (0 ≤ (q : Int) ∧ (q : Int) < s.n) = true by simp; omega] at this
              simpa using this
            · exact HN.out q h1
          have hrun := runs_run s.F.testBit p (q - p) h0.out (fun r h1 h2 => hr.out r h1 (by omega))
          rw [show p + (q - p) = q by omega] at hrun
          have hskip := runs_skip s.F.testBit q hfb
          by_cases hd : p = q
          · subst hd
            rw [if_pos (by omega), List.append_nil] at hrun
            have HR := Lib.hid (hskip.trans hrun)
            have H0 : Hid (p + 1 = 0 ∨ s.F.testBit (p + 1 - 1) = false) := .inr hfb
            clear hrun hskip hfb
            go_wp2_with (go_at_call 23; refine (isFree_any HA.out).mono ?_; rintro e w2 ⟨rfl, rfl⟩; rw [Hf.out])
            go_roundw
            case rel => exact ⟨p + 1, by omega, by go_num, by rw [HR.out]; exact HV.out, H0, HU.out⟩
            case measure => simp [intOf]; omega
          · rw [if_neg (by omega)] at hrun
            have HR := Lib.hid (hskip.trans hrun)
            have H0 : Hid (q + 1 = 0 ∨ s.F.testBit (q + 1 - 1) = false) := .inr hfb
            have hlen := runs_len s.F.testBit p
            have hgt : p < q := by omega
            clear hrun hskip hfb hd
            go_wp2_with (first
              | (go_at_call 23; refine (isFree_any HA.out).mono ?_; rintro e w2 ⟨rfl, rfl⟩; rw [Hf.out])
              | (at_builtin; refine wpList_append_own _ rfl (.tmp 23) (.tmp 29) 28 rfl w.heap.size 32 i0 _ 2 16 Tryd.underlying28 HI.out hz0 hz1 hz2 rfl (by decide) _ _ _ rfl (HV.out.alloc _) ⟨_, 0, none⟩ 1 1 [.int .i64 (p : Int), .int .i64 ((q : Int) - p)] rfl rfl ?c1 ?c2 ?c3 ?c4 ?c5 ?_))
            case c1 => exact news_at _ _ _
            case c2 => simp [Value.oneCell']
            case c3 => unfold maxLen; omega
            case c4 => omega
            case c5 => simp; have := HU.out.size; omega
            intro v' w1 hown hgr _
            have hown' : IsEnts w1 w.heap.size v' (runs s.F.testBit p ++ [(p, q - p)]) := by
              unfold IsEnts
              rw [ents_append, List.length_append]
              have e : ents [(p, q - p)] = [.int .i64 (p : Int), .int .i64 ((q : Int) - p)] := by simp [ents, Int.ofNat_sub (Nat.le_of_lt hgt)]
              rw [e]
              exact hown
            have hU1 : Upd [] w w1 := by
              refine (HU.out.alloc _).step (Upd.of_grown hgr) fun x hx => .inr ?_
              exact ownsRow_block HV.out x hx
            have HV1 := Lib.hid hown'
            have HU1 := Lib.hid hU1
            clear hown hown' hgr hU1 HV
            go_wp2
            go_roundw
            case rel => exact ⟨q + 1, by omega, by go_num, by rw [HR.out]; exact HV1.out, H0, HU1.out⟩
            case measure => simp [intOf]; omega
        · have Hf := Lib.hid hf
          have hqn : q < s.n := by
            simp only [St.isFree, St.there, Bool.and_eq_true, decide_eq_true_eq] at hf; omega
          have hr2 : Hid (∀ r, p ≤ r → r < q + 1 → s.F.testBit r = true) := fun r h1 h2 => by
            by_cases e : r = q
            · subst e; simpa [St.isFree] using (Bool.and_eq_true _ _ ▸ hf).2
            · exact hr.out r h1 (by omega)
          clear hf
          go_wp2_with (go_at_call 23; refine (isFree_any HA.out).mono ?_; rintro e w' ⟨rfl, rfl⟩; rw [Hf.out])
          go_round
          case rel => exact ⟨q + 1, by omega, by omega, by go_num, hr2⟩
          case measure => simp [intOf]; omega
    · go_wp2
      go_ret
      exact ⟨_, rfl, by rw [St.runs, ← runs_cut _ _ p HN.out (by omega)]; exact HV.out, HU.out⟩
end Go.Proofs.YtmecndmoobddkaaDoor
