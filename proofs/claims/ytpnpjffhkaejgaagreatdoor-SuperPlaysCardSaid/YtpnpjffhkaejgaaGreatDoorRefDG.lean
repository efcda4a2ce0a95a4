/-
  PROVED HERE: the document's disk: Crash. Conditions: those that each theorem names.
-/
import Derived.Test.YtpnpjffhkaejgaaGreatDoorRefDF
namespace Go.Proofs.YtpnpjffhkaejgaaGreatDoor
open Go.RowKit

/-- What the k-th dirty sector holds behind a crash. -/
def crashNext (S : Dk) (picks : List Int) (k : Nat) : List Nat :=
  if k < picks.length then
    (if pickN (picks.getD k 0) (S.sec (S.dirty.getD k 0)).ver.length = 0 then (S.sec (S.dirty.getD k 0)).dur else (S.sec (S.dirty.getD k 0)).ver.getD (pickN (picks.getD k 0) (S.sec (S.dirty.getD k 0)).ver.length - 1) [])
  else (S.sec (S.dirty.getD k 0)).dur
/-- The first k dirty sectors are done. -/
def crashK (S : Dk) (picks : List Int) : Nat → Dk
  | 0 => S
  | k + 1 => (crashK S picks k).setSec (S.dirty.getD k 0) ⟨crashNext S picks k, []⟩
theorem crashK_n (S : Dk) (picks : List Int) (k : Nat) : (crashK S picks k).n = S.n := by
  induction k with
  | zero => rfl
  | succ k ih => exact ih
theorem dirty_inj (S : Dk) {a b : Nat} (ha : a < S.dirty.length) (hb : b < S.dirty.length) (h : S.dirty.getD a 0 = S.dirty.getD b 0) : a = b := by
  have hs := dirty_sorted S
  rw [List.getD_eq_getElem?_getD, List.getElem?_eq_getElem ha, List.getD_eq_getElem?_getD, List.getElem?_eq_getElem hb] at h
  simp only [Option.getD_some] at h
  rw [List.pairwise_iff_getElem] at hs
  rcases Nat.lt_trichotomy a b with e | e | e
  · have := hs a b ha hb e; omega
  · exact e
  · have := hs b a hb ha e; omega
theorem crashK_sec (S : Dk) (picks : List Int) (k : Nat) (hk : k ≤ S.dirty.length) (i : Nat) :
    ((∃ a, a < k ∧ S.dirty.getD a 0 = i) ∧ (crashK S picks k).sec i = ⟨S.durs picks (min k picks.length) i, []⟩) ∨ ((∀ a, a < k → S.dirty.getD a 0 ≠ i) ∧ (crashK S picks k).sec i = S.sec i ∧ S.durs picks (min k picks.length) i = (S.sec i).dur) := by
  induction k with
  | zero => exact .inr ⟨fun a ha => absurd ha (Nat.not_lt_zero a), rfl, by rw [Nat.zero_min]; rfl⟩
  | succ k ih =>
    have ih := ih (by omega)
    have hd : ∀ j, S.durs picks (min (k + 1) picks.length) j = if k < picks.length then (if pickN (picks.getD k 0) (S.sec (S.dirty.getD k 0)).ver.length = 0 then S.durs picks k j else setf (S.durs picks k) (S.dirty.getD k 0) ((S.sec (S.dirty.getD k 0)).ver.getD (pickN (picks.getD k 0) (S.sec (S.dirty.getD k 0)).ver.length - 1) []) j) else S.durs picks (min k picks.length) j := fun j => by
      by_cases h : k < picks.length
      · rw [if_pos h, Nat.min_eq_left (by omega)]
        show (if _ then _ else _ : Nat → List Nat) j = _
        split <;> rfl
      · rw [if_neg h, Nat.min_eq_right (by omega), Nat.min_eq_right (by omega)]
    by_cases e : S.dirty.getD k 0 = i
    · refine .inl ⟨⟨k, by omega, e⟩, ?_⟩
      have hno : ∀ a, a < k → S.dirty.getD a 0 ≠ i := fun a ha h2 => by
        have := dirty_inj S (a := a) (b := k) (by omega) (by omega) (h2.trans e.symm); omega
      have hr : S.durs picks (min k picks.length) i = (S.sec i).dur := by
        rcases ih with ⟨⟨a, ha, h2⟩, _⟩ | ⟨_, _, h3⟩
        · exact absurd h2 (hno a ha)
        · exact h3
      show setf (crashK S picks k).sec (S.dirty.getD k 0) _ i = _
      rw [e, setf_same, hd]
      congr 1
      unfold crashNext
      rw [e]
      by_cases h : k < picks.length
      · rw [if_pos h, if_pos h]
        rw [Nat.min_eq_left (by omega)] at hr
        by_cases h0 : pickN (picks.getD k 0) (S.sec i).ver.length = 0
        · rw [if_pos h0, if_pos h0, hr]
        · rw [if_neg h0, if_neg h0, setf_same]
      · rw [if_neg h, if_neg h, hr]
    · have e' : i ≠ S.dirty.getD k 0 := fun h => e h.symm
      have hs : (crashK S picks (k + 1)).sec i = (crashK S picks k).sec i := setf_other _ _ e'
      have hdd : S.durs picks (min (k + 1) picks.length) i = S.durs picks (min k picks.length) i := by
        rw [hd]
        by_cases h : k < picks.length
        · rw [if_pos h, Nat.min_eq_left (by omega)]
          split
          · rfl
          · rw [setf_other _ _ e']
        · rw [if_neg h]
      rcases ih with ⟨⟨a, ha, h2⟩, h3⟩ | ⟨h2, h3, h4⟩
      · exact .inl ⟨⟨a, by omega, h2⟩, by rw [hs, hdd]; exact h3⟩
      · refine .inr ⟨fun a ha => ?_, by rw [hs]; exact h3, by rw [hdd]; exact h4⟩
        rcases Nat.lt_or_ge a k with h5 | h5
        · exact h2 a h5
        · obtain rfl : a = k := by omega
          exact e
theorem crashK_at (S : Dk) (picks : List Int) {k : Nat} (hk : k < S.dirty.length) : (crashK S picks k).sec (S.dirty.getD k 0) = S.sec (S.dirty.getD k 0) := by
  rcases crashK_sec S picks k (by omega) (S.dirty.getD k 0) with ⟨⟨a, ha, h⟩, _⟩ | ⟨_, h, _⟩
  · have := dirty_inj S (a := a) (b := k) (by omega) hk h; omega
  · exact h
theorem crashK_end (S : Dk) (picks : List Int) {i : Nat} (hi : i < S.n) : (S.crash picks).sec i = (crashK S picks S.dirty.length).sec i := by
  show (⟨S.durs picks (min S.dirty.length picks.length) i, []⟩ : Sec) = _
  rcases crashK_sec S picks S.dirty.length (Nat.le_refl _) i with ⟨_, h⟩ | ⟨h1, h2, h3⟩
  · exact h.symm
  · rw [h2, h3]
    have hv : (S.sec i).ver = [] := by
      by_cases hv : (S.sec i).ver = []
      · exact hv
      · have hm := mem_dirty.2 ⟨hi, hv⟩
        obtain ⟨a, ha, h⟩ := List.getElem_of_mem hm
        exact absurd (by rw [List.getD_eq_getElem?_getD, List.getElem?_eq_getElem ha]; exact h) (h1 a ha)
    rw [← hv]
theorem crashK_rest (S : Dk) (picks : List Int) (k : Nat) : (crashK S picks k).fall = S.fall ∧ (crashK S picks k).left = S.left := by
  induction k with
  | zero => exact ⟨rfl, rfl⟩
  | succ k ih => exact ih
theorem infoCell2 : (Tryz.prog.info? 72).map (fun i => (i.zero, i.size, i.bytes)) = some (some (.agg #[.slice none 0 0, .slice none 0 0]), 2, 48) := infoCell
set_option maxRecDepth 100000 in
set_option maxHeartbeats 6400000 in
theorem rcrash_any {w : World} {r : Nat} {F : Nat → Prop} {S : Dk} (h : RefX w r F S) {a : Option Addr} {picks : List Int} {pc n : Nat} (hp : IsIntsAt w a picks) (hpf : ∀ b o, a = some ⟨b, o, none⟩ → 0 < picks.length → ¬ F b) (hpl : picks.length ≤ 9223372036854775807)
    (hB : ∀ i, i < S.n → (S.sec i).ver.length ≤ 2000000000000) (hn : n = picks.length) :
    Calls Tryz.prog 16 #[.pointer (some ⟨r, 0, none⟩), .slice a n pc] w fun e w' => e = .returned (.tuple #[]) ∧ RefX w' r F (S.crash picks) ∧ UpdP F w w' := by
  subst hn
  obtain ⟨L, h⟩ := h
  have HD := Lib.hid h
  have HP := Lib.hid hp
  have HPF := Lib.hid hpf
  have HPL := Lib.hid hpl
  have HB := Lib.hid hB
  have HDI := Lib.hid (rdirty_any h)
  have n2 := h.ok.n2
  clear h hp hpf hB
  go_enter Tryz.func16, Tryz.ntmps16
  go_wp2_with fail
  refine HDI.out.mono ?_
  rintro e w1 ⟨⟨v, rfl, hrow⟩, u1⟩
  obtain ⟨a', cap, rfl, hcells⟩ := row_nats hrow
  have D1 := Lib.hid (HD.out.up u1 (by simp))
  have U1 := Lib.hid u1
  have HC := Lib.hid hcells
  obtain ⟨N, hN⟩ : ∃ N, S.dirty.length = N := ⟨_, rfl⟩
  have HN := Lib.hid hN
  have hN4 : N ≤ 4096 := by
    have h1 : S.dirty.length ≤ S.n := by
      have := List.length_filter_le (fun i => !(S.sec i).ver.isEmpty) (List.range S.n)
      rwa [List.length_range] at this
    omega
  rw [hN]
  clear u1 hrow hcells hN
  go_wp2_with fail
  go_loopw [5] (fun i wr => ∃ k : Nat, k ≤ N ∧ i = .int .i64 k ∧ RefX wr r F (crashK S picks k) ∧ UpdP F w1 wr) (fun i _ => N - (RowKit.intOf i).toNat)
  case atStart => exact ⟨0, by omega, rfl, ⟨L, D1.out⟩, UpdP.refl _ _⟩
  case round =>
    obtain ⟨k, hk, rfl, ⟨Lr, hR⟩, hU⟩ := hrel
    have HR := Lib.hid hR
    have HU := Lib.hid hU
    obtain ⟨c0, _⟩ := rcell hR.hd
    rw [crashK_n] at c0
    by_cases hlt : k < N
    · obtain ⟨g, rfl, hg, hck⟩ := HC.out k (by rw [HN.out]; exact hlt)
      have hmem : S.dirty.getD k 0 ∈ S.dirty := getD_in (by rw [HN.out]; exact hlt)
      have hat := crashK_at S picks (k := k) (by rw [HN.out]; exact hlt)
      have hsucc : crashK S picks (k + 1) = (crashK S picks k).setSec (S.dirty.getD k 0) ⟨crashNext S picks k, []⟩ := rfl
      have hnx : crashNext S picks k = if k < picks.length then (if pickN (picks.getD k 0) (S.sec (S.dirty.getD k 0)).ver.length = 0 then (S.sec (S.dirty.getD k 0)).dur else (S.sec (S.dirty.getD k 0)).ver.getD (pickN (picks.getD k 0) (S.sec (S.dirty.getD k 0)).ver.length - 1) []) else (S.sec (S.dirty.getD k 0)).dur := rfl
      generalize hi0 : S.dirty.getD k 0 = x at hck hmem hat hsucc hnx
      obtain ⟨hi, hv⟩ := mem_dirty.1 hmem
      have hi' : x < (crashK S picks k).n := by rw [crashK_n]; exact hi
      have hgF : ¬ F g := fun hf => by have := HD.out.old g hf; omega
      have hck2 : wr.cell? ⟨g, k, none⟩ = some (.int .i64 (x : Nat)) := by
        rw [← hck]
        exact World.cell?_of_block (HU.out.block g (World.block_lt_of_cell? _ _ hck) hgF)
      obtain ⟨kd, kv⟩ := hR.cells x hi'
      unfold durV at kd
      obtain ⟨m, hm⟩ : ∃ m, (S.sec x).ver.length = m := ⟨_, rfl⟩
      have hm0 : 0 < m := by rw [← hm]; exact List.length_pos_iff.2 hv
      have hmB : m ≤ 2000000000000 := by rw [← hm]; exact HB.out x hi
      have hvat : ∀ j, j < m → ∃ gv cv, Lr.vv x = .slice (some ⟨gv, 0, none⟩) m cv ∧ cv ≤ 9223372036854775807 ∧ m ≤ cv ∧ wr.cell? ⟨gv, j, none⟩ = some (.slice (some ⟨Lr.hb x j, 0, none⟩) 256 (Lr.hc x j)) := fun j hj => by
        have := hR.head_at (i := x) (j := j) hi' (by rw [hat, hm]; exact hj)
        rw [hat, hm] at this
        exact this
      have hxi : (x : Int) < S.n := by omega
      have hdc := (hR.dur x hi').2
      obtain ⟨hdc1, hdc2⟩ := hdc
      have HAT := Lib.hid hat
      have HSU := Lib.hid hsucc
      have HNX := Lib.hid hnx
      have HI := Lib.hid hi
      have HI' := Lib.hid hi'
      have HMM := Lib.hid hm
      have HVAT := Lib.hid hvat
      have HXI0 := Lib.hid hi0
      obtain ⟨gv, cv, hvv, hcv1, hcv2, _⟩ := hvat 0 hm0
      rw [hvv] at kv
      have HVV := Lib.hid hvv
      have hrw : r < wr.heap.size := World.block_lt_of_cell? _ _ c0
      have hgw : g < wr.heap.size := World.block_lt_of_cell? _ _ hck2
      have hglw : Lr.gl < wr.heap.size := World.block_lt_of_cell? _ _ kd
      have hgi : (k : Int) < N := by omega
      have HGG : Hid (g ≠ Lr.gl) := fun e => hgF (by rw [e]; exact hR.fgl)
      clear hR hU hck hmem hat hsucc hnx hv hi hi' hi0 hm hvat hvv hgF
      have uX := (((Upd.refl [] wr).alloc (.cells #[.slice (some ⟨Lr.db x, 0, none⟩) 256 (Lr.dc x), .slice (some ⟨gv, 0, none⟩) m cv] 72)).drew).drew
      have q1 : wr.drew.cell? ⟨r, 0, none⟩ = some (.slice (some ⟨Lr.gl, 0, none⟩) S.n Lr.cap) ∧ wr.drew.cell? ⟨g, k, none⟩ = some (.int .i64 (x : Nat)) ∧ wr.drew.cell? ⟨Lr.gl, x * 2, none⟩ = some (.slice (some ⟨Lr.db x, 0, none⟩) 256 (Lr.dc x)) ∧ wr.drew.cell? ⟨Lr.gl, x * 2 + 1, none⟩ = some (.slice (some ⟨gv, 0, none⟩) m cv) := ⟨c0, hck2, kd, kv⟩
      have HQ1 := Lib.hid q1
      have UX := Lib.hid uX
      clear uX q1
      go_wp2_with fail
      refine wp_region_order (fun W' => W'.cell? ⟨r, 0, none⟩ = some (.slice (some ⟨Lr.gl, 0, none⟩) S.n Lr.cap) ∧ W'.cell? ⟨g, k, none⟩ = some (.int .i64 (x : Nat)) ∧ W'.cell? ⟨Lr.gl, x * 2, none⟩ = some (.slice (some ⟨Lr.db x, 0, none⟩) 256 (Lr.dc x)) ∧ W'.cell? ⟨Lr.gl, x * 2 + 1, none⟩ = some (.slice (some ⟨gv, 0, none⟩) m cv)) [0, 1, 2, 3, 4, 5, 6, 7, 8, 9] [[10, 11]] 2 rfl (by kernel_rfl) HQ1.out ?_
      simp only [List.map_cons, List.map_nil, opAt]
      iterate 10
        apply reads_step rfl
        · intro wq hq
          obtain ⟨q1, q2, q3, q4⟩ := hq
          go_simp
          all_goals with_reducible rfl
        simp only [Act.put, List.setIfInBounds_toArray, List.set_cons_zero, List.set_cons_succ]
      refine ⟨?_, trivial⟩
      simp only [List.map_cons, List.map_nil, opAt]
      refine ⟨rfl, ?_⟩
      go_simp
      refine ⟨rfl, ?_⟩
      go_simp
      dsimp only [OnlyN, Exit.then, wpTail, Exit.inBlock]
      obtain ⟨wc, hwc⟩ : ∃ W, (wr.alloc (.cells #[.slice (some ⟨Lr.db x, 0, none⟩) 256 (Lr.dc x), .slice (some ⟨gv, 0, none⟩) m cv] 72)).drew = W := ⟨_, rfl⟩
      rw [hwc]
      have uc : Upd [] wr wc := by rw [← hwc]; exact ((Upd.refl [] wr).alloc _).drew
      have hcb : wc.heap[wr.heap.size]? = some (.cells #[.slice (some ⟨Lr.db x, 0, none⟩) 256 (Lr.dc x), .slice (some ⟨gv, 0, none⟩) m cv] 72 (0, 0)) := by rw [← hwc]; exact heap_alloc_new wr _
      have b0 : wc.cell? ⟨wr.heap.size, 0, none⟩ = some (.slice (some ⟨Lr.db x, 0, none⟩) 256 (Lr.dc x)) := by rw [(cells_of hcb).1]; rfl
      have b1 : wc.cell? ⟨wr.heap.size, 1, none⟩ = some (.slice (some ⟨gv, 0, none⟩) m cv) := by rw [(cells_of hcb).1]; rfl
      have d0 : wc.cell? ⟨r, 0, none⟩ = some (.slice (some ⟨Lr.gl, 0, none⟩) S.n Lr.cap) := by rw [← c0]; exact World.cell?_of_block (uc.block r hrw (by simp))
      have d1 : wc.cell? ⟨g, k, none⟩ = some (.int .i64 (x : Nat)) := by rw [← hck2]; exact World.cell?_of_block (uc.block g hgw (by simp))
      have HRC := Lib.hid (HR.out.up uc (by simp))
      have UC := Lib.hid uc
      have hmm1 : (m : Int) + 1 ≤ 9223372036854775807 := by omega
      clear uc hcb hwc UX HQ1 kd kv c0 hck2
      by_cases h2 : k < picks.length
      · obtain ⟨pb, po, rfl, hpc⟩ := HP.out k h2
        have hpc2 : wc.cell? ⟨pb, po + k, none⟩ = some (.int .i64 (picks.getD k 0)) := by
          rw [← hpc]
          have up := (((Upd.refl [] w).trans U1.out).p (F := F) (by simp)).step HU.out (fun x hx => .inl hx)
          rw [← World.cell?_of_block (a := ⟨pb, po + k, none⟩) (up.block pb (World.block_lt_of_cell? _ _ hpc) (HPF.out _ _ rfl (by omega)))]
          exact World.cell?_of_block (UC.out.block pb (Nat.lt_of_lt_of_le (World.block_lt_of_cell? _ _ hpc) up.size) (by simp))
        obtain ⟨p, hpe⟩ : ∃ p, picks.getD k 0 = p := ⟨_, rfl⟩
        rw [hpe] at hpc2
        obtain ⟨s1, s2, s3⟩ := pick_steps p m
        have hqle := pickN_le p m
        obtain ⟨q, hq⟩ : ∃ q, pickN p m = q := ⟨_, rfl⟩
        rw [hq] at s3 hqle
        have HPE := Lib.hid hpe
        have HQ := Lib.hid hq
        have H2 := Lib.hid h2
        clear hpc hpe hq
        generalize hr : p.tmod ((m : Int) + 1) = rr at s1 s2 s3
        have hw1 : IntKind.i64.wrap rr = rr := IntWalk.i64_in _ (by omega)
        have hw2 : IntKind.i64.wrap ((m : Int) + 1) = (m : Int) + 1 := IntWalk.i64_in _ (by omega)
        have hw3 : ¬ ((m : Int) + 1 = 0) := by omega
        have hrq : (rr < 0 ∧ rr + (m : Int) + 1 = (q : Nat)) ∨ (0 ≤ rr ∧ rr = (q : Nat)) := by
          by_cases h0 : rr < 0
          · refine .inl ⟨h0, ?_⟩
            rw [← s3, Int.emod_eq_of_lt (by omega) (by omega)]; omega
          · refine .inr ⟨by omega, ?_⟩
            rw [← s3]
            have := Int.emod_eq_of_lt (a := rr) (b := (m : Int) + 1) (by omega) (by omega)
            rw [Int.add_emod_right, this]
        have hcn : crashNext S picks k = if q = 0 then (S.sec x).dur else (S.sec x).ver.getD (q - 1) [] := by rw [HNX.out, if_pos H2.out, HPE.out, HMM.out, HQ.out]
        have HCN := Lib.hid hcn
        have hrm0 : ((m : Int) + 1 == 0) = false := by simp; omega
        clear hcn s3
        rcases hrq with ⟨hr0, hr1⟩ | ⟨hr0, hr1⟩
        · by_cases hq0 : q = 0
          · subst hq0
            exfalso; omega
          · obtain ⟨j, rfl⟩ : ∃ j, q = j + 1 := ⟨q - 1, by omega⟩
            have hr2 : rr + (m : Int) + 1 = (j : Int) + 1 := by omega
            clear hr1
            go_wp2_with fail
            refine wp_region_order (fun W' => W'.cell? ⟨pb, po + k, none⟩ = some (.int .i64 p) ∧ W'.cell? ⟨wr.heap.size, 1, none⟩ = some (.slice (some ⟨gv, 0, none⟩) m cv)) [0, 1, 2, 3, 4, 5, 6, 7, 8] [[9]] 1 rfl (by kernel_rfl) ⟨hpc2, b1⟩ ?_
            simp only [List.map_cons, List.map_nil, opAt]
            iterate 9
              apply reads_step rfl
              · intro wq hq
                obtain ⟨q1, q2⟩ := hq
                go_simp
                all_goals with_reducible rfl
              simp only [Act.put, List.setIfInBounds_toArray, List.set_cons_zero, List.set_cons_succ]
            refine ⟨?_, trivial⟩
            simp only [List.map_cons, List.map_nil, opAt]
            refine ⟨rfl, ?_⟩
            go_simp
            dsimp only [OnlyN, Exit.then, wpTail, Exit.inBlock]
            obtain ⟨wd, hwd⟩ : ∃ W, wc.drew = W := ⟨_, rfl⟩
            have ud : Upd [] wc wd := by rw [← hwd]; exact (Upd.refl [] wc).drew
            rw [hwd]
            replace b0 : wd.cell? ⟨wr.heap.size, 0, none⟩ = some (.slice (some ⟨Lr.db x, 0, none⟩) 256 (Lr.dc x)) := by rw [← hwd]; exact b0
            replace b1 : wd.cell? ⟨wr.heap.size, 1, none⟩ = some (.slice (some ⟨gv, 0, none⟩) m cv) := by rw [← hwd]; exact b1
            replace d0 : wd.cell? ⟨r, 0, none⟩ = some (.slice (some ⟨Lr.gl, 0, none⟩) S.n Lr.cap) := by rw [← hwd]; exact d0
            replace d1 : wd.cell? ⟨g, k, none⟩ = some (.int .i64 (x : Nat)) := by rw [← hwd]; exact d1
            replace HRC := Lib.hid (HRC.out.up ud (by simp))
            replace UC := Lib.hid (UC.out.trans ud)
            clear hwd ud hpc2
            have hjl : j < (S.sec x).ver.length := by rw [HMM.out]; omega
            have hvx := HRC.out.vby x HI'.out j (by rw [HAT.out]; exact hjl)
            have hvj : ((crashK S picks k).sec x).ver[j]'(by rw [HAT.out]; exact hjl) = (S.sec x).ver[j] := by simp only [HAT.out]
            rw [hvj] at hvx
            have hnl := (HD.out.ok.sec x HI.out).2 _ (List.getElem_mem hjl)
            have hnxt : crashNext S picks k = (S.sec x).ver[j] := by rw [HCN.out, if_neg (by omega), Nat.add_sub_cancel, List.getD_eq_getElem?_getD, List.getElem?_eq_getElem hjl]; rfl
            have HNF : Hid (F (Lr.hb x j)) := HRC.out.fhb x HI'.out j (by rw [HAT.out]; exact hjl)
            clear hvj
            generalize (S.sec x).ver[j] = vj at hvx hnl hnxt
            have HNB : Hid (BlkF wd (Lr.hb x j) 1 fun _ => vj) := hvx.1
            have HNL : Hid (vj.length = 256 ∧ BytesOk vj) := hnl
            have HNC : Hid (capOk (Lr.hc x j)) := hvx.2
            obtain ⟨gv2, cv2, hvv2, hcv3, hcv4, hcj⟩ := HVAT.out j (by omega)
            rw [HVV.out] at hvv2
            simp only [Value.slice.injEq, Option.some.injEq, Addr.mk.injEq, and_true, true_and] at hvv2
            obtain ⟨hv2a, hv2b⟩ := hvv2
            subst hv2a
            subst hv2b
            obtain ⟨hcj1, hcj2⟩ := HNC.out
            have hcjW : wd.cell? ⟨gv, j, none⟩ = some (.slice (some ⟨Lr.hb x j, 0, none⟩) 256 (Lr.hc x j)) := by rw [← hcj]; exact World.cell?_of_block (UC.out.block gv (World.block_lt_of_cell? _ _ hcj) (by simp))
            have sj0 : (0 : Int) < ((j : Int) + 1) := by omega
            have sj1 : ((j : Int) + 1) - 1 = (j : Int) := by omega
            have sj2 : (j : Int) < (m : Int) := by omega
            clear hjl hvx hnl hcj hcv3 hcv4
            have HNXT := Lib.hid hnxt
            clear hnxt
            go_wp2_with fail
            refine wp_region_order (fun W' => W'.cell? ⟨r, 0, none⟩ = some (.slice (some ⟨Lr.gl, 0, none⟩) S.n Lr.cap) ∧ W'.cell? ⟨g, k, none⟩ = some (.int .i64 (x : Nat))) [0, 1, 2, 3, 4, 5, 6, 7, 8] [[9, 10, 11]] 3 rfl (by kernel_rfl) ⟨d0, d1⟩ ?_
            simp only [List.map_cons, List.map_nil, opAt]
            iterate 9
              apply reads_step rfl
              · intro wq hq
                obtain ⟨q1, q2⟩ := hq
                go_simp
                all_goals with_reducible rfl
              simp only [Act.put, List.setIfInBounds_toArray, List.set_cons_zero, List.set_cons_succ]
            refine ⟨?_, trivial⟩
            simp only [List.map_cons, List.map_nil, opAt]
            refine ⟨rfl, ?_⟩
            go_simp
            refine ⟨rfl, ?_⟩
            go_simp
            have HRD := HRC.out.up (Upd.drew (Upd.refl [] wd)) (by simp)
            obtain ⟨cs, hcs, hsz, hn1, hn2, _⟩ := HRD.lst
            obtain ⟨w3, hst, hcs3, u3, _⟩ := run_store_part (P := Tryz.prog) wd.drew 72 Lr.gl (x * 2) #[.slice (some ⟨Lr.hb x j, 0, none⟩) 256 (Lr.hc x j), .slice none 0 0] 72 cs hcs sizeCell (by show x * 2 + 2 ≤ cs.size; rw [crashK_n] at hn1; have := HI.out; omega) (by simp [Value.oneCell'])
            have e3 : w3.cell? ⟨r, 0, none⟩ = some (.slice (some ⟨Lr.gl, 0, none⟩) S.n Lr.cap) := by rw [← d0]; exact World.cell?_of_block (u3.block r (World.block_lt_of_cell? _ _ (show wd.drew.cell? ⟨r, 0, none⟩ = _ from d0)) (by simpa using HRD.r_ne.1))
            have e4 : w3.cell? ⟨g, k, none⟩ = some (.int .i64 (x : Nat)) := by rw [← d1]; exact World.cell?_of_block (u3.block g (World.block_lt_of_cell? _ _ (show wd.drew.cell? ⟨g, k, none⟩ = _ from d1)) (by simpa using HGG.out))
            refine tail_skip rfl (exec_store rfl rfl rfl hst) ⟨e3, e4⟩ ?_
            dsimp only [OnlyN, Exit.then, wpTail, Exit.inBlock]
            have h3 := IsRef.storeDur HRD (k := x) (b := Lr.hb x j) (c := Lr.hc x j) HI'.out HNL.out (HNB.out.upd (Upd.drew (Upd.refl [] wd)) (by simp)) HNF.out HNC.out u3 hcs hcs3
            rw [← HNXT.out, ← HSU.out] at h3
            have H3 := Lib.hid h3
            have U3 := Lib.hid u3
            clear h3 u3 hcs hsz hn1 hn2 hst hcs3 e3 e4 HRD
            go_wp2
            go_roundw
            case rel => exact ⟨k + 1, by omega, by go_num, ⟨_, H3.out⟩, (HU.out.step (UC.out.drew.p (F := fun _ => False) (by simp)) (fun x hx => hx.elim)).step (U3.out.p (F := (· = Lr.gl)) (by simp)) fun y hy => by rw [hy]; exact .inl HRC.out.fgl⟩
            case measure => simp [RowKit.intOf]; omega
        · by_cases hq0 : q = 0
          · subst hq0
            have hr2 : rr = 0 := by omega
            clear hr1 s1 s2 hr0 hqle
            subst hr2
            clear hw1
            go_wp2_with fail
            refine wp_region_order (fun W' => W'.cell? ⟨pb, po + k, none⟩ = some (.int .i64 p) ∧ W'.cell? ⟨wr.heap.size, 1, none⟩ = some (.slice (some ⟨gv, 0, none⟩) m cv)) [0, 1, 2, 3, 4, 5, 6, 7, 8] [[9]] 1 rfl (by kernel_rfl) ⟨hpc2, b1⟩ ?_
            simp only [List.map_cons, List.map_nil, opAt]
            iterate 9
              apply reads_step rfl
              · intro wq hq
                obtain ⟨q1, q2⟩ := hq
                go_simp
                all_goals with_reducible rfl
              simp only [Act.put, List.setIfInBounds_toArray, List.set_cons_zero, List.set_cons_succ]
            refine ⟨?_, trivial⟩
            simp only [List.map_cons, List.map_nil, opAt]
            refine ⟨rfl, ?_⟩
            go_simp
            dsimp only [OnlyN, Exit.then, wpTail, Exit.inBlock]
            obtain ⟨wd, hwd⟩ : ∃ W, wc.drew = W := ⟨_, rfl⟩
            have ud : Upd [] wc wd := by rw [← hwd]; exact (Upd.refl [] wc).drew
            rw [hwd]
            replace b0 : wd.cell? ⟨wr.heap.size, 0, none⟩ = some (.slice (some ⟨Lr.db x, 0, none⟩) 256 (Lr.dc x)) := by rw [← hwd]; exact b0
            replace b1 : wd.cell? ⟨wr.heap.size, 1, none⟩ = some (.slice (some ⟨gv, 0, none⟩) m cv) := by rw [← hwd]; exact b1
            replace d0 : wd.cell? ⟨r, 0, none⟩ = some (.slice (some ⟨Lr.gl, 0, none⟩) S.n Lr.cap) := by rw [← hwd]; exact d0
            replace d1 : wd.cell? ⟨g, k, none⟩ = some (.int .i64 (x : Nat)) := by rw [← hwd]; exact d1
            replace HRC := Lib.hid (HRC.out.up ud (by simp))
            replace UC := Lib.hid (UC.out.trans ud)
            clear hwd ud hpc2
            have hdx := HRC.out.dur x HI'.out
            rw [HAT.out] at hdx
            have HNB : Hid (BlkF wd (Lr.db x) 1 fun _ => (S.sec x).dur) := hdx.1
            have HNL : Hid ((S.sec x).dur.length = 256 ∧ BytesOk (S.sec x).dur) := (HD.out.ok.sec x HI.out).1
            have HNF : Hid (F (Lr.db x)) := HRC.out.fdb x HI'.out
            have HNC : Hid (capOk (Lr.dc x)) := hdx.2
            have hnxt : crashNext S picks k = (S.sec x).dur := by have := HCN.out; simpa using this
            clear hdx
            have HNXT := Lib.hid hnxt
            clear hnxt
            go_wp2_with fail
            refine wp_region_order (fun W' => W'.cell? ⟨r, 0, none⟩ = some (.slice (some ⟨Lr.gl, 0, none⟩) S.n Lr.cap) ∧ W'.cell? ⟨g, k, none⟩ = some (.int .i64 (x : Nat))) [0, 1, 2, 3, 4, 5, 6, 7, 8] [[9, 10, 11]] 3 rfl (by kernel_rfl) ⟨d0, d1⟩ ?_
            simp only [List.map_cons, List.map_nil, opAt]
            iterate 9
              apply reads_step rfl
              · intro wq hq
                obtain ⟨q1, q2⟩ := hq
                go_simp
                all_goals with_reducible rfl
              simp only [Act.put, List.setIfInBounds_toArray, List.set_cons_zero, List.set_cons_succ]
            refine ⟨?_, trivial⟩
            simp only [List.map_cons, List.map_nil, opAt]
            refine ⟨rfl, ?_⟩
            go_simp
            refine ⟨rfl, ?_⟩
            go_simp
            have HRD := HRC.out.up (Upd.drew (Upd.refl [] wd)) (by simp)
            obtain ⟨cs, hcs, hsz, hn1, hn2, _⟩ := HRD.lst
            obtain ⟨w3, hst, hcs3, u3, _⟩ := run_store_part (P := Tryz.prog) wd.drew 72 Lr.gl (x * 2) #[.slice (some ⟨Lr.db x, 0, none⟩) 256 (Lr.dc x), .slice none 0 0] 72 cs hcs sizeCell (by show x * 2 + 2 ≤ cs.size; rw [crashK_n] at hn1; have := HI.out; omega) (by simp [Value.oneCell'])
            have e3 : w3.cell? ⟨r, 0, none⟩ = some (.slice (some ⟨Lr.gl, 0, none⟩) S.n Lr.cap) := by rw [← d0]; exact World.cell?_of_block (u3.block r (World.block_lt_of_cell? _ _ (show wd.drew.cell? ⟨r, 0, none⟩ = _ from d0)) (by simpa using HRD.r_ne.1))
            have e4 : w3.cell? ⟨g, k, none⟩ = some (.int .i64 (x : Nat)) := by rw [← d1]; exact World.cell?_of_block (u3.block g (World.block_lt_of_cell? _ _ (show wd.drew.cell? ⟨g, k, none⟩ = _ from d1)) (by simpa using HGG.out))
            refine tail_skip rfl (exec_store rfl rfl rfl hst) ⟨e3, e4⟩ ?_
            dsimp only [OnlyN, Exit.then, wpTail, Exit.inBlock]
            have h3 := IsRef.storeDur HRD (k := x) (b := Lr.db x) (c := Lr.dc x) HI'.out HNL.out (HNB.out.upd (Upd.drew (Upd.refl [] wd)) (by simp)) HNF.out HNC.out u3 hcs hcs3
            rw [← HNXT.out, ← HSU.out] at h3
            have H3 := Lib.hid h3
            have U3 := Lib.hid u3
            clear h3 u3 hcs hsz hn1 hn2 hst hcs3 e3 e4 HRD
            go_wp2
            go_roundw
            case rel => exact ⟨k + 1, by omega, by go_num, ⟨_, H3.out⟩, (HU.out.step (UC.out.drew.p (F := fun _ => False) (by simp)) (fun x hx => hx.elim)).step (U3.out.p (F := (· = Lr.gl)) (by simp)) fun y hy => by rw [hy]; exact .inl HRC.out.fgl⟩
            case measure => simp [RowKit.intOf]; omega
          · obtain ⟨j, hj0⟩ : ∃ j, q = j + 1 := ⟨q - 1, by omega⟩
            have HJ := Lib.hid hj0
            have hjm : j < m := by omega
            have sj0 : (0 : Int) < (q : Int) := by omega
            have sj1 : (q : Int) - 1 = (j : Int) := by omega
            clear hj0 hq0 hqle
            have sj2 : (j : Int) < (m : Int) := by omega
            generalize (q : Int) = z at hr1 sj0 sj1
            subst hr1
            have sj4 : decide (rr < 0) = false := by simp; omega
            have sj5 : decide (0 < rr) = true := by simp; omega
            clear s1 s2
            go_wp2_with fail
            refine wp_region_order (fun W' => W'.cell? ⟨pb, po + k, none⟩ = some (.int .i64 p) ∧ W'.cell? ⟨wr.heap.size, 1, none⟩ = some (.slice (some ⟨gv, 0, none⟩) m cv)) [0, 1, 2, 3, 4, 5, 6, 7, 8] [[9]] 1 rfl (by kernel_rfl) ⟨hpc2, b1⟩ ?_
            simp only [List.map_cons, List.map_nil, opAt]
            iterate 9
              apply reads_step rfl
              · intro wq hq
                obtain ⟨q1, q2⟩ := hq
                go_simp
                all_goals with_reducible rfl
              simp only [Act.put, List.setIfInBounds_toArray, List.set_cons_zero, List.set_cons_succ]
            refine ⟨?_, trivial⟩
            simp only [List.map_cons, List.map_nil, opAt]
            refine ⟨rfl, ?_⟩
            go_simp
            dsimp only [OnlyN, Exit.then, wpTail, Exit.inBlock]
            obtain ⟨wd, hwd⟩ : ∃ W, wc.drew = W := ⟨_, rfl⟩
            have ud : Upd [] wc wd := by rw [← hwd]; exact (Upd.refl [] wc).drew
            rw [hwd]
            replace b0 : wd.cell? ⟨wr.heap.size, 0, none⟩ = some (.slice (some ⟨Lr.db x, 0, none⟩) 256 (Lr.dc x)) := by rw [← hwd]; exact b0
            replace b1 : wd.cell? ⟨wr.heap.size, 1, none⟩ = some (.slice (some ⟨gv, 0, none⟩) m cv) := by rw [← hwd]; exact b1
            replace d0 : wd.cell? ⟨r, 0, none⟩ = some (.slice (some ⟨Lr.gl, 0, none⟩) S.n Lr.cap) := by rw [← hwd]; exact d0
            replace d1 : wd.cell? ⟨g, k, none⟩ = some (.int .i64 (x : Nat)) := by rw [← hwd]; exact d1
            replace HRC := Lib.hid (HRC.out.up ud (by simp))
            replace UC := Lib.hid (UC.out.trans ud)
            clear hwd ud hpc2
            have hjl : j < (S.sec x).ver.length := by rw [HMM.out]; omega
            have hvx := HRC.out.vby x HI'.out j (by rw [HAT.out]; exact hjl)
            have hvj : ((crashK S picks k).sec x).ver[j]'(by rw [HAT.out]; exact hjl) = (S.sec x).ver[j] := by simp only [HAT.out]
            rw [hvj] at hvx
            have hnl := (HD.out.ok.sec x HI.out).2 _ (List.getElem_mem hjl)
            have hnxt : crashNext S picks k = (S.sec x).ver[j] := by rw [HCN.out, if_neg (by have := HJ.out; omega), show q - 1 = j by have := HJ.out; omega, List.getD_eq_getElem?_getD, List.getElem?_eq_getElem hjl]; rfl
            have HNF : Hid (F (Lr.hb x j)) := HRC.out.fhb x HI'.out j (by rw [HAT.out]; exact hjl)
            clear hvj
            generalize (S.sec x).ver[j] = vj at hvx hnl hnxt
            have HNB : Hid (BlkF wd (Lr.hb x j) 1 fun _ => vj) := hvx.1
            have HNL : Hid (vj.length = 256 ∧ BytesOk vj) := hnl
            have HNC : Hid (capOk (Lr.hc x j)) := hvx.2
            obtain ⟨gv2, cv2, hvv2, hcv3, hcv4, hcj⟩ := HVAT.out j (by omega)
            rw [HVV.out] at hvv2
            simp only [Value.slice.injEq, Option.some.injEq, Addr.mk.injEq, and_true, true_and] at hvv2
            obtain ⟨hv2a, hv2b⟩ := hvv2
            subst hv2a
            subst hv2b
            obtain ⟨hcj1, hcj2⟩ := HNC.out
            have hcjW : wd.cell? ⟨gv, j, none⟩ = some (.slice (some ⟨Lr.hb x j, 0, none⟩) 256 (Lr.hc x j)) := by rw [← hcj]; exact World.cell?_of_block (UC.out.block gv (World.block_lt_of_cell? _ _ hcj) (by simp))
            clear hjl hvx hnl hcj hcv3 hcv4
            have HNXT := Lib.hid hnxt
            clear hnxt hr hw1 hw2 hw3 hrm0 hr0 sj0
            go_wp2_with fail
            refine wp_region_order (fun W' => W'.cell? ⟨r, 0, none⟩ = some (.slice (some ⟨Lr.gl, 0, none⟩) S.n Lr.cap) ∧ W'.cell? ⟨g, k, none⟩ = some (.int .i64 (x : Nat))) [0, 1, 2, 3, 4, 5, 6, 7, 8] [[9, 10, 11]] 3 rfl (by kernel_rfl) ⟨d0, d1⟩ ?_
            simp only [List.map_cons, List.map_nil, opAt]
            iterate 9
              apply reads_step rfl
              · intro wq hq
                obtain ⟨q1, q2⟩ := hq
                go_simp
                all_goals with_reducible rfl
              simp only [Act.put, List.setIfInBounds_toArray, List.set_cons_zero, List.set_cons_succ]
            refine ⟨?_, trivial⟩
            simp only [List.map_cons, List.map_nil, opAt]
            refine ⟨rfl, ?_⟩
            go_simp
            refine ⟨rfl, ?_⟩
            go_simp
            have HRD := HRC.out.up (Upd.drew (Upd.refl [] wd)) (by simp)
            obtain ⟨cs, hcs, hsz, hn1, hn2, _⟩ := HRD.lst
            obtain ⟨w3, hst, hcs3, u3, _⟩ := run_store_part (P := Tryz.prog) wd.drew 72 Lr.gl (x * 2) #[.slice (some ⟨Lr.hb x j, 0, none⟩) 256 (Lr.hc x j), .slice none 0 0] 72 cs hcs sizeCell (by show x * 2 + 2 ≤ cs.size; rw [crashK_n] at hn1; have := HI.out; omega) (by simp [Value.oneCell'])
            have e3 : w3.cell? ⟨r, 0, none⟩ = some (.slice (some ⟨Lr.gl, 0, none⟩) S.n Lr.cap) := by rw [← d0]; exact World.cell?_of_block (u3.block r (World.block_lt_of_cell? _ _ (show wd.drew.cell? ⟨r, 0, none⟩ = _ from d0)) (by simpa using HRD.r_ne.1))
            have e4 : w3.cell? ⟨g, k, none⟩ = some (.int .i64 (x : Nat)) := by rw [← d1]; exact World.cell?_of_block (u3.block g (World.block_lt_of_cell? _ _ (show wd.drew.cell? ⟨g, k, none⟩ = _ from d1)) (by simpa using HGG.out))
            refine tail_skip rfl (exec_store rfl rfl rfl hst) ⟨e3, e4⟩ ?_
            dsimp only [OnlyN, Exit.then, wpTail, Exit.inBlock]
            have h3 := IsRef.storeDur HRD (k := x) (b := Lr.hb x j) (c := Lr.hc x j) HI'.out HNL.out (HNB.out.upd (Upd.drew (Upd.refl [] wd)) (by simp)) HNF.out HNC.out u3 hcs hcs3
            rw [← HNXT.out, ← HSU.out] at h3
            have H3 := Lib.hid h3
            have U3 := Lib.hid u3
            clear h3 u3 hcs hsz hn1 hn2 hst hcs3 e3 e4 HRD
            go_wp2
            go_roundw
            case rel => exact ⟨k + 1, by omega, by go_num, ⟨_, H3.out⟩, (HU.out.step (UC.out.drew.p (F := fun _ => False) (by simp)) (fun x hx => hx.elim)).step (U3.out.p (F := (· = Lr.gl)) (by simp)) fun y hy => by rw [hy]; exact .inl HRC.out.fgl⟩
            case measure => simp [RowKit.intOf]; omega
      · have H2 := Lib.hid h2
        have hdx := HRC.out.dur x HI'.out
        rw [HAT.out] at hdx
        have HNB : Hid (BlkF wc (Lr.db x) 1 fun _ => (S.sec x).dur) := hdx.1
        have HNL : Hid ((S.sec x).dur.length = 256 ∧ BytesOk (S.sec x).dur) := (HD.out.ok.sec x HI.out).1
        have HNF : Hid (F (Lr.db x)) := HRC.out.fdb x HI'.out
        have HNC : Hid (capOk (Lr.dc x)) := hdx.2
        have hnxt : crashNext S picks k = (S.sec x).dur := by rw [HNX.out, if_neg H2.out]
        clear hdx
        have HNXT := Lib.hid hnxt
        clear hnxt
        go_wp2_with fail
        refine wp_region_order (fun W' => W'.cell? ⟨r, 0, none⟩ = some (.slice (some ⟨Lr.gl, 0, none⟩) S.n Lr.cap) ∧ W'.cell? ⟨g, k, none⟩ = some (.int .i64 (x : Nat))) [0, 1, 2, 3, 4, 5, 6, 7, 8] [[9, 10, 11]] 3 rfl (by kernel_rfl) ⟨d0, d1⟩ ?_
        simp only [List.map_cons, List.map_nil, opAt]
        iterate 9
          apply reads_step rfl
          · intro wq hq
            obtain ⟨q1, q2⟩ := hq
            go_simp
            all_goals with_reducible rfl
          simp only [Act.put, List.setIfInBounds_toArray, List.set_cons_zero, List.set_cons_succ]
        refine ⟨?_, trivial⟩
        simp only [List.map_cons, List.map_nil, opAt]
        refine ⟨rfl, ?_⟩
        go_simp
        refine ⟨rfl, ?_⟩
        go_simp
        have HRD := HRC.out.up (Upd.drew (Upd.refl [] wc)) (by simp)
        obtain ⟨cs, hcs, hsz, hn1, hn2, _⟩ := HRD.lst
        obtain ⟨w3, hst, hcs3, u3, _⟩ := run_store_part (P := Tryz.prog) wc.drew 72 Lr.gl (x * 2) #[.slice (some ⟨Lr.db x, 0, none⟩) 256 (Lr.dc x), .slice none 0 0] 72 cs hcs sizeCell (by show x * 2 + 2 ≤ cs.size; rw [crashK_n] at hn1; have := HI.out; omega) (by simp [Value.oneCell'])
        have e3 : w3.cell? ⟨r, 0, none⟩ = some (.slice (some ⟨Lr.gl, 0, none⟩) S.n Lr.cap) := by rw [← d0]; exact World.cell?_of_block (u3.block r (World.block_lt_of_cell? _ _ (show wc.drew.cell? ⟨r, 0, none⟩ = _ from d0)) (by simpa using HRD.r_ne.1))
        have e4 : w3.cell? ⟨g, k, none⟩ = some (.int .i64 (x : Nat)) := by rw [← d1]; exact World.cell?_of_block (u3.block g (World.block_lt_of_cell? _ _ (show wc.drew.cell? ⟨g, k, none⟩ = _ from d1)) (by simpa using HGG.out))
        refine tail_skip rfl (exec_store rfl rfl rfl hst) ⟨e3, e4⟩ ?_
        dsimp only [OnlyN, Exit.then, wpTail, Exit.inBlock]
        have h3 := IsRef.storeDur HRD (k := x) (b := Lr.db x) (c := Lr.dc x) HI'.out HNL.out (HNB.out.upd (Upd.drew (Upd.refl [] wc)) (by simp)) HNF.out HNC.out u3 hcs hcs3
        rw [← HNXT.out, ← HSU.out] at h3
        have H3 := Lib.hid h3
        have U3 := Lib.hid u3
        clear h3 u3 hcs hsz hn1 hn2 hst hcs3 e3 e4 HRD
        go_wp2
        go_roundw
        case rel => exact ⟨k + 1, by omega, by go_num, ⟨_, H3.out⟩, (HU.out.step (UC.out.drew.p (F := fun _ => False) (by simp)) (fun x hx => hx.elim)).step (U3.out.p (F := (· = Lr.gl)) (by simp)) fun y hy => by rw [hy]; exact .inl HRC.out.fgl⟩
        case measure => simp [RowKit.intOf]; omega
    · obtain rfl : k = N := by omega
      have HH := Lib.hid (show wr.heap[r]? = some (.cells (rCells Lr (crashK S picks k)) 69 (0, 0)) from hR.hd)
      clear hR hU
      go_wp2_with (refine wpList_store_part rfl 64 (.tmp 72) (.tmp 70) rfl r 1 #[.int .i64 0, .int .i64 0, .int .i64 0, .int .i64 0] rfl rfl 69 (rCells Lr (crashK S picks k)) (rCells Lr { crashK S picks k with fall := fun _ => 0 }) HH.out (by kernel_rfl) (by show 1 + 4 ≤ 6; decide) (by simp [Value.oneCell']) rfl ?_; intro w6 hg6 hu6 hs6; have c6 := (cells_of hg6).1 5; have z6 := (cells_of hg6).2 5; have HG6 := Lib.hid hg6; have HU6 := Lib.hid hu6; clear hg6 hu6 hs6; simp only [rCells, List.getElem?_toArray, List.getElem?_cons_zero, List.getElem?_cons_succ] at c6)
      go_end0
      have hb7 : (w6.setCell ⟨r, 5, none⟩ (.int .i64 (-1))).heap[r]? = some (.cells (rCells Lr { crashK S picks k with fall := fun _ => 0, left := none }) 69 (0, 0)) := by
        rw [heap_setCell_same w6 r 5 _ _ _ HG6.out]; rfl
      have hu7 : Upd [r] wr (w6.setCell ⟨r, 5, none⟩ (.int .i64 (-1))) := HU6.out.setCell (.inl (by simp)) _
      have hd7 := HR.out.head hu7 (S' := { crashK S picks k with fall := fun _ => 0, left := none }) rfl rfl ⟨HR.out.ok.n1, HR.out.ok.n2, HR.out.ok.sec, fun _ => Nat.zero_le _, fun q hq => by cases hq⟩ hb7
      refine ⟨rfl, ⟨Lr, hd7.congr (crashK_n S picks k).symm rfl rfl fun i hi => ?_⟩, (((Upd.refl [] w).trans U1.out).p (F := F) (by simp)).step HU.out (fun x hx => .inl hx) |>.step (hu7.p (F := (· = r)) (by simp)) fun x hx => .inl (by rw [hx]; exact HD.out.fr)⟩
      have hi : i < (crashK S picks k).n := hi
      rw [crashK_n] at hi
      have he := crashK_end S picks hi
      rw [HN.out] at he
      exact he
end Go.Proofs.YtpnpjffhkaejgaaGreatDoor
