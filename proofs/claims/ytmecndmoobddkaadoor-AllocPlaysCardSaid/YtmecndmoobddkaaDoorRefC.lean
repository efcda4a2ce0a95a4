/-
  PROVED HERE: what the functions of the reference's allocator do to its blocks (Drop, Take, Free, copied, Settle, Undo). Conditions: its blocks are its own.
-/
import Derived.Test.YtmecndmoobddkaaDoorRefB
namespace Go.Proofs.YtmecndmoobddkaaDoor
open Go.RowKit

set_option maxHeartbeats 800000 in
theorem rdrop_any {r g1 g2 : Nat} {s : St} {p : Int} {w : World} (h : IsR w r g1 g2 s) :
    Calls Tryd.prog 18 #[pt r, .int .i64 p] w fun e w' => e = .returned (.bool (s.canDrop p)) ∧ IsR w' r g1 g2 (s.drop p) ∧ Upd [g1] w w' := by
  have hr : (s.there p && (pst s.F s.D p.toNat == 1)) = s.canDrop p := by rw [pst_taken, ← Bool.and_assoc]; rfl
  have H := Lib.hid h
  cases hf : s.canDrop p
  · have hm : s.drop p = s := by simp [St.drop, hf]
    rw [hf] at hr
    have HR := Lib.hid hr
    rw [hm]
    clear hr h hf hm
    go_enter Tryd.func18, Tryd.ntmps18
    go_wp2_with (go_at_call 31; refine (is_any H.out).mono ?_; rintro e w' ⟨rfl, rfl⟩; rw [HR.out])
    go_ret
    exact ⟨rfl, H.out, Upd.refl _ _⟩
  · have hm : s.drop p = { s with D := put s.D p.toNat } := by simp [St.drop, hf]
    have hp : 0 ≤ p ∧ p < s.n ∧ s.F.testBit p.toNat = false := by
      simp only [St.canDrop, St.there, Bool.and_eq_true, decide_eq_true_eq, Bool.not_eq_true'] at hf; exact ⟨hf.1.1.1, hf.1.1.2, hf.1.2⟩
    rw [hf] at hr
    have HR := Lib.hid hr
    have Hm := Lib.hid hm
    obtain ⟨c1, c2, k1, k2, ho⟩ := h.obj
    have c0 := (cells_of ho).1 0
    simp only [List.getElem?_toArray, List.getElem?_cons_zero] at c0
    have h10 := h.ok.2.1
    obtain ⟨hp0, hp1, hpb⟩ := hp
    have HPB := Lib.hid hpb
    have hc := h.now.cell (q := p.toNat) (by omega)
    have hz := h.now.free p.toNat
    clear hr h hf hm ho hpb
    go_enter Tryd.func18, Tryd.ntmps18
    go_wp2_with (go_at_call 31; refine (is_any H.out).mono ?_; rintro e w' ⟨rfl, rfl⟩; rw [HR.out])
    go_ret
    obtain ⟨ho, hn, hs, a, b, c, d, e⟩ := H.out
    have hok := St.drop_ok d p
    have hcl := clean_drop e p
    rw [Hm.out] at hok hcl ⊢
    have u : Upd [g1] w' (w'.setCell ⟨g1, p.toNat, none⟩ (.int .i64 2)) := (Upd.refl _ _).setCell (.inl (by simp)) _
    refine ⟨rfl, ⟨?_, hn.set p.toNat (by omega) 2 fun i hi => ?_, hs.upd u (by simp; exact Ne.symm c), a, b, c, hok, hcl⟩, u⟩
    · obtain ⟨c1, c2, k1, k2, ho⟩ := ho
      exact ⟨c1, c2, k1, k2, u.get ho (by simp; exact Ne.symm a)⟩
    · unfold pst
      rw [put_bit]
      by_cases ei : i = p.toNat
      · subst ei; simp [HPB.out]
      · rw [if_neg ei, show decide (p.toNat = i) = false by simp; omega]; simp

set_option maxHeartbeats 800000 in
theorem rfree_any {r g1 g2 : Nat} {s : St} {w : World} (h : IsR w r g1 g2 s) :
    Calls Tryd.prog 22 #[pt r] w fun e w' => e = .returned (.int .i64 s.free) ∧ w' = w := by
  obtain ⟨c1, c2, k1, k2, ho⟩ := h.obj
  have c0 := (cells_of ho).1 0
  simp only [List.getElem?_toArray, List.getElem?_cons_zero] at c0
  have h10 := h.ok.2.1
  have HN := Lib.hid h.now
  clear h ho
  go_enter Tryd.func22, Tryd.ntmps22
  go_wp2
  go_loop [3, 4] (fun v i => ∃ k : Nat, k ≤ s.n ∧ i = .int .i64 k ∧ v = .int .i64 (cnt s.F k)) (fun _ i => s.n - (intOf i).toNat)
  case atStart => exact ⟨0, by omega, rfl, rfl⟩
  case round =>
    obtain ⟨k, hk, rfl, rfl⟩ := hrel
    by_cases hlt : k < s.n
    · have hc := HN.out.cell hlt
      have hle := cnt_le s.F k
      have hb := pst_free s.F s.D k
      have hcs : cnt s.F (k + 1) = cnt s.F k + (if s.F.testBit k then 1 else 0) := rfl
      cases hf : s.F.testBit k
      · rw [hf] at hb hcs
        have HC := Lib.hid hcs
        clear hcs hf
        go_wp2
        go_round
        case rel => exact ⟨k + 1, by omega, by go_num, by rw [HC.out]; simp⟩
        case measure => simp [intOf]; omega
      · rw [hf] at hb hcs
        have HC := Lib.hid hcs
        clear hcs hf
        go_wp2
        go_round
        case rel => exact ⟨k + 1, by omega, by go_num, by rw [HC.out]; go_num⟩
        case measure => simp [intOf]; omega
    · obtain rfl : k = s.n := by omega
      go_wp2
      go_ret
      exact ⟨rfl, rfl⟩

set_option maxHeartbeats 800000 in
theorem rtake_any {r g1 g2 : Nat} {s : St} {w : World} (h : IsR w r g1 g2 s) :
    Calls Tryd.prog 17 #[pt r] w fun e w' => e = .returned (.tuple #[.int .i64 (s.low.getD 0 : Nat), .bool s.low.isSome]) ∧ IsR w' r g1 g2 s.take ∧ Upd [g1] w w' := by
  obtain ⟨c1, c2, k1, k2, ho⟩ := h.obj
  have c0 := (cells_of ho).1 0
  simp only [List.getElem?_toArray, List.getElem?_cons_zero] at c0
  have h10 := h.ok.2.1
  have H := Lib.hid h
  have HN := Lib.hid h.now
  clear h ho
  go_enter Tryd.func17, Tryd.ntmps17
  go_wp2
  go_loop [4] (fun i => ∃ k : Nat, k ≤ s.n ∧ i = .int .i64 k ∧ Hid (∀ q, q < k → s.F.testBit q = false)) (fun i => s.n - (intOf i).toNat)
  case atStart => exact ⟨0, by omega, rfl, fun q hq => by omega⟩
  case round =>
    obtain ⟨k, hk, rfl, hz⟩ := hrel
    by_cases hlt : k < s.n
    · have hc := HN.out.cell hlt
      have hfz := HN.out.free k
      have hb := pst_free s.F s.D k
      cases hf : s.F.testBit k
      · rw [hf] at hb
        have HZ : Hid (∀ q, q < k + 1 → s.F.testBit q = false) := fun q hq => by
          by_cases e : q = k
          · subst e; exact hf
          · exact hz.out q (by omega)
        clear hf
        go_wp2
        go_round
        case rel => exact ⟨k + 1, by omega, by go_num, HZ⟩
        case measure => simp [intOf]; omega
      · have hlow : s.low = some k := St.low_some hlt hf hz.out
        have htake : s.take = s.mark (k : Int) := by rw [St.take, hlow]
        have hfr : s.isFree (k : Int) = true := by rw [isFree_at hlt]; exact hf
        have hm : s.mark (k : Int) = { s with F := clr s.F k } := by simp [St.mark, hfr]
        rw [hf] at hb
        have HL := Lib.hid hlow
        have HT := Lib.hid (htake.trans hm)
        have HF := Lib.hid hf
        have Hok := Lib.hid (St.take_ok H.out.ok)
        have Hcl := Lib.hid (clean_take H.out.clean)
        clear hlow htake hfr hm hf
        go_wp2
        go_ret2
        obtain ⟨ho, hn, hs, a, b, c, d, e⟩ := H.out
        have hok := Hok.out
        have hcl := Hcl.out
        rw [HT.out] at hok hcl ⊢
        rw [HL.out]
        have hD : s.D.testBit k = false := by
          cases hd : s.D.testBit k
          · rfl
          · rw [e.1 _ hd] at HF; cases HF.out
        have u : Upd [g1] w (w.setCell ⟨g1, k, none⟩ (.int .i64 1)) := (Upd.refl _ _).setCell (.inl (by simp)) _
        refine ⟨rfl, ⟨?_, hn.set k hlt 1 fun i hi => ?_, hs.upd u (by simp; exact Ne.symm c), a, b, c, hok, hcl⟩, u⟩
        · obtain ⟨c1, c2, k1, k2, ho⟩ := ho
          exact ⟨c1, c2, k1, k2, u.get ho (by simp; exact Ne.symm a)⟩
        · unfold pst
          rw [clr_bit]
          by_cases ei : i = k
          · subst ei; simp [hD]
          · rw [if_neg ei, show decide (k = i) = false by simp; omega]; simp
    · obtain rfl : k = s.n := by omega
      have hlow : s.low = none := St.low_none fun q hq => hz.out q hq
      have htake : s.take = s := by rw [St.take, hlow]
      have HL := Lib.hid hlow
      have HT := Lib.hid htake
      clear hlow htake
      go_wp2
      go_ret2
      rw [HL.out, HT.out]
      exact ⟨rfl, H.out, Upd.refl _ _⟩

theorem infoInt : (Tryd.prog.info? 3).map (fun i => (i.zero, i.size, i.bytes)) = some (some (.int .i64 0), 1, 8) := by kernel_rfl
set_option maxHeartbeats 800000 in
theorem copied_any {g n c : Nat} {f : Nat → Int} {w : World} (h : Holds w g n f) (h1 : 1 ≤ n) (h2 : n ≤ 1024) :
    Calls Tryd.prog 32 #[.slice (some ⟨g, 0, none⟩) n c] w fun e w' => ∃ g' c', e = .returned (.slice (some ⟨g', 0, none⟩) n c') ∧ w.heap.size ≤ g' ∧ n ≤ c' ∧ Holds w' g' n f ∧ Upd [] w w' := by
  obtain ⟨i0, hi, hz0, hz1, hz2⟩ := info_parts infoInt
  have HI := Lib.hid hi
  have H := Lib.hid h
  have hcell : ∀ (j : Nat) (u : Value), ((List.range n).map fun q => Value.int .i64 (f q))[j]? = some u → w.cell? ((⟨g, 0, none⟩ : Addr).add j) = some u := by
    intro j u hj
    rw [add_off, Nat.zero_add]
    have hjn : j < n := by
      rw [List.getElem?_eq_some_iff] at hj
      obtain ⟨hl, _⟩ := hj
      simpa using hl
    rw [h.cell hjn]
    simp [hjn] at hj
    rw [hj]
  have HC := Lib.hid hcell
  clear hi h hcell
  go_enter Tryd.func32, Tryd.ntmps32
  go_wp2_with (at_builtin; refine wpList_append_own _ rfl (.tmp 4) (.tmp 5) 50 rfl w.heap.size 3 i0 _ 1 8 Tryd.underlying50 HI.out hz0 hz1 hz2 rfl (by decide) _ 0 [] rfl ⟨rfl, .inl ⟨rfl, rfl⟩⟩ ⟨g, 0, none⟩ n c ((List.range n).map fun q => Value.int .i64 (f q)) rfl ?c0 HC.out ?c2 ?c3 ?c4 ?c5 ?_)
  case c0 => simp
  case c2 => simp [Value.oneCell']
  case c3 => unfold maxLen; omega
  case c4 => omega
  case c5 => exact Nat.le_refl _
  intro v' w1 hown hgr hnil
  have hu := Upd.of_grown hgr
  obtain ⟨hlen, hor⟩ := hown
  rcases hor with ⟨_, h0⟩ | ⟨g', c', cur, rfl, hg', hb, hle, hcm, hcs, ht⟩
  · omega
  · have hh : Holds w1 g' n f := by
      refine ⟨cur, hb, by omega, fun q hq => ?_⟩
      have : (cur.toList.take (n * 1))[q]? = some (.int .i64 (f q)) := by rw [ht]; simp [hq]
      rw [List.getElem?_take_of_lt (by omega)] at this
      simpa using this
    have HH := Lib.hid hh
    have HU := Lib.hid hu
    clear hlen hb ht hh hu hgr hnil
    go_wp2
    go_ret
    exact ⟨g', c', by simp, hg', by omega, HH.out, HU.out⟩
end Go.Proofs.YtmecndmoobddkaaDoor
