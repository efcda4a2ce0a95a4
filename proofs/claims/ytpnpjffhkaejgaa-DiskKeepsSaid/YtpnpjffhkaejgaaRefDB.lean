/-
  PROVED HERE: the document's disk: what a sector reads as; Read. Conditions: those that each theorem names.
-/
import Derived.Test.YtpnpjffhkaejgaaRefDA
namespace Go.Proofs.Ytpnpjffhkaejgaa
open Go.RowKit

theorem infoCell : (Try.prog.info? 69).map (fun i => (i.zero, i.size, i.bytes)) = some (some (.agg #[.slice none 0 0, .slice none 0 0]), 2, 48) := by kernel_rfl
theorem sizeCell : (Try.prog.info? 69).map (·.size) = some 2 := by kernel_rfl
theorem infoSlr : (Try.prog.info? 31).map (fun i => (i.zero, i.size, i.bytes)) = some (some (.slice none 0 0), 1, 24) := by kernel_rfl
/-- A sector's bytes that lie in a block of the disk's. -/
def RLast (w' : World) (F : Nat → Prop) (l : List Nat) (e : Ending) : Prop := ∃ b c, e = .returned (.slice (some ⟨b, 0, none⟩) 256 c) ∧ BlkF w' b 1 (fun _ => l) ∧ F b ∧ capOk c
theorem IsRef.cells {w : World} {r : Nat} {L : RLay} {F : Nat → Prop} {S : Dk} (h : IsRef w r L F S) (i : Nat) (hi : i < S.n) : w.cell? ⟨L.gl, i * 2, none⟩ = some (durV L i) ∧ w.cell? ⟨L.gl, i * 2 + 1, none⟩ = some (L.vv i) := by
  obtain ⟨cs, hb, _, _, _, hcs⟩ := h.lst
  obtain ⟨k1, k2⟩ := hcs i hi
  exact ⟨by rw [(cells_of hb).1]; exact k1, by rw [(cells_of hb).1]; exact k2⟩
/-- The last version's header. -/
theorem IsRef.head_at {w : World} {r : Nat} {L : RLay} {F : Nat → Prop} {S : Dk} (h : IsRef w r L F S) {i j : Nat} (hi : i < S.n) (hj : j < (S.sec i).ver.length) : ∃ g cap, L.vv i = .slice (some ⟨g, 0, none⟩) (S.sec i).ver.length cap ∧ cap ≤ 9223372036854775807 ∧ (S.sec i).ver.length ≤ cap ∧ w.cell? ⟨g, j, none⟩ = some (.slice (some ⟨L.hb i j, 0, none⟩) 256 (L.hc i j)) := by
  rcases (h.ver i hi).2 with ⟨_, e⟩ | ⟨g, cap, cur, e, _, hb, hc, hm, hs, ht⟩
  · rw [e] at hj; exact absurd hj (Nat.not_lt_zero _)
  · refine ⟨g, cap, e, by unfold maxLen at hm; exact hm, hc, ?_⟩
    rw [(cells_of hb).1]
    have : (cur.toList.take ((S.sec i).ver.length * 1))[j]? = (rheads L i (S.sec i).ver.length)[j]? := by rw [ht]
    rw [List.getElem?_take_of_lt (by omega), Array.getElem?_toList] at this
    rw [this]
    simp [rheads, hj]
set_option maxRecDepth 100000 in
set_option maxHeartbeats 1600000 in
theorem rlast_any {w : World} {r : Nat} {L : RLay} {F : Nat → Prop} {S : Dk} (h : IsRef w r L F S) (i : Nat) (hi : i < S.n) :
    Calls Try.prog 42 #[.pointer (some ⟨r, 0, none⟩), .int .i64 (i : Nat)] w fun e w' => RLast w' F (S.sec i).last e ∧ Upd [] w w' := by
  obtain ⟨h0, _⟩ := rcell h.hd
  obtain ⟨k1, k2⟩ := h.cells i hi
  unfold durV at k1
  have n2 := h.ok.n2
  have hi1 : (i : Int) < S.n := by omega
  have hcap := (h.dur i hi).2
  obtain ⟨hd1, hd2⟩ := hcap
  have HD := Lib.hid h
  by_cases hv : (S.sec i).ver = []
  · have hl0 : (S.sec i).ver.length = 0 := by rw [hv]; rfl
    have hvv : ∃ a c, L.vv i = .slice a 0 c := by
      rcases (h.ver i hi).2 with ⟨e, _⟩ | ⟨g, cap, cur, e, _⟩
      · exact ⟨none, 0, e⟩
      · exact ⟨_, cap, by rw [e, hl0]⟩
    obtain ⟨a, c, hvv⟩ := hvv
    rw [hvv] at k2
    have HL := Lib.hid (Sec.last_nil hv)
    clear h hv hl0 hvv
    go_enter Try.func42, Try.ntmps42
    go_wp2
    go_ret
    have u : Upd [] w (w.alloc (.cells #[.slice (some ⟨L.db i, 0, none⟩) 256 (L.dc i), .slice a 0 c] 69)) := (Upd.refl [] w).alloc _
    refine ⟨⟨L.db i, L.dc i, rfl, ?_, HD.out.fdb i hi, hd1, hd2⟩, u⟩
    rw [HL.out]
    exact (HD.out.dur i hi).1.upd u (by simp)
  · obtain ⟨hm1, hlast⟩ := Sec.last_get hv
    obtain ⟨m, hm⟩ : ∃ m, (S.sec i).ver.length = m + 1 := ⟨(S.sec i).ver.length - 1, by omega⟩
    obtain ⟨g, cap, hvv, hcm, hcl, hcell⟩ := h.head_at (j := m) hi (by omega)
    rw [hvv, hm] at k2
    rw [hm] at hcl
    have hml : m + 1 ≤ 9223372036854775807 := by omega
    have u := (Upd.refl [] w).alloc (.cells #[.slice (some ⟨L.db i, 0, none⟩) 256 (L.dc i), .slice (some ⟨g, 0, none⟩) (m + 1) cap] 69)
    have hcellA : (w.alloc (.cells #[.slice (some ⟨L.db i, 0, none⟩) 256 (L.dc i), .slice (some ⟨g, 0, none⟩) (m + 1) cap] 69)).cell? ⟨g, m, none⟩ = some (.slice (some ⟨L.hb i m, 0, none⟩) 256 (L.hc i m)) := by
      rw [← hcell]; exact World.cell?_of_block (u.block g (World.block_lt_of_cell? _ _ hcell) (by simp))
    have HU := Lib.hid u
    have HM := Lib.hid hm
    have HLA := Lib.hid hlast
    clear h hv hvv hm hlast u
    go_enter Try.func42, Try.ntmps42
    go_wp2
    go_ret
    obtain ⟨hv1, hv2⟩ := HD.out.vby i hi m (by have := HM.out; omega)
    refine ⟨⟨L.hb i m, L.hc i m, rfl, ?_, HD.out.fhb i hi m (by have := HM.out; omega), hv2⟩, HU.out⟩
    have e : (S.sec i).last = (S.sec i).ver[m]'(by have := HM.out; omega) := by
      have h1 := HLA.out
      have h2 := HM.out
      rw [h1]
      congr 1
      omega
    rw [e]
    exact hv1.upd HU.out (by simp)
/-- append of bytes onto a row of the call's own. -/
theorem wpList_approw {w : World} {ops : Array Oper} {rest : List Oper} {o : Oper} {a : Act} {Q : Exit → Act → World → Prop} (hgd : o.guard = none) (s x : Operand)
    (ho : o.op = .call { callee := .builtin .append, args := #[s, x], argTypes := #[31, 31] }) {B : Nat} {v : Value} {l l2 : List Nat} (hs : a.eval s = v) (hown : IsRow w B v l)
    (b q n c : Nat) (hx : a.eval x = .slice (some ⟨b, q, none⟩) n c) (hb : IsBytes w (some ⟨b, q, none⟩) l2) (hn : l2.length = n) (hr : l.length + n ≤ 100000000000) (hB : B ≤ w.heap.size)
    (h : ∀ v' w', IsRow w' B v' (l ++ l2) → Mine v w v' w' → wpList Try.prog ops Q rest (a.put o.dst v') w') : wpList Try.prog ops Q (o :: rest) a w := by
  obtain ⟨i0, hi, hz0, hz1, hz2⟩ := info_parts infoByte
  refine wpList_append_blk w hgd s x 31 ho B 5 i0 _ 1 1 Try.underlying31 hi hz0 hz1 hz2 rfl (by decide) v _ _ hs hown.1 ⟨b, q, none⟩ n c (u8s l2) hx (by rw [u8s_len, hn, Nat.mul_one]) hb.news (u8s_one l2) (by unfold maxLen; omega) (by omega) hB fun v' w' h1 h2 => h v' w' ⟨?_, hown.2.append hb.1⟩ h2
  rw [List.length_append, hn, show u8s (l ++ l2) = u8s l ++ u8s l2 by simp [u8s]]
  exact h1
theorem blk_bytes {w : World} {b : Nat} {l : List Nat} (h : BlkF w b 1 fun _ => l) (hl : l.length = 256 ∧ BytesOk l) : IsBytes w (some ⟨b, 0, none⟩) l := by
  have := BlkF.bytes h 0 1 (by decide) (fun _ _ => hl)
  rw [show blocks (fun j => (fun _ => l) (0 + j)) 1 = l by simp [blocks]] at this
  exact this
set_option maxRecDepth 100000 in
set_option maxHeartbeats 3200000 in
theorem rread_any {w : World} {r : Nat} {L : RLay} {F : Nat → Prop} {S : Dk} (h : IsRef w r L F S) (p c : Int) :
    Calls Try.prog 25 #[.pointer (some ⟨r, 0, none⟩), .int .i64 p, .int .i64 c] w fun e w' => ReadOut w.heap.size (S.read p c).1 e w' ∧ IsRef w' r L F (S.read p c).2 ∧ Upd [r] w w' := by
  have HD := Lib.hid h
  have ht := rthere_any h.hd h.ok.n2 p c
  cases hth : S.there p c
  · have HR := Lib.hid (show S.read p c = (([], 2), S) by unfold Dk.read; rw [hth]; rfl)
    rw [hth] at ht
    have HT := Lib.hid ht
    clear h ht hth
    go_enter Try.func25, Try.ntmps25
    go_wp2_with (go_at_call 40; refine HT.out.mono ?_; rintro e w' ⟨rfl, rfl⟩)
    go_ret2
    rw [HR.out]
    exact ⟨⟨_, rfl, IsRow.nil _ _⟩, HD.out, Upd.refl _ _⟩
  · rw [hth] at ht
    have HT := Lib.hid ht
    have hf := rfails_any h.hd h.ok.fall 1 (by decide)
    cases hh : S.hit 1
    rotate_left
    · have HR := Lib.hid (show S.read p c = (([], 10), S.tick 1) by unfold Dk.read; rw [hth, hh]; rfl)
      rw [hh] at hf
      have HF := Lib.hid hf
      clear h ht hth hf hh
      go_enter Try.func25, Try.ntmps25
      go_wp2_with (first
        | (go_at_call 40; refine HT.out.mono ?_; rintro e w' ⟨rfl, rfl⟩)
        | (go_at_call 41; refine HF.out.mono ?_; rintro e w1 ⟨rfl, h1, u1⟩; have H1 := Lib.hid h1; have U1 := Lib.hid u1; clear h1 u1))
      go_ret2
      rw [HR.out]
      exact ⟨⟨_, rfl, IsRow.nil _ _⟩, HD.out.ticked U1.out 1 H1.out, U1.out⟩
    · obtain ⟨t1, t2, t3, t4⟩ := there_true hth
      obtain ⟨P, rfl⟩ := Int.eq_ofNat_of_zero_le t1
      obtain ⟨C, rfl⟩ := Int.eq_ofNat_of_zero_le (show 0 ≤ c by omega)
      have HR := Lib.hid (show S.read P C = ((S.bytes P C, 0), S.tick 1) by unfold Dk.read; rw [hth, hh]; rfl)
      rw [hh] at hf
      have HF := Lib.hid hf
      have n2 := h.ok.n2
      have b1 : P + C ≤ S.n := by omega
      have b2 : 0 < C := by omega
      clear h ht hth hf hh t1 t2 t3 t4
      go_enter Try.func25, Try.ntmps25
      go_wp2_with (go_at_call 40; refine HT.out.mono ?_; rintro e w' ⟨rfl, rfl⟩)
      refine HF.out.mono ?_
      rintro e w1 ⟨rfl, h1, u1⟩
      have D1 := Lib.hid (HD.out.ticked u1 1 h1)
      have U1 := Lib.hid u1
      clear h1 u1
      go_wp2_with fail
      go_loopw [8, 9] (fun v i wr => ∃ q : Nat, P ≤ q ∧ q ≤ P + C ∧ i = .int .i64 q ∧ IsRow wr w1.heap.size v (blocks (fun j => (S.sec (P + j)).last) (q - P)) ∧ Upd [] w1 wr) (fun _ i _ => P + C - (RowKit.intOf i).toNat)
      case atStart => exact ⟨P, Nat.le_refl _, by omega, rfl, by rw [Nat.sub_self]; exact IsRow.nil _ _, Upd.refl _ _⟩
      case round =>
        obtain ⟨q, hq1, hq2, rfl, hV, hU⟩ := hrel
        have HV := Lib.hid hV
        have HU := Lib.hid hU
        have DR := D1.out.up hU (by simp)
        clear hV hU
        by_cases hlt : q < P + C
        · have hql : q < (S.tick 1).n := by show q < S.n; omega
          have HLA := Lib.hid (rlast_any DR q hql)
          have HOK := Lib.hid (Sec.last_ok (DR.ok.sec q hql))
          have HBL := Lib.hid (blocks_len (f := fun j => (S.sec (P + j)).last) (c := q - P) fun i hi => (Sec.last_ok (D1.out.ok.sec (P + i) (by show P + i < S.n; omega))).1)
          clear DR hql
          go_wp2_with fail
          refine HLA.out.mono ?_
          rintro e w2 ⟨⟨b, cb, rfl, hb, hbF, hcb⟩, u2⟩
          have HB := Lib.hid (blk_bytes hb HOK.out)
          have U2 := Lib.hid u2
          have HV2 := Lib.hid (HV.out.upd u2 (by simp))
          clear hb u2 hcb
          go_wp2_with (at_builtin; refine wpList_approw rfl (.tmp 25) (.tmp 28) rfl rfl HV2.out b 0 256 cb rfl HB.out HOK.out.1 (by rw [HBL.out]; omega) (by have := HU.out.size; have := U2.out.size; omega) ?_; intro v' w3 hn3 hx3; have HN3 := Lib.hid hn3; have HX3 := Lib.hid hx3; clear hn3 hx3)
          go_roundw
          case rel =>
            refine ⟨q + 1, by omega, by omega, by go_num, ?_, (HU.out.trans U2.out).step HX3.out.upd fun x hx => .inr (by have := HV2.out.low x hx; omega)⟩
            have e : q + 1 - P = (q - P) + 1 := by omega
            have e2 : P + (q - P) = q := by omega
            rw [e, blocks_succ, e2]
            exact HN3.out
          case measure => simp [RowKit.intOf]; omega
        · obtain rfl : q = P + C := by omega
          go_wp2
          go_ret2
          rw [HR.out]
          rw [Nat.add_sub_cancel_left] at HV
          exact ⟨⟨_, rfl, HV.out.base (by exact U1.out.size)⟩, D1.out.up HU.out (by simp), U1.out.step HU.out (by simp)⟩
end Go.Proofs.Ytpnpjffhkaejgaa
