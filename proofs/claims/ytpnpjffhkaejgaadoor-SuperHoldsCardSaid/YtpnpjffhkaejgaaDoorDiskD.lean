/-
  PROVED HERE: what is read of a disk. Conditions: those that each theorem names.
-/
import Derived.Test.YtpnpjffhkaejgaaDoorDiskC
namespace Go.Proofs.YtpnpjffhkaejgaaDoor
open Go.RowKit

/-- copy of bytes into a block of bytes, as a step of a region that draws its order. -/
theorem run_copyb {w : World} {g o dLen dCap b q c : Nat} {l : List Nat} {cur : Array Value} (hb : IsBytes w (some ⟨b, q, none⟩) l) (hg : w.heap[g]? = some (.cells cur 5 (0, 0))) (hle : l.length ≤ dLen) (hfit : o + l.length ≤ cur.size) (ty : TypeId) :
    ∃ w2, (Builtin.copy_ #[39, 39] ty #[.slice (some ⟨g, o, none⟩) dLen dCap, .slice (some ⟨b, q, none⟩) l.length c]).run Tryd.prog w = .ok (.int .i64 (l.length : Nat)) w2 ∧ w2.heap[g]? = some (.cells (splice cur o (u8s l)) 5 (0, 0)) ∧ Upd [g] w w2 ∧ w2.heap.size = w.heap.size := by
  have h := copy_cells (P := Tryd.prog) w 39 39 ty 5 g o dLen dCap (.slice (some ⟨b, q, none⟩) l.length c) cur 5 (u8s l) Tryd.underlying39 sizeU8 hg (.inr ⟨⟨b, q, none⟩, c, by rw [u8s_len], hb.news⟩) (by rw [u8s_len]; exact hle) (by rw [u8s_len]; exact hfit) (u8s_one l)
  rw [u8s_len] at h
  exact h
theorem step_copyb {w : World} {ops : Array Oper} {o : Oper} {a : Act} {K : Act → World → Prop} {Q : Exit → Act → World → Prop} {E : Prop} (hgd : o.guard = none) (s x : Operand)
    (ho : o.op = .call { callee := .builtin .copy, args := #[s, x], argTypes := #[39, 39] }) {g of dLen dCap b q c n : Nat} {l : List Nat} {cur : Array Value} (hs : a.eval s = .slice (some ⟨g, of, none⟩) dLen dCap) (hx : a.eval x = .slice (some ⟨b, q, none⟩) n c) (hn : n = l.length)
    (hb : IsBytes w (some ⟨b, q, none⟩) l) (hg : w.heap[g]? = some (.cells cur 5 (0, 0))) (hle : l.length ≤ dLen) (hfit : of + l.length ≤ cur.size)
    (h : ∀ w2, w2.heap[g]? = some (.cells (splice cur of (u8s l)) 5 (0, 0)) → Upd [g] w w2 → w2.heap.size = w.heap.size → K (a.put o.dst (.int .i64 (n : Nat))) w2) :
    if Region.wanted o (yielded ops a.tmps) = true then Oper.wp Tryd.prog o a w K Q else E := by
  have hw : Region.wanted o (yielded ops a.tmps) = true := by simp [Region.wanted, hgd]
  rw [if_pos hw]
  subst hn
  obtain ⟨w2, hrun, h1, h2, h3⟩ := run_copyb (dCap := dCap) (c := c) hb hg hle hfit o.type
  unfold Oper.wp
  simp [execOp, ho, resolve, invoke, builtin, hs, hx, hrun, Result.andThen]
  exact h _ h1 h2 h3
def Dk.bytes (S : Dk) (p c : Nat) : List Nat := blocks (fun j => (S.sec (p + j)).last) c
def Dk.read (S : Dk) (p c : Int) : (List Nat × Int) × Dk := if S.there p c then (if S.hit 1 then (([], 10), S.tick 1) else ((S.bytes p.toNat c.toNat, 0), S.tick 1)) else (([], 2), S)
def ReadOut (B : Nat) (o : List Nat × Int) (e : Ending) (w' : World) : Prop := ∃ v, e = .returned (.tuple #[v, .int .i64 o.2]) ∧ IsRow w' B v o.1
theorem there_true {S : Dk} {p c : Int} (h : S.there p c = true) : 0 ≤ p ∧ 0 < c ∧ p < S.n ∧ c ≤ S.n - p := by
  unfold Dk.there at h
  simpa using h
theorem Sec.last_ok {s : Sec} (h : s.ok) : s.last.length = 256 ∧ BytesOk s.last := by
  unfold Sec.last
  cases hl : s.ver.getLast? with
  | none => exact h.1
  | some v => exact h.2 v (List.mem_of_getLast? hl)
theorem Sec.last_nil {s : Sec} (h : s.ver = []) : s.last = s.dur := by unfold Sec.last; rw [h]; rfl
theorem Sec.last_get {s : Sec} (h : s.ver ≠ []) : ∃ hl : s.ver.length - 1 < s.ver.length, s.last = s.ver[s.ver.length - 1] := by
  have h0 : 0 < s.ver.length := List.length_pos_iff.2 h
  refine ⟨by omega, ?_⟩
  unfold Sec.last
  rw [List.getLast?_eq_getElem?, List.getElem?_eq_getElem (by omega)]; rfl
theorem mapOf_in {L : DLay} {S : Dk} {i : Nat} (hi : i < S.n) : mapOf L S (i : Int) = if (S.sec i).ver = [] then none else some (verV L S i) := by
  unfold mapOf
  rw [Int.toNat_natCast]
  by_cases h : (S.sec i).ver = []
  · rw [if_pos h, if_neg (fun e => e.2.2 h)]
  · rw [if_neg h, if_pos ⟨by omega, by omega, h⟩]
theorem zeroVers (w : World) : (zeroValue 70).run Tryd.prog w = .ok (.slice none 0 0) w := by kernel_rfl
theorem IsRow.some {w : World} {B : Nat} {v : Value} {l : List Nat} (h : IsRow w B v l) (h0 : 0 < l.length) : ∃ g cap, v = .slice (some ⟨g, 0, none⟩) l.length cap ∧ B ≤ g ∧ cap ≤ maxLen ∧ l.length ≤ cap := by
  obtain ⟨⟨_, ⟨rfl, h1⟩ | ⟨g, cap, cur, rfl, hg, hb, hc, hm, hs, ht⟩⟩, _⟩ := h
  · omega
  · exact ⟨g, cap, rfl, hg, hm, hc⟩
set_option maxRecDepth 100000 in
set_option maxHeartbeats 3200000 in
theorem read_any {w : World} {d : Nat} {L : DLay} {F : Nat → Prop} {S : Dk} (h : IsDisk w d L F S) (p c : Int) :
    Calls Tryd.prog 14 #[.pointer (some ⟨d, 0, none⟩), .int .i64 p, .int .i64 c] w fun e w' => ReadOut w.heap.size (S.read p c).1 e w' ∧ IsDisk w' d L F (S.read p c).2 ∧ Upd [d] w w' := by
  have HD := Lib.hid h
  have ht := there_any h.hd h.ok.n2 p c
  cases hth : S.there p c
  · have HR := Lib.hid (show S.read p c = (([], 2), S) by unfold Dk.read; rw [hth]; rfl)
    rw [hth] at ht
    have HT := Lib.hid ht
    clear h ht hth
    go_enter Tryd.func14, Tryd.ntmps14
    go_wp2_with (go_at_call 23; refine HT.out.mono ?_; rintro e w' ⟨rfl, rfl⟩)
    go_ret2
    rw [HR.out]
    exact ⟨⟨_, rfl, IsRow.nil _ _⟩, HD.out, Upd.refl _ _⟩
  · rw [hth] at ht
    have HT := Lib.hid ht
    have hf := fails_any h.hd h.ok.fall 1 (by decide)
    cases hh : S.hit 1
    rotate_left
    · have HR := Lib.hid (show S.read p c = (([], 10), S.tick 1) by unfold Dk.read; rw [hth, hh]; rfl)
      rw [hh] at hf
      have HF := Lib.hid hf
      clear h ht hth hf hh
      go_enter Tryd.func14, Tryd.ntmps14
      go_wp2_with (first
        | (go_at_call 23; refine HT.out.mono ?_; rintro e w' ⟨rfl, rfl⟩)
        | (go_at_call 24; refine HF.out.mono ?_; rintro e w1 ⟨rfl, h1, u1⟩; have H1 := Lib.hid h1; have U1 := Lib.hid u1; clear h1 u1))
      go_ret2
      rw [HR.out]
      exact ⟨⟨_, rfl, IsRow.nil _ _⟩, HD.out.ticked U1.out 1 H1.out, U1.out⟩
    · obtain ⟨t1, t2, t3, t4⟩ := there_true hth
      obtain ⟨P, rfl⟩ := Int.eq_ofNat_of_zero_le t1
      obtain ⟨C, rfl⟩ := Int.eq_ofNat_of_zero_le (show 0 ≤ c by omega)
      have HR := Lib.hid (show S.read P C = ((S.bytes P C, 0), S.tick 1) by unfold Dk.read; rw [hth, hh]; rfl)
      rw [hh] at hf
      have HF := Lib.hid hf
      have n2 := h.ok.n2
      have b1 : P + C ≤ S.n := by omega
      have b2 : 0 < C := by omega
      clear h ht hth hf hh t1 t2 t3 t4
      go_enter Tryd.func14, Tryd.ntmps14
      go_wp2_with (go_at_call 23; refine HT.out.mono ?_; rintro e w' ⟨rfl, rfl⟩)
      refine HF.out.mono ?_
      rintro e w1 ⟨rfl, h1, u1⟩
      have D1 := Lib.hid (HD.out.ticked u1 1 h1)
      have U1 := Lib.hid u1
      obtain ⟨c0, l0, hb0, _⟩ := h1
      obtain ⟨q0, q1, _⟩ := dcell hb0
      simp only [show (S.tick 1).n = S.n from rfl] at q0
      have hsl : (Instr.sliceAt 39 (.slice (some ⟨L.db, 0, none⟩) (256 * S.n) (256 * S.n)) (some (.int .i64 ((P : Int) * 256))) (some (.int .i64 (((P : Int) + (C : Int)) * 256))) none).run Tryd.prog w1 = .ok (.slice (some ⟨L.db, 256 * P, none⟩) (256 * C) (256 * S.n - 256 * P)) w1 := by
        have := run_sl_mid (P := Tryd.prog) w1 Tryd.underlying39 sizeU8 L.db 0 (256 * S.n) (256 * S.n) .i64 .i64 ((P : Int) * 256) (((P : Int) + C) * 256) (by omega) (by omega) (by omega) (by omega)
        rw [this, show ((P : Int) * 256).toNat = 256 * P by omega, show (((P : Int) + C) * 256).toNat = 256 * P + 256 * C by omega, Nat.zero_add, Nat.add_sub_cancel_left]
      have hok : ∀ i, i < S.n → (S.sec i).ok := D1.out.ok.sec
      have hby := D1.out.dur.bytes P C b1 (fun i hi => (hok i hi).1)
      have hbl : (blocks (fun j => ((S.tick 1).sec (P + j)).dur) C).length = 256 * C := blocks_len fun i hi => (hok (P + i) (by omega)).1.1
      have hcl := clone_row (cap := 256 * S.n - 256 * P) hby (by rw [hbl]; omega) (by rw [hbl]; omega)
      rw [hbl] at hcl
      have HCL := Lib.hid hcl
      have HBL := Lib.hid hbl
      have HOK := Lib.hid hok
      clear u1 hby hcl hbl hok hb0
      go_wp2_with fail
      refine HCL.out.mono ?_
      rintro e w2 ⟨⟨v2, rfl, r2⟩, u2⟩
      have hbl := HBL.out
      obtain ⟨g, cap, rfl, hg, hcm, hcl⟩ := r2.some (by rw [hbl]; omega)
      obtain ⟨cs2, hb2, hs2, _, _, _, hp2⟩ := BlkF.of_row r2 (fun i hi => (HOK.out (P + i) (by omega)).1.1)
      rw [hbl] at hcl ⊢
      have D2 := Lib.hid (D1.out.up u2 (by simp))
      have U2 := Lib.hid (U1.out.step u2 (fun _ h => by cases h))
      have HB2 := Lib.hid hb2
      have HS2 := Lib.hid hs2
      have HP2 := Lib.hid hp2
      have HG := Lib.hid hg
      have HW := Lib.hid U1.out.size
      have HGF : Hid (¬ F g) := fun hf => by have := D1.out.old g hf; omega
      have hcm2 : cap ≤ 9223372036854775807 := by unfold maxLen at hcm; omega
      clear r2 hb2 hs2 hp2 hg u2 hbl hcm
      go_wp2_with fail
      go_loopw [31] (fun i wr => ∃ k : Nat, k ≤ C ∧ i = .int .i64 k ∧ (∃ cur, wr.heap[g]? = some (.cells cur 5 (0, 0)) ∧ cur.size = cap ∧ ∀ q, q < C → ∀ j, j < 256 → cur[256 * q + j]? = some (.int .u8 ((if q < k then (S.sec (P + q)).last else (S.sec (P + q)).dur).getD j 0 : Nat))) ∧ Upd [g] w2 wr) (fun i _ => C - (RowKit.intOf i).toNat)
      case atStart => exact ⟨0, by omega, rfl, ⟨cs2, HB2.out, HS2.out, fun q hq j hj => by rw [if_neg (by omega)]; exact HP2.out q hq j hj⟩, Upd.refl _ _⟩
      case round =>
        obtain ⟨k, hk, rfl, ⟨cur, hb, hs, hp⟩, hU⟩ := hrel
        have HBr := Lib.hid hb
        have HSr := Lib.hid hs
        have HPr := Lib.hid hp
        have HUr := Lib.hid hU
        have DR := Lib.hid (D2.out.up hU (by simpa using HGF.out))
        clear hb hs hp hU
        by_cases hlt : k < C
        · obtain ⟨c0, l0, hb0, _⟩ := DR.out.hd
          obtain ⟨q0, q1, _⟩ := dcell hb0
          have hlk := DR.out.map.look (t := 63) false Tryd.underlying3 Tryd.underlying63 (zeroVers wr) (x := ((P + k : Nat) : Int)) (WalkArith.wf_i64 (by omega))
          rw [mapOf_in (show P + k < (S.tick 1).n by show P + k < S.n; omega), show ((P + k : Nat) : Int) = (P : Int) + (k : Int) by omega] at hlk
          simp only [Bool.false_eq_true, if_false, show (S.tick 1).sec = S.sec from rfl] at hlk
          by_cases hv : (S.sec (P + k)).ver = []
          · rw [if_pos hv] at hlk
            have HL := Lib.hid (Sec.last_nil hv)
            have hlk2 : (Instr.lookup 63 (.map (some L.mb)) (.int .i64 ((P : Int) + (k : Int))) false).run Tryd.prog wr = .ok (.slice none 0 0) wr := hlk
            clear hlk hv hb0
            go_wp2
            go_roundw
            case rel => exact ⟨k + 1, by omega, by go_num, ⟨cur, HBr.out, HSr.out, fun q hq j hj => by
              rw [HPr.out q hq j hj]
              by_cases e : q = k
              · subst e; rw [if_neg (by omega), if_pos (by omega), HL.out]
              · by_cases e2 : q < k
                · rw [if_pos e2, if_pos (by omega)]
                · rw [if_neg e2, if_neg (by omega)]⟩, HUr.out⟩
            case measure => simp [RowKit.intOf]; omega
          · rw [if_neg hv] at hlk
            obtain ⟨cs, hgb, hgs, hgl, hgm, hgc⟩ := DR.out.ver (P + k) (by show P + k < S.n; omega) hv
            obtain ⟨hm1, hlast⟩ := Sec.last_get hv
            obtain ⟨e1, e2, e3⟩ := hgc _ hm1
            simp only [show (S.tick 1).sec = S.sec from rfl] at e1 e3 hgl
            have hlk2 : (Instr.lookup 63 (.map (some L.mb)) (.int .i64 ((P : Int) + (k : Int))) false).run Tryd.prog wr = .ok (.slice (some ⟨L.g (P + k), 0, none⟩) (S.sec (P + k)).ver.length (L.cap (P + k))) wr := hlk
            have hlok := Sec.last_ok (HOK.out (P + k) (by omega))
            rw [← hlast] at e3
            obtain ⟨m, hm⟩ : ∃ m, (S.sec (P + k)).ver.length = m + 1 := ⟨(S.sec (P + k)).ver.length - 1, by omega⟩
            rw [hm] at hlk2 e1 e3 hgl
            simp only [Nat.add_sub_cancel] at e1 e3
            have hcell : wr.cell? ⟨L.g (P + k), m, none⟩ = some (.slice (some ⟨(L.hs (P + k) m).1, (L.hs (P + k) m).2, none⟩) 256 256) := by rw [(cells_of hgb).1]; exact e1
            have hml : m + 1 ≤ 9223372036854775807 := by unfold maxLen at hgm; omega
            have HE3 := Lib.hid e3
            have HLO := Lib.hid hlok
            have hsf : ∀ wz, (Instr.sliceAt 39 (.slice (some ⟨g, 0, none⟩) (256 * C) cap) (some (.int .i64 ((k : Int) * 256))) none none).run Tryd.prog wz = .ok (.slice (some ⟨g, 256 * k, none⟩) (256 * C - 256 * k) (cap - 256 * k)) wz := fun wz => by
              have := run_sl_from (P := Tryd.prog) wz Tryd.underlying39 sizeU8 g 0 (256 * C) cap .i64 ((k : Int) * 256) (by omega) (by omega) (by omega)
              rw [this, show ((k : Int) * 256).toNat = 256 * k by omega, Nat.zero_add]
            clear hlk hv hb0 hgb hgs hgl hgm hgc hm1 hlast e1 e2 e3 hlok hm
            have hw1 : IntKind.i64.wrap ((k : Int) * 256) = (k : Int) * 256 := IntWalk.i64_in _ (by omega)
            have hw2 : IntKind.i64.wrap ((m : Int) + 1 - 1) = (m : Int) := by rw [show (m : Int) + 1 - 1 = m by omega]; exact IntWalk.i64_in _ (by omega)
            have hw3 : IntKind.i64.wrap (m : Int) = (m : Int) := IntWalk.i64_in _ (by omega)
            have hw4 : (m : Int) < (m : Int) + 1 := by omega
            go_upto_region 11 with fail
            go_region_law ((refine step_copyb rfl (.tmp 48) (.tmp 54) rfl rfl rfl HLO.out.1.symm HE3.out HBr.out (by rw [HLO.out.1]; omega) (by rw [HLO.out.1, HSr.out]; omega) ?_; intro w3 hb3 hu3 _))
            all_goals
              have HB3 := Lib.hid hb3
              have HU3 := Lib.hid hu3
              clear hb3 hu3
              go_wp2
              go_roundw
              case rel =>
                obtain ⟨hs1, hs2⟩ := splice_blk (c := C) (f := fun q => if q < k then (S.sec (P + q)).last else (S.sec (P + q)).dur) (by rw [HSr.out]; exact hcl) HPr.out k hlt _ HLO.out.1
                refine ⟨k + 1, by omega, by go_num, ⟨_, HB3.out, by rw [hs1]; exact HSr.out, fun q hq j hj => ?_⟩, (HUr.out.drew).trans HU3.out⟩
                rw [hs2 q hq j hj]
                by_cases e : q = k
                · subst e; rw [setf_same, if_pos (by omega)]
                · rw [setf_other _ _ e]
                  by_cases e2 : q < k
                  · rw [if_pos e2, if_pos (by omega)]
                  · rw [if_neg e2, if_neg (by omega)]
              case measure => simp [RowKit.intOf]; omega
        · obtain rfl : k = C := by omega
          go_wp2
          go_ret2
          rw [HR.out]
          exact ⟨⟨_, rfl, (row_of_blk cur HBr.out HSr.out hcl (by unfold maxLen; omega) (by have := HG.out; have := HW.out; omega) (fun q hq j hj => by rw [HPr.out q hq j hj, if_pos hq]) (fun i hi => (Sec.last_ok (HOK.out (P + i) (by omega))).1) (fun i hi => (Sec.last_ok (HOK.out (P + i) (by omega))).2))⟩, DR.out, U2.out.step HUr.out (fun y hy => .inr (by have := HG.out; have := HW.out; simp at hy; omega))⟩
end Go.Proofs.YtpnpjffhkaejgaaDoor
