/-
  PROVED HERE: a disk's flush. Conditions: those that each theorem names.
-/
import Derived.Test.YtpnpjffhkaejgaaDiskD
import Derived.StillTail
import Derived.StillTactics
namespace Go.Proofs.Ytpnpjffhkaejgaa
open Go.RowKit

def Dk.flushed (S : Dk) : Dk := { S with sec := fun i => ⟨(S.sec i).last, []⟩ }
def Dk.flush (S : Dk) : Int × Dk := if S.hit 3 || S.down then (12, S.tick 3) else (0, (S.tick 3).flushed.did)
theorem mapOf_some {L : DLay} {S : Dk} {x : Int} {v : Value} (h : mapOf L S x = some v) : ∃ i : Nat, x = i ∧ i < S.n ∧ (S.sec i).ver ≠ [] ∧ v = verV L S i := by
  unfold mapOf at h
  split at h
  · rename_i hc
    obtain ⟨i, rfl⟩ := Int.eq_ofNat_of_zero_le hc.1
    exact ⟨i, rfl, by omega, by simpa using hc.2.2, by simpa using (Option.some.inj h).symm⟩
  · cases h
theorem Dk.Ok.flushed {S : Dk} (h : S.Ok) : S.flushed.Ok := ⟨h.n1, h.n2, fun i hi => ⟨Sec.last_ok (h.sec i hi), fun v hv => by cases hv⟩, h.fall, h.left⟩
theorem Dk.Ok.did {S : Dk} (h : S.Ok) : S.did.Ok := ⟨h.n1, h.n2, h.sec, h.fall, fun k hk => by
  unfold Dk.did at hk
  cases hl : S.left with
  | none => rw [hl] at hk; cases hk
  | some q => rw [hl] at hk; have := h.left q hl; simp at hk; omega⟩
/-- All versions are gone. -/
theorem IsDisk.cleared {w w' : World} {d : Nat} {L : DLay} {F : Nat → Prop} {S S' : Dk} (h : IsDisk w d L F S) (hok : S'.Ok) (hv : ∀ i, (S'.sec i).ver = []) (hh : DHead w' d L S') (hd : BlkF w' L.db S'.n fun i => (S'.sec i).dur)
    (hm : IMap Try.prog 3 w' L.mb fun _ => none) (hs : w.heap.size ≤ w'.heap.size) : IsDisk w' d L F S' :=
  ⟨hok, hh, hd, hm.congr fun x => by unfold mapOf; rw [if_neg fun e => e.2.2 (hv _)], fun i _ e => absurd (hv i) e, fun i j _ _ e => absurd (hv i) e, fun i j _ _ e => absurd (hv i) e, h.fd, h.fdb, h.fmb, fun i _ e => absurd (hv i) e, fun i _ j hj => by rw [hv i] at hj; exact absurd hj (Nat.not_lt_zero _), fun x hx => Nat.lt_of_lt_of_le (h.old x hx) hs⟩
theorem dne {w : World} {a b : Nat} {cs cs' : Array Value} {t t' : TypeId} (ha : w.heap[a]? = some (.cells cs t (0, 0))) (hb : w.heap[b]? = some (.cells cs' t' (0, 0))) (h : t ≠ t') : a ≠ b := fun e => by
  subst e; rw [ha] at hb; simp at hb; exact h hb.2
theorem BlkF.congr {w : World} {g c : Nat} {f f' : Nat → List Nat} (h : BlkF w g c f) (e : ∀ i, i < c → f i = f' i) : BlkF w g c f' := by
  obtain ⟨cs, hb, hs, hp⟩ := h
  exact ⟨cs, hb, hs, fun i hi j hj => by rw [hp i hi j hj, e i hi]⟩
theorem BlkF.upd {w w' : World} {g c : Nat} {f : Nat → List Nat} {T : List Nat} (h : BlkF w g c f) (u : Upd T w w') (hs : g ∉ T) : BlkF w' g c f := by
  obtain ⟨cs, hb, r⟩ := h
  exact ⟨cs, u.get hb hs, r⟩
theorem BlkF.splice {w' : World} {g c : Nat} {f : Nat → List Nat} {cs : Array Value} (hs : 256 * c ≤ cs.size) (hp : ∀ i, i < c → ∀ j, j < 256 → cs[256 * i + j]? = some (.int .u8 ((f i).getD j 0 : Nat))) (i : Nat) (hi : i < c) (l : List Nat) (hl : l.length = 256)
    (hb : w'.heap[g]? = some (.cells (splice cs (256 * i) (u8s l)) 5 (0, 0))) : BlkF w' g c (setf f i l) := by
  obtain ⟨h1, h2⟩ := splice_blk hs hp i hi l hl
  exact ⟨_, hb, by rw [h1]; exact hs, h2⟩
theorem DHead.upd {w w' : World} {d : Nat} {L : DLay} {S : Dk} {T : List Nat} (h : DHead w d L S) (u : Upd T w w') (hs : d ∉ T) : DHead w' d L S := by
  obtain ⟨c, l, hb, r⟩ := h
  exact ⟨c, l, u.get hb hs, r⟩
theorem IsDisk.apart3 {w : World} {d : Nat} {L : DLay} {F : Nat → Prop} {S : Dk} (h : IsDisk w d L F S) : d ≠ L.db ∧ d ≠ L.mb ∧ L.db ≠ L.mb := by
  obtain ⟨c, l, hb, _⟩ := h.hd
  obtain ⟨cs, hb2, _⟩ := h.dur
  obtain ⟨es, ck, hb3⟩ := h.map.block
  exact ⟨dne hb hb2 (by decide), (fun e => by rw [e, hb3] at hb; cases hb), (fun e => by rw [e, hb3] at hb2; cases hb2)⟩
set_option maxRecDepth 100000 in
set_option maxHeartbeats 3200000 in
theorem flush_any {w : World} {d : Nat} {L : DLay} {F : Nat → Prop} {S : Dk} (h : IsDisk w d L F S) :
    Calls Try.prog 15 #[.pointer (some ⟨d, 0, none⟩)] w fun e w' => e = .returned (.int .i64 S.flush.1) ∧ IsDisk w' d L F S.flush.2 ∧ Upd [d, L.db, L.mb] w w' := by
  have HD := Lib.hid h
  have hf := fails_any h.hd h.ok.fall 3 (by decide)
  cases hh : S.hit 3
  rotate_left
  · have HR := Lib.hid (show S.flush = (12, S.tick 3) by unfold Dk.flush; rw [hh]; rfl)
    rw [hh] at hf
    have HF := Lib.hid hf
    clear h hf hh
    go_enter Try.func15, Try.ntmps15
    go_wp2_with (go_at_call 29; refine HF.out.mono ?_; rintro e w1 ⟨rfl, h1, u1⟩; have H1 := Lib.hid h1; have U1 := Lib.hid u1; clear h1 u1)
    go_ret
    rw [HR.out]
    exact ⟨rfl, HD.out.ticked U1.out 3 H1.out, U1.out.mono (by simp)⟩
  · rw [hh] at hf
    have HF := Lib.hid hf
    cases hdn : S.down
    rotate_left
    · have HR := Lib.hid (show S.flush = (12, S.tick 3) by unfold Dk.flush; rw [hh, hdn]; rfl)
      have HN := Lib.hid hdn
      clear h hf hh hdn
      go_enter Try.func15, Try.ntmps15
      go_wp2_with fail
      refine HF.out.mono ?_
      rintro e w1 ⟨rfl, h1, u1⟩
      have H1 := Lib.hid h1
      have U1 := Lib.hid u1
      have hd := down_any h1
      rw [show (S.tick 3).down = S.down from rfl, HN.out] at hd
      have HDN := Lib.hid hd
      clear h1 u1 hd
      go_wp2_with (go_at_call 31; refine HDN.out.mono ?_; rintro e w2 ⟨rfl, rfl⟩)
      go_ret
      rw [HR.out]
      exact ⟨rfl, HD.out.ticked U1.out 3 H1.out, U1.out.mono (by simp)⟩
    · have HR := Lib.hid (show S.flush = (0, (S.tick 3).flushed.did) by unfold Dk.flush; rw [hh, hdn]; rfl)
      have HN := Lib.hid hdn
      clear h hf hh hdn
      go_enter Try.func15, Try.ntmps15
      go_wp2_with fail
      refine HF.out.mono ?_
      rintro e w1 ⟨rfl, h1, u1⟩
      have D1 := Lib.hid (HD.out.ticked u1 3 h1)
      have U1 := Lib.hid u1
      have hd := down_any h1
      rw [show (S.tick 3).down = S.down from rfl, HN.out] at hd
      have HDN := Lib.hid hd
      obtain ⟨c0, l0, hb0, hl0, he0⟩ := h1
      obtain ⟨_, q1, _⟩ := dcell hb0
      have HB0 := Lib.hid hb0
      have HE0 := Lib.hid he0
      clear u1 hd hb0 he0
      go_wp2_with (first
        | (go_at_call 31; refine HDN.out.mono ?_; rintro e w2 ⟨rfl, rfl⟩)
        | (at_range; refine wpList_irange (k := 3) rfl _ rfl rfl Try.underlying3 Try.underlying59 D1.out.map ?_; intro w2 hr2 hu2 hs2; have R2 := Lib.hid hr2; have U2 := Lib.hid hu2; have S2 := Lib.hid hs2; clear hr2 hu2 hs2))
      go_frame
      go_loopw [3] (fun _ wr => ∃ lf : Int → Bool, IRange Try.prog 3 wr L.mb w1.heap.size (mapOf L (S.tick 3)) lf ∧ BlkF wr L.db S.n (fun i => if lf i then (S.sec i).dur else (S.sec i).last) ∧ Upd [L.db, w1.heap.size] w2 wr) (fun _ wr => wr.rangeLeft L.mb w1.heap.size)
      case atStart =>
        refine ⟨_, R2.out, (D1.out.dur.upd U2.out (by simp)).congr fun i hi => ?_, Upd.refl _ _⟩
        rw [mapOf_in (show i < (S.tick 3).n from hi), show (S.tick 3).sec = S.sec from rfl]
        by_cases hv : (S.sec i).ver = []
        · rw [if_pos hv, Sec.last_nil hv]; simp
        · rw [if_neg hv]; rfl
      case round =>
        obtain ⟨lf, hrg, hbk, hU⟩ := hrel
        have HRG := Lib.hid hrg
        have HBK := Lib.hid hbk
        have HU := Lib.hid hU
        have hr1 := lt_of_block HB0.out
        obtain ⟨a1, a2, a3⟩ := D1.out.apart3
        have r1 : d ≠ w1.heap.size := by omega
        have U1r := Lib.hid ((U2.out.mono (T := [L.db, w1.heap.size]) (by simp)).trans hU)
        have HBr := Lib.hid (U1r.out.get HB0.out (by simp [a1, r1]))
        clear hbk hU
        go_wp2_with (at_next; refine wpList_inext rfl _ rfl rfl Try.underlying3 hrg ?_ ?_)
        · intro hl0
          have HL0 := Lib.hid hl0
          have HMr := Lib.hid hrg.map
          obtain ⟨_, q1r, _⟩ := dcell HBr.out
          clear hl0 hrg
          go_wp2_with (refine wpList_iclear (k := 3) rfl _ rfl rfl Try.underlying59 HMr.out ?_; intro w5 hm5 hu5 hs5; have M5 := Lib.hid hm5; have U5 := Lib.hid hu5; have B5 := Lib.hid (hu5.get HBr.out (by simp [a2])); have C5 := (dcell (hu5.get HBr.out (by simp [a2]))).2.2.2.2.2.2.2; have Z5 := (cells_of (hu5.get HBr.out (by simp [a2]))).2 7; clear hm5 hu5 hs5)
          all_goals
            have hcl : (if c0 = true then some l0 else none) = (S.tick 3).left := HE0.out
            have hdur : BlkF w5 L.db S.n (fun i => (S.sec i).last) := (HBK.out.congr fun i _ => by rw [if_neg (by rw [HL0.out]; decide)]).upd U5.out (by simpa using a3)
            have hfin : ∀ w6 : World, ∀ l' : Nat, w6 = w5.setCell ⟨d, 7, none⟩ (.int .i64 (l' : Nat)) → l' = l0 - 1 → IsDisk w6 d L F (S.tick 3).flushed.did ∧ Upd [d, L.db, L.mb] w w6 := fun w6 l' he hl => by
              have u6 : Upd [d] w5 w6 := by rw [he]; exact (Upd.refl [d] w5).setCell (.inl (by simp)) _
              have hb6 : w6.heap[d]? = some (.cells (dCells L (S.tick 3) c0 l') 61 (0, 0)) := by rw [he]; exact dset7 B5.out l'
              have uT : Upd [d, L.db, L.mb, w1.heap.size] w1 w6 := ((U1r.out.mono (by simp)).trans (U5.out.mono (by simp))).trans (u6.mono (by simp))
              have hS1 := U1.out.size
              have uW : Upd [d, L.db, L.mb] w w6 := (U1.out.mono (T := [d, L.db, L.mb]) (by simp)).step uT (fun x hx => by
                simp only [List.mem_cons, List.not_mem_nil, or_false] at hx ⊢
                rcases hx with h | h | h | h
                · exact .inl (.inl h)
                · exact .inl (.inr (.inl h))
                · exact .inl (.inr (.inr h))
                · exact .inr (by omega))
              refine ⟨D1.out.cleared D1.out.ok.flushed.did (fun i => rfl) ⟨c0, l', hb6, by have := hl0; omega, ?_⟩ (hdur.upd u6 (by simpa using Ne.symm a1)) (M5.out.upd u6 (by simpa using Ne.symm a2)) uT.size, uW⟩
              show _ = (S.tick 3).left.map (· - 1)
              rw [← hcl, hl]
              cases c0 <;> rfl
            go_ret
            rw [HR.out]
            first
            | exact ⟨rfl, hfin _ (l0 - 1) (by rw [show ((l0 - 1 : Nat) : Int) = (l0 : Int) - 1 by omega]) rfl⟩
            | exact ⟨rfl, hfin _ 0 rfl (by omega)⟩
        · intro x v w3 hl hm hwf hrg3 hlt hu3 hs3 hen
          obtain ⟨i, rfl, hi, hv, rfl⟩ := mapOf_some hm
          have hi' : i < S.n := hi
          have U13 := Lib.hid (U1r.out.trans (hu3.mono (T := [L.db, w1.heap.size]) (by simp)))
          have HRG3 := Lib.hid hrg3
          have HLT := Lib.hid hlt
          have HU3 := Lib.hid hu3
          obtain ⟨cg, hg0, _⟩ := D1.out.ver i hi hv
          obtain ⟨csd, hdb0, _⟩ := D1.out.dur
          have hgne : L.g i ≠ L.db := dne hg0 hdb0 (by decide)
          have hglt := lt_of_block hg0
          have hv3 := (D1.out.ver i hi hv).upd (U13.out.p (F := fun y => y = L.db ∨ y = w1.heap.size) (by simp)) (by omega) (fun j hj hm' => by
            rcases hm' with e | e
            · obtain ⟨_, _, _, _, _, hc⟩ := D1.out.ver i hi hv
              exact (hc j hj).2.1 e
            · have := D1.out.old _ (D1.out.fh i hi j hj); omega)
          obtain ⟨cs, hgb, hgs, hgl, hgm, hgc⟩ := hv3
          obtain ⟨hm1, hlast⟩ := Sec.last_get hv
          obtain ⟨e1, e2, e3⟩ := hgc _ hm1
          have hlok := Sec.last_ok (D1.out.ok.sec i hi)
          rw [← hlast] at e3
          obtain ⟨m, hmm⟩ : ∃ m, ((S.tick 3).sec i).ver.length = m + 1 := ⟨((S.tick 3).sec i).ver.length - 1, by omega⟩
          rw [hmm] at e1 e3 hgl
          simp only [Nat.add_sub_cancel] at e1 e3
          have hml : m + 1 ≤ 9223372036854775807 := by unfold maxLen at hgm; omega
          have hcell : w3.cell? ⟨L.g i, m, none⟩ = some (.slice (some ⟨(L.hs i m).1, (L.hs i m).2, none⟩) 256 256) := by rw [(cells_of hgb).1]; exact e1
          have HOWN := Lib.hid (own_any (w := w3.drew) (show DHead w3.drew d L (S.tick 3) from (D1.out.hd.upd U13.out.drew (by simp [a1, r1]))) D1.out.ok.n2 i hi)
          have HE3 := Lib.hid e3
          have HLO := Lib.hid hlok
          have hbk3 := HBK.out.upd hu3 (by simp; have := lt_of_block hdb0; omega)
          obtain ⟨cur, hcur, hcs, hcp⟩ := hbk3
          have HCUR := Lib.hid hcur
          have HCS := Lib.hid hcs
          have HCP := Lib.hid hcp
          have HDBL := Lib.hid (lt_of_block hdb0)
          have hw2 : IntKind.i64.wrap ((m : Int) + 1 - 1) = (m : Int) := by rw [show (m : Int) + 1 - 1 = m by omega]; exact IntWalk.i64_in _ (by omega)
          have hw3 : IntKind.i64.wrap (m : Int) = (m : Int) := IntWalk.i64_in _ (by omega)
          have hw4 : (m : Int) < (m : Int) + 1 := by omega
          have hvv : verV L (S.tick 3) i = .slice (some ⟨L.g i, 0, none⟩) (m + 1) (L.cap i) := by unfold verV; rw [hmm]
          rw [hvv] at hen ⊢
          clear hrg hl hm hwf hrg3 hlt hu3 hs3 hg0 hdb0 hgb hgs hgl hgm hgc hm1 hlast e1 e2 e3 hlok hmm hvv hcur hcs hcp hv hgne
          go_upto_region 6 with fail
          refine wp_region_still_tail 9 (by kernel_rfl) (by kernel_rfl) ?_
          simp only [List.take_succ_cons, List.take_zero, List.drop_succ_cons, List.drop_zero]
          change wpStill _ _ w3.drew (fun a' => wpList _ _ _ _ a' w3.drew) _ _
          iterate 2 still_step
          still_call (HOWN.out.mono fun _ _ h => ⟨h.1, h.2.symm⟩)
          iterate 6 still_step
          refine wpStill_nil (wpList_step fun K hK => ?_)
          refine step_copyb rfl (.tmp 23) (.tmp 29) rfl rfl rfl HLO.out.1.symm HE3.out HCUR.out (by rw [HLO.out.1]; omega) (by rw [HLO.out.1]; have := HCS.out; omega) ?_
          intro w5 hb5 hu5 hs5
          refine hK _ _ (wpList_nil ?_)
          have HB5 := Lib.hid hb5
          have HU5 := Lib.hid hu5
          clear hb5 hu5 hK K
          go_wp2
          go_roundw
          case rel =>
            have u35 : Upd [L.db] w3 w5 := (Upd.refl [L.db] w3).drew.trans HU5.out
            refine ⟨_, (HRG3.out.upd u35 (by simpa using Ne.symm a3) (by have := HDBL.out; simp; omega)).1, (BlkF.splice HCS.out HCP.out i hi' _ HLO.out.1 HB5.out).congr fun j _ => ?_, (HU.out.trans (HU3.out.mono (by simp))).trans (u35.mono (by simp))⟩
            by_cases e : j = i
            · subst e; rw [setf_same, if_neg (by simp)]; rfl
            · rw [setf_other _ _ e, show (lf (j : Int) && !decide ((j : Int) = (i : Int))) = lf (j : Int) by simp [show ¬ (j : Int) = (i : Int) by omega]]
          case measure =>
            have u35 : Upd [L.db] w3 w5 := (Upd.refl [L.db] w3).drew.trans HU5.out
            rw [(HRG3.out.upd u35 (by simpa using Ne.symm a3) (by have := HDBL.out; simp; omega)).2]
            exact HLT.out
end Go.Proofs.Ytpnpjffhkaejgaa
