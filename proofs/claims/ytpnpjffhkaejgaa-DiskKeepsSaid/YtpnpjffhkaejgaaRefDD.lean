/-
  PROVED HERE: the document's disk: Write. Conditions: those that each theorem names.
-/
import Derived.Test.YtpnpjffhkaejgaaRefDC
namespace Go.Proofs.Ytpnpjffhkaejgaa
open Go.RowKit

/-- The layout with one version more of sector i, its m-th. -/
def RLay.addVer (L : RLay) (i m b c : Nat) (v : Value) : RLay := ⟨L.gl, L.cap, L.db, L.dc, setf L.vv i v, fun j q => if j = i ∧ q = m then b else L.hb j q, fun j q => if j = i ∧ q = m then c else L.hc j q⟩
theorem rheads_add {L : RLay} {i m b c : Nat} {v : Value} : rheads (L.addVer i m b c v) i (m + 1) = rheads L i m ++ [.slice (some ⟨b, 0, none⟩) 256 c] := by
  unfold rheads
  rw [List.range_succ, List.map_append]
  congr 1
  · refine List.map_congr_left fun j hj => ?_
    have := List.mem_range.1 hj
    unfold RLay.addVer
    dsimp only
    rw [if_neg (by omega), if_neg (by omega)]
  · unfold RLay.addVer
    simp
theorem rheads_other {L : RLay} {i j m b c n : Nat} {v : Value} (h : j ≠ i) : rheads (L.addVer i m b c v) j n = rheads L j n := by
  unfold rheads
  refine List.map_congr_left fun q _ => ?_
  unfold RLay.addVer
  dsimp only
  rw [if_neg (by omega), if_neg (by omega)]
/-- A version more: its header was appended, the slice stored. -/
theorem IsRef.putVer {w wa w4 w5 : World} {r : Nat} {L : RLay} {F : Nat → Prop} {S : Dk} (h : IsRef w r L F S) {i b c m : Nat} (hi : i < S.n) {l : List Nat} (hl : l.length = 256 ∧ BytesOk l) (hb : BlkF w b 1 fun _ => l) (hbw : b < w.heap.size) (hc : capOk c) (hm : (S.sec i).ver.length = m) (ua : Upd [] w wa) {v' : Value}
    (hrow : w4.ownsRow 0 31 1 v' (m + 1) (rheads L i m ++ [.slice (some ⟨b, 0, none⟩) 256 c])) (hmine : Mine (L.vv i) wa v' w4) (he : w5 = w4.setCell ⟨L.gl, i * 2 + 1, none⟩ v') :
    IsRef w5 r (L.addVer i m b c v') (fun x => F x ∨ x = b ∨ x ∈ v'.ownBlock.toList) (putV S false i l) ∧ UpdP F w w5 := by
  obtain ⟨r1, r2, r3, r4⟩ := h.r_ne
  obtain ⟨g1, g2, g3⟩ := h.gl_ne
  obtain ⟨cs0, hb0, hs0, hn0, hm0, hc0⟩ := h.lst
  have hglF : ∀ x ∈ v'.ownBlock.toList, x ∈ (L.vv i).ownBlock.toList ∨ w.heap.size ≤ x := fun x hx => by
    rcases hmine.blk x hx with e | e
    · exact .inl e
    · exact .inr (Nat.le_trans ua.size e)
  have hglw : L.gl < w.heap.size := h.old _ h.fgl
  have u4 : UpdP (fun x => x ∈ (L.vv i).ownBlock.toList) w w4 := ((ua.mono (T := (L.vv i).ownBlock.toList) (by simp)).trans hmine.upd).p fun _ hx => hx
  have u5 : UpdP (fun x => x = L.gl) w4 w5 := by rw [he]; exact ((Upd.refl [L.gl] w4).setCell (.inl (by simp)) _).p (by simp)
  have up : UpdP (fun x => x ∈ (L.vv i).ownBlock.toList ∨ x = L.gl) w w5 := (((UpdP.refl (fun x => x ∈ (L.vv i).ownBlock.toList ∨ x = L.gl) w).step u4 fun x hx => .inl (.inl hx))).step u5 fun x hx => .inl (.inr hx)
  have hg4 := u4.get hb0 (fun hx => g2 i hi _ hx rfl)
  have hg5 : w5.heap[L.gl]? = some (.cells (cs0.setIfInBounds (i * 2 + 1) v') 69 (0, 0)) := by rw [he]; exact heap_setCell_same w4 _ _ _ _ _ hg4
  have hsz5 := up.size
  have hnb : ∀ {g : Nat} {f : Nat → List Nat}, BlkF w g 1 f → ¬ (g ∈ (L.vv i).ownBlock.toList ∨ g = L.gl) := fun {g f} hg e => by
    obtain ⟨c2, hb2, _⟩ := hg
    rcases e with e | e
    · rcases (h.ver i hi).2 with ⟨e2, _⟩ | ⟨g', cap, cur, e2, _, hb3, _⟩
      · rw [e2] at e; simp [Value.ownBlock] at e
      · rw [e2] at e
        obtain rfl : g = g' := by simpa [Value.ownBlock] using e
        rw [hb2] at hb3; cases hb3
    · rw [e, hb0] at hb2; cases hb2
  have hrow5 : w5.ownsRow 0 31 1 v' (m + 1) (rheads L i m ++ [.slice (some ⟨b, 0, none⟩) 256 c]) := ownsRow_upd2 hrow u5 fun x hx e => by
    rcases hglF x hx with e2 | e2
    · exact g2 i hi x e2 e.symm
    · omega
  have hnv : ∀ j, j < S.n → j ≠ i → ∀ x ∈ (L.vv j).ownBlock.toList, ¬ (x ∈ (L.vv i).ownBlock.toList ∨ x = L.gl) := fun j hj e x hx e2 => by
    rcases e2 with e2 | e2
    · exact h.apart j i hj hi e x hx e2
    · exact g2 j hj x hx e2.symm
  refine ⟨⟨h.ok.putV false i hl, up.get h.hd ?_, ⟨_, hg5, by rw [Array.size_setIfInBounds]; exact hs0, hn0, hm0, fun j hj => ?_⟩, fun j hj => ?_, fun j hj => ?_, fun j hj q hq => ?_, fun j k hj hk hjk x hx => ?_, .inl h.fr, .inl h.fgl, fun j hj => ?_, fun j hj x hx => ?_, fun j hj q hq => ?_, fun x hx => ?_⟩, ?_⟩
  · rintro (e | e)
    · exact r3 i hi r e rfl
    · exact r1 e
  · have hj : j < S.n := hj
    rw [Array.getElem?_setIfInBounds, if_neg (by omega), Array.getElem?_setIfInBounds]
    refine ⟨(hc0 j hj).1, ?_⟩
    by_cases e : j = i
    · subst e
      rw [if_pos rfl, if_pos (by omega)]
      show some v' = some (setf L.vv j v' j)
      rw [setf_same]
    · rw [if_neg (by omega)]
      show _ = some (setf L.vv i v' j)
      rw [setf_other _ _ e]; exact (hc0 j hj).2
  · have hj : j < S.n := hj
    refine ⟨?_, (h.dur j hj).2⟩
    have hd := (h.dur j hj).1.upd2 up (hnb (h.dur j hj).1)
    by_cases e : j = i
    · subst e; rw [putV_false]; exact hd
    · rw [putV_sec e]; exact hd
  · have hj : j < S.n := hj
    show w5.ownsRow 0 31 1 (setf L.vv i v' j) _ _
    by_cases e : j = i
    · subst e
      rw [setf_same, putV_false, List.length_append, hm, List.length_singleton, rheads_add]
      exact hrow5
    · rw [setf_other _ _ e, putV_sec e, rheads_other e]
      exact ownsRow_upd2 (h.ver j hj) up (hnv j hj e)
  · have hj : j < S.n := hj
    unfold RLay.addVer
    dsimp only
    by_cases e : j = i
    · subst e
      have hq2 := hq
      rw [putV_false, List.length_append, hm, List.length_singleton] at hq2
      by_cases e2 : q = m
      · subst e2
        rw [if_pos ⟨rfl, rfl⟩, if_pos ⟨rfl, rfl⟩]
        refine ⟨?_, hc⟩
        have : ((putV S false j l).sec j).ver[q] = l := by simp [putV_false, ← hm]
        rw [this]
        exact hb.upd2 up (hnb hb)
      · rw [if_neg (fun h => e2 h.2), if_neg (fun h => e2 h.2)]
        have hv := h.vby j hj q (by omega)
        refine ⟨?_, hv.2⟩
        have : ((putV S false j l).sec j).ver[q] = (S.sec j).ver[q]'(by omega) := by simp only [putV_false]; rw [List.getElem_append_left (by omega)]
        rw [this]
        exact hv.1.upd2 up (hnb hv.1)
    · rw [if_neg (fun h => e h.1), if_neg (fun h => e h.1)]
      have e2 : (putV S false i l).sec j = S.sec j := putV_sec e
      have hq' : q < (S.sec j).ver.length := by rw [e2] at hq; exact hq
      have hv := h.vby j hj q hq'
      refine ⟨?_, hv.2⟩
      simp only [e2]
      exact hv.1.upd2 up (hnb hv.1)
  · have hj : j < S.n := hj
    have hk : k < S.n := hk
    have hx' : x ∈ (setf L.vv i v' j).ownBlock.toList := hx
    show x ∉ (setf L.vv i v' k).ownBlock.toList
    by_cases e : j = i
    · subst e
      rw [setf_same] at hx'
      rw [setf_other _ _ (Ne.symm hjk)]
      rcases hglF x hx' with e2 | e2
      · exact h.apart j k hj hk hjk x e2
      · intro hf
        have := h.old _ (h.fvv k hk x hf)
        omega
    · rw [setf_other _ _ e] at hx'
      by_cases e3 : k = i
      · subst e3
        rw [setf_same]
        intro hf
        rcases hglF x hf with e2 | e2
        · exact h.apart j k hj hk hjk x hx' e2
        · have := h.old _ (h.fvv j hj x hx')
          omega
      · rw [setf_other _ _ e3]; exact h.apart j k hj hk hjk x hx'
  · exact .inl (h.fdb j hj)
  · have hj : j < S.n := hj
    have hx' : x ∈ (setf L.vv i v' j).ownBlock.toList := hx
    by_cases e : j = i
    · subst e; rw [setf_same] at hx'; exact .inr (.inr hx')
    · rw [setf_other _ _ e] at hx'; exact .inl (h.fvv j hj x hx')
  · have hj : j < S.n := hj
    unfold RLay.addVer
    dsimp only
    by_cases e : j = i ∧ q = m
    · rw [if_pos e]; exact .inr (.inl rfl)
    · rw [if_neg e]
      by_cases e2 : j = i
      · subst e2
        rw [putV_false, List.length_append, hm, List.length_singleton] at hq
        exact .inl (h.fhb j hj q (by have : q ≠ m := fun e3 => e ⟨rfl, e3⟩; omega))
      · rw [putV_sec e2] at hq
        exact .inl (h.fhb j hj q hq)
  · rcases hx with e | e | e
    · exact Nat.lt_of_lt_of_le (h.old x e) hsz5
    · rw [e]; exact Nat.lt_of_lt_of_le hbw hsz5
    · rcases hrow5.2 with ⟨e2, _⟩ | ⟨g', cap, cur, e2, _, hb3, _⟩
      · rw [e2] at e; simp [Value.ownBlock] at e
      · rw [e2] at e
        obtain rfl : x = g' := by simpa [Value.ownBlock] using e
        exact lt_of_block hb3
  · exact (UpdP.refl F w).step up fun x hx => .inl (by
      rcases hx with e | e
      · exact h.fvv i hi x e
      · rw [e]; exact h.fgl)
theorem putV_two (S : Dk) (i : Nat) (l : List Nat) : (putV S false i l).setSec i ⟨l, []⟩ = putV S true i l := by
  unfold putV Dk.setSec
  simp only [Dk.mk.injEq, true_and, and_true]
  funext j
  unfold setf
  by_cases e : j = i
  · simp [e]
  · simp [e]
def RWrote (w' : World) (r : Nat) (F : Nat → Prop) (B : Nat) (S : Dk) : Prop := ∃ F', RefX w' r F' S ∧ ∀ x, F' x → F x ∨ B ≤ x
def putsK (S : Dk) (fua : Bool) (p : Nat) (data : List Nat) (k : Nat) : Dk := puts S fua p ((List.range k).map (piece data))
theorem putsK_zero (S : Dk) (fua : Bool) (p : Nat) (data : List Nat) : putsK S fua p data 0 = S := rfl
theorem putsK_succ (S : Dk) (fua : Bool) (p : Nat) (data : List Nat) (k : Nat) : putsK S fua p data (k + 1) = putV (putsK S fua p data k) fua (p + k) (piece data k) := by
  unfold putsK
  rw [List.range_succ, List.map_append, List.map_cons, List.map_nil, puts_snoc, List.length_map, List.length_range]
theorem putsK_n (S : Dk) (fua : Bool) (p : Nat) (data : List Nat) (k : Nat) : (putsK S fua p data k).n = S.n := (puts_n _ _ _ _).1
theorem putsK_sec (S : Dk) (fua : Bool) (p : Nat) (data : List Nat) (k : Nat) : (putsK S fua p data k).sec (p + k) = S.sec (p + k) := puts_sec_ge (by rw [List.length_map, List.length_range]; exact Nat.le_refl _)
set_option maxRecDepth 100000 in
set_option maxHeartbeats 3200000 in
theorem rwrite_no {w : World} {r : Nat} {F : Nat → Prop} {S : Dk} (h : RefX w r F S) (p : Int) {a : Option Addr} {data : List Nat} {cap : Nat} (fua : Bool) (hlen : data.length ≤ 9223372036854775807)
    (hno : data.length = 0 ∨ data.length % 256 ≠ 0 ∨ (data.length ≠ 0 ∧ data.length % 256 = 0 ∧ (S.there p ((data.length / 256 : Nat) : Int) = false ∨ (S.there p ((data.length / 256 : Nat) : Int) = true ∧ (S.hit 2 = true ∨ (S.hit 2 = false ∧ S.down = true)))))) :
    Calls Try.prog 34 #[.pointer (some ⟨r, 0, none⟩), .int .i64 p, .slice a data.length cap, .bool fua] w fun e w' => e = .returned (.int .i64 (S.write p data fua).1) ∧ RefX w' r F (S.write p data fua).2 ∧ UpdP F w w' := by
  obtain ⟨L, h⟩ := h
  have HD := Lib.hid h
  have e4 : ((data.length / 256 : Nat) : Int) = (data.length : Int) / 256 := by omega
  have hW0 : data.length = 0 ∨ data.length % 256 ≠ 0 → S.write p data fua = (1, S) := fun hb => by unfold Dk.write; rw [if_pos hb]
  have hW1 : ¬ (data.length = 0 ∨ data.length % 256 ≠ 0) → S.write p data fua = if S.there p ((data.length / 256 : Nat) : Int) then (if S.hit 2 || S.down then (11, S.tick 2) else (0, (puts (S.tick 2) fua p.toNat (pieces data)).did)) else (2, S) := fun hb => by unfold Dk.write; rw [if_neg hb]
  have HT := Lib.hid (rthere_any h.hd h.ok.n2 p ((data.length / 256 : Nat) : Int))
  have HF := Lib.hid (rfails_any h.hd h.ok.fall 2 (by decide))
  have hcl : S.left = some 0 → rLeft (S.tick 2) = 0 := fun hl => by unfold rLeft; rw [show (S.tick 2).left = S.left from rfl, hl]; rfl
  rw [e4] at hW1 hno HT
  generalize data.length = N at hlen hno HT hW0 hW1 e4
  have e3 : (0 : Int) ≤ N := by omega
  clear e4
  by_cases hsmall : N < 256
  · have hb : N = 0 ∨ N % 256 ≠ 0 := by omega
    rw [hW0 hb]
    have q0 : ((N : Int) / 256 == 0) = true := by simp; omega
    clear hno hW0 hW1 HT HF hcl hb h
    go_enter Try.func34, Try.ntmps34
    go_wp2
    go_ret
    exact ⟨rfl, ⟨L, HD.out⟩, UpdP.refl _ _⟩
  · have q0 : ((N : Int) / 256 == 0) = false := by simp; omega
    by_cases hm : N % 256 = 0
    · have q1 : ((N : Int) % 256 != 0) = false := by simp; omega
      have hW := hW1 (by omega)
      have hno2 : S.there p ((N : Int) / 256) = false ∨ (S.there p ((N : Int) / 256) = true ∧ (S.hit 2 = true ∨ (S.hit 2 = false ∧ S.down = true))) := by
        rcases hno with e | e | ⟨_, _, e⟩
        · omega
        · omega
        · exact e
      clear hno hW0 hW1 hm hsmall
      rcases hno2 with ht | ⟨ht, hno3⟩
      · rw [ht] at HT
        rw [ht, if_neg (by decide)] at hW
        rw [hW]
        clear ht hW HF h hcl
        go_enter Try.func34, Try.ntmps34
        go_wp2_with (go_at_call 40; refine HT.out.mono ?_; rintro e w' ⟨rfl, rfl⟩)
        go_ret
        exact ⟨rfl, ⟨L, HD.out⟩, UpdP.refl _ _⟩
      · rw [ht] at HT
        rw [ht, if_pos rfl] at hW
        have hW2 : (if (S.hit 2 || S.down) = true then ((11 : Int), S.tick 2) else (0, (puts (S.tick 2) fua p.toNat (pieces data)).did)) = (11, S.tick 2) := if_pos (by rcases hno3 with h | ⟨h, h'⟩ <;> simp [*])
        rw [hW2] at hW
        rw [hW]
        clear ht hW hW2
        rcases hno3 with hh | ⟨hh, hd⟩
        · rw [hh] at HF
          clear hh h hcl
          go_enter Try.func34, Try.ntmps34
          go_wp2_with (first
            | (go_at_call 40; refine HT.out.mono ?_; rintro e w' ⟨rfl, rfl⟩)
            | (go_at_call 41; refine HF.out.mono ?_; rintro e w1 ⟨rfl, h1, u1⟩; have H1 := Lib.hid h1; have U1 := Lib.hid u1; clear h1 u1))
          go_ret
          exact ⟨rfl, ⟨L, HD.out.ticked U1.out 2 H1.out⟩, U1.out.p (by simpa using HD.out.fr)⟩
        · rw [hh] at HF
          have hl0 : S.left = some 0 := by unfold Dk.down at hd; simpa using hd
          have HRL := Lib.hid (hcl hl0)
          clear hh hd hl0 h hcl
          go_enter Try.func34, Try.ntmps34
          go_wp2_with (go_at_call 40; refine HT.out.mono ?_; rintro e w' ⟨rfl, rfl⟩)
          refine HF.out.mono ?_
          rintro e w1 ⟨rfl, h1, u1⟩
          have H1 := Lib.hid h1
          have U1 := Lib.hid u1
          have c5 := (rcell h1).2.2.2.2.2
          rw [HRL.out] at c5
          clear h1 u1
          go_wp2
          go_ret
          exact ⟨rfl, ⟨L, HD.out.ticked U1.out 2 H1.out⟩, U1.out.p (by simpa using HD.out.fr)⟩
    · have q1 : ((N : Int) % 256 != 0) = true := by simp; omega
      rw [hW0 (by omega)]
      clear hno hW0 hW1 HT HF hcl h hm
      go_enter Try.func34, Try.ntmps34
      go_wp2
      go_ret
      exact ⟨rfl, ⟨L, HD.out⟩, UpdP.refl _ _⟩
end Go.Proofs.Ytpnpjffhkaejgaa
