/-
  PROVED HERE: a disk behind one sector's write. Conditions: those that each theorem names.
-/
import Derived.Test.YtpnpjffhkaejgaaDoorDiskJ
namespace Go.Proofs.YtpnpjffhkaejgaaDoor
open Go.RowKit

/-- One sector is written: at once, or as a version. -/
def putV (S : Dk) (fua : Bool) (i : Nat) (l : List Nat) : Dk := { S with sec := setf S.sec i (if fua then ⟨l, []⟩ else ⟨(S.sec i).dur, (S.sec i).ver ++ [l]⟩) }
theorem putV_sec {S : Dk} {fua : Bool} {i j : Nat} {l : List Nat} (h : j ≠ i) : (putV S fua i l).sec j = S.sec j := setf_other _ _ h
theorem putV_true {S : Dk} {i : Nat} {l : List Nat} : (putV S true i l).sec i = ⟨l, []⟩ := setf_same _ _ _
theorem putV_false {S : Dk} {i : Nat} {l : List Nat} : (putV S false i l).sec i = ⟨(S.sec i).dur, (S.sec i).ver ++ [l]⟩ := setf_same _ _ _
theorem Dk.Ok.putV {S : Dk} (h : S.Ok) (fua : Bool) (i : Nat) {l : List Nat} (hl : l.length = 256 ∧ BytesOk l) : (putV S fua i l).Ok := ⟨h.n1, h.n2, fun j hj => by
    by_cases e : j = i
    · subst e
      cases fua
      · rw [putV_false]
        refine ⟨(h.sec j hj).1, fun v hv => ?_⟩
        rcases List.mem_append.1 hv with hv | hv
        · exact (h.sec j hj).2 v hv
        · rw [List.mem_singleton.1 hv]; exact hl
      · rw [putV_true]
        exact ⟨hl, fun v hv => by cases hv⟩
    · rw [putV_sec e]; exact h.sec j hj, h.fall, h.left⟩
theorem DHead.putV {w : World} {d : Nat} {L : DLay} {S : Dk} (h : DHead w d L S) (fua : Bool) (i : Nat) (l : List Nat) : DHead w d L (putV S fua i l) := h
theorem IsDisk.hs_mb {w : World} {d : Nat} {L : DLay} {F : Nat → Prop} {S : Dk} (h : IsDisk w d L F S) {j q : Nat} (hj : j < S.n) (hq : q < (S.sec j).ver.length) : (L.hs j q).1 ≠ L.mb := fun e => by
  obtain ⟨es, ck, hmb0⟩ := h.map.block
  have hv : (S.sec j).ver ≠ [] := List.length_pos_iff.1 (by omega)
  obtain ⟨cs, _, _, _, _, hc⟩ := h.ver j hj hv
  have h256 := ((h.ok.sec j hj).2 _ (List.getElem_mem hq)).1
  obtain ⟨b, o, e2, hcell⟩ := (hc q hq).2.2.2 0 (by rw [h256]; decide)
  cases e2
  obtain ⟨o2, ho2, hic⟩ := cells_of_cell hcell
  rw [e, hmb0] at ho2
  cases ho2
  cases hic
theorem IsDisk.g_mb {w : World} {d : Nat} {L : DLay} {F : Nat → Prop} {S : Dk} (h : IsDisk w d L F S) {j : Nat} (hj : j < S.n) (hv : (S.sec j).ver ≠ []) : L.g j ≠ L.mb ∧ L.g j ≠ L.db ∧ d ≠ L.g j := by
  obtain ⟨es, ck, hmb0⟩ := h.map.block
  obtain ⟨cs, hg, _⟩ := h.ver j hj hv
  obtain ⟨csd, hdb0, _⟩ := h.dur
  obtain ⟨c, l, hd0, _⟩ := h.hd
  exact ⟨(fun e => by rw [e, hmb0] at hg; cases hg), dne hg hdb0 (by decide), dne hd0 hg (by decide)⟩
/-- Written at once: the durable bytes are new, the versions are gone. -/
theorem IsDisk.put_fua {w w1 w2 : World} {d : Nat} {L : DLay} {F : Nat → Prop} {S : Dk} (h : IsDisk w d L F S) (i : Nat) (hi : i < S.n) {l : List Nat} (hl : l.length = 256 ∧ BytesOk l)
    (hb : BlkF w1 L.db S.n (setf (fun j => (S.sec j).dur) i l)) (u1 : Upd [L.db] w w1) (hm : IMap Tryd.prog 3 w2 L.mb (fun z => if z = (i : Int) then none else mapOf L S z)) (u2 : Upd [L.mb] w1 w2) : IsDisk w2 d L F (putV S true i l) := by
  obtain ⟨a1, a2, a3⟩ := h.apart3
  have u : Upd [L.db, L.mb] w w2 := (u1.mono (by simp)).trans (u2.mono (by simp))
  obtain ⟨csd, hdb0, _⟩ := h.dur
  obtain ⟨es, ck, hmb0⟩ := h.map.block
  have hne : ∀ j, ((putV S true i l).sec j).ver ≠ [] → j ≠ i ∧ (S.sec j).ver ≠ [] := fun j hj => by
    by_cases e : j = i
    · subst e; rw [putV_true] at hj; exact absurd rfl hj
    · rw [putV_sec e] at hj; exact ⟨e, hj⟩
  refine ⟨h.ok.putV true i hl, (h.hd.upd u (by simp [a1, a2])).putV true i l, ?_, hm.congr fun x => ?_, fun j hj hv => ?_, fun j k hj hk h1 h2 hjk => h.apart j k hj hk (hne j h1).2 (hne k h2).2 hjk,
    fun j k hj hk h1 q hq => ?_, h.fd, h.fdb, h.fmb, fun j hj hv => h.fg j hj (hne j hv).2, fun j hj q hq => ?_, fun x hx => Nat.lt_of_lt_of_le (h.old x hx) u.size⟩
  · refine (hb.upd u2 (by simpa using a3)).congr fun j _ => ?_
    by_cases e : j = i
    · subst e; rw [setf_same, putV_true]
    · rw [setf_other _ _ e, putV_sec e]
  · by_cases e : x = (i : Int)
    · subst e
      rw [if_pos rfl]
      unfold mapOf
      rw [if_neg (fun e => e.2.2 (by rw [Int.toNat_natCast, putV_true]))]
    · rw [if_neg e]
      unfold mapOf
      have hx : 0 ≤ x → x.toNat ≠ i := fun h0 e2 => e (by omega)
      by_cases h0 : 0 ≤ x
      · unfold verV; rw [putV_sec (hx h0)]; rfl
      · rw [if_neg (fun e => h0 e.1), if_neg (fun e => h0 e.1)]
  · obtain ⟨e, hv'⟩ := hne j hv
    rw [putV_sec e]
    have hv0 := h.ver j hj hv'
    obtain ⟨cs, hg, _, _, _, hc⟩ := h.ver j hj hv'
    refine hv0.upd (u.p (F := fun x => x = L.db ∨ x = L.mb) (by simp)) (fun e => ?_) fun q hq e => ?_
    · rcases e with e | e
      · exact dne hg hdb0 (by decide) e
      · rw [e, hmb0] at hg; cases hg
    · rcases e with e | e
      · exact (hc q hq).2.1 e
      · exact h.hs_mb hj hq e
  · by_cases e : k = i
    · subst e; rw [putV_true] at hq; exact absurd hq (Nat.not_lt_zero _)
    · rw [putV_sec e] at hq; exact h.hsg j k hj hk (hne j h1).2 q hq
  · by_cases e : j = i
    · subst e; rw [putV_true] at hq; exact absurd hq (Nat.not_lt_zero _)
    · rw [putV_sec e] at hq; exact h.fh j hj q hq
/-- The layout with one version more of sector i, its m-th: its header in block g', its bytes at o0 of block g0. -/
def DLay.add (L : DLay) (i m g' cap' g0 o0 : Nat) : DLay := ⟨L.db, L.mb, setf L.g i g', setf L.cap i cap', fun j q => if j = i ∧ q = m then (g0, o0) else L.hs j q⟩
def heads (L : DLay) (i m : Nat) : List Value := (List.range m).map fun j => Value.slice (some ⟨(L.hs i j).1, (L.hs i j).2, none⟩) 256 256
theorem heads_get {L : DLay} {i m q : Nat} (x : Value) : (heads L i m ++ [x])[q]? = if q < m then some (Value.slice (some ⟨(L.hs i q).1, (L.hs i q).2, none⟩) 256 256) else if q = m then some x else none := by
  have hl : (heads L i m).length = m := by simp [heads]
  rw [List.getElem?_append, hl]
  by_cases h : q < m
  · rw [if_pos h, if_pos h]; simp [heads, h]
  · rw [if_neg h, if_neg h]
    by_cases e : q = m
    · subst e; simp
    · rw [if_neg e, List.getElem?_eq_none (by simp; omega)]
/-- Written as a version: its header is behind the others. -/
theorem IsDisk.put_ver {w wa w1 w2 : World} {d : Nat} {L : DLay} {F : Nat → Prop} {S : Dk} (h : IsDisk w d L F S) (i : Nat) (hi : i < S.n) {l : List Nat} (hl : l.length = 256 ∧ BytesOk l) {g0 o0 : Nat} (hby : IsBytes w2 (some ⟨g0, o0, none⟩) l)
    (hdb : g0 ≠ L.db) (hgg : ∀ j, j < S.n → (S.sec j).ver ≠ [] → g0 ≠ L.g j) (hg0 : g0 < w.heap.size) (ua : Upd [] w wa) {g' cap' m : Nat} (hm : (S.sec i).ver.length = m) {v : Value} (hv : v = if (S.sec i).ver = [] then .slice none 0 0 else verV L S i)
    (hrow : w1.ownsRow 0 39 1 (.slice (some ⟨g', 0, none⟩) (m + 1) cap') (m + 1) (heads L i m ++ [.slice (some ⟨g0, o0, none⟩) 256 256])) (hmine : Mine v wa (.slice (some ⟨g', 0, none⟩) (m + 1) cap') w1)
    (hmap : IMap Tryd.prog 3 w2 L.mb (fun z => if z = (i : Int) then some (.slice (some ⟨g', 0, none⟩) (m + 1) cap') else mapOf L S z)) (u2 : Upd [L.mb] w1 w2) :
    IsDisk w2 d (L.add i m g' cap' g0 o0) (fun x => F x ∨ x = g' ∨ x = g0) (putV S false i l) := by
  obtain ⟨a1, a2, a3⟩ := h.apart3
  have hT : ∀ x ∈ v.ownBlock.toList, (S.sec i).ver ≠ [] ∧ x = L.g i := fun x hx => by
    by_cases e : (S.sec i).ver = []
    · rw [hv, if_pos e] at hx; simp [Value.ownBlock] at hx
    · rw [hv, if_neg e] at hx; exact ⟨e, by simpa [verV, Value.ownBlock] using hx⟩
  have hg' : ((S.sec i).ver ≠ [] ∧ g' = L.g i) ∨ w.heap.size ≤ g' := by
    rcases hmine.blk g' (by simp [Value.ownBlock]) with e | e
    · exact .inl (hT _ e)
    · exact .inr (Nat.le_trans ua.size e)
  have u : Upd (L.mb :: v.ownBlock.toList) w w2 := ((ua.mono (by simp)).trans (hmine.upd.mono (fun x hx => List.mem_cons_of_mem _ hx))).trans (u2.mono (by simp))
  have up : UpdP (fun x => x = L.mb ∨ ((S.sec i).ver ≠ [] ∧ x = L.g i)) w w2 := u.p fun x hx => by
    rcases List.mem_cons.1 hx with e | e
    · exact .inl e
    · exact .inr (hT x e)
  have hmb := h.old _ h.fmb
  have hg'mb : g' ≠ L.mb := fun e => by
    rcases hg' with ⟨e1, e2⟩ | e2
    · exact (h.g_mb hi e1).1 (e2.symm.trans e)
    · omega
  obtain ⟨_, ⟨hn, _⟩ | ⟨g2, c2, cur, he, _, hcur, hcc, hcm, hcs, htk⟩⟩ := hrow
  · cases hn
  simp only [Value.slice.injEq, Option.some.injEq, Addr.mk.injEq, and_true, true_and] at he
  obtain ⟨e1, e2⟩ := he
  subst e1
  subst e2
  have hcur2 := u2.get hcur (by simpa using hg'mb)
  have hcg : ∀ q, q < m + 1 → cur[q]? = (heads L i m ++ [Value.slice (some ⟨g0, o0, none⟩) 256 256])[q]? := fun q hq => by
    rw [← htk, List.getElem?_take_of_lt (by omega), Array.getElem?_toList]
  have hne : ∀ j, j ≠ i → ((putV S false i l).sec j).ver ≠ [] → (S.sec j).ver ≠ [] := fun j e hj => by rwa [putV_sec e] at hj
  have hgo : ∀ j, j < S.n → j ≠ i → (S.sec j).ver ≠ [] → g' ≠ L.g j := fun j hj e hv e2 => by
    rcases hg' with ⟨e1, e3⟩ | e3
    · exact h.apart i j hi hj e1 hv (Ne.symm e) (e3.symm.trans e2)
    · have := h.old _ (h.fg j hj hv); omega
  have hog : ∀ j, j < S.n → ∀ q, q < (S.sec j).ver.length → (L.hs j q).1 ≠ g' := fun j hj q hq e2 => by
    rcases hg' with ⟨e1, e3⟩ | e3
    · exact h.hsg i j hi hj e1 q hq (e2.trans e3)
    · have := h.old _ (h.fh j hj q hq); omega
  have h0g : g0 ≠ g' := fun e => by
    rcases hg' with ⟨e1, e3⟩ | e3
    · exact hgg i hi e1 (e.trans e3)
    · omega
  have hlen : ∀ j, j < S.n → ∀ q, q < ((putV S false i l).sec j).ver.length → (j = i ∧ q = m) ∨ (¬ (j = i ∧ q = m) ∧ q < (S.sec j).ver.length) := fun j _ q hq => by
    by_cases e : j = i
    · subst e
      rw [putV_false, List.length_append, hm, List.length_singleton] at hq
      by_cases e2 : q = m
      · exact .inl ⟨rfl, e2⟩
      · exact .inr ⟨fun h => e2 h.2, by omega⟩
    · rw [putV_sec e] at hq; exact .inr ⟨fun h => e h.1, hq⟩
  have hL : ∀ j q, ¬ (j = i ∧ q = m) → (L.add i m g' cap' g0 o0).hs j q = L.hs j q := fun j q e => if_neg e
  have hLn : (L.add i m g' cap' g0 o0).hs i m = (g0, o0) := if_pos ⟨rfl, rfl⟩
  have hLg : (L.add i m g' cap' g0 o0).g i = g' := setf_same _ _ _
  have hLo : ∀ j, j ≠ i → (L.add i m g' cap' g0 o0).g j = L.g j := fun j e => setf_other _ _ e
  refine ⟨h.ok.putV false i hl, ?_, ?_, hmap.congr fun x => ?_, fun j hj hv2 => ?_, fun j k hj hk h1 h2 hjk => ?_, fun j k hj hk h1 q hq => ?_, .inl h.fd, .inl h.fdb, .inl h.fmb, fun j hj hv2 => ?_, fun j hj q hq => ?_, fun x hx => ?_⟩
  · obtain ⟨c, l0, hb, r⟩ := h.hd
    refine ⟨c, l0, up.get hb ?_, r⟩
    rintro (e | ⟨e, e3⟩)
    · exact a2 e
    · exact (h.g_mb hi e).2.2 e3
  · obtain ⟨cs, hb, r1, r2⟩ := h.dur
    refine BlkF.congr ⟨cs, up.get hb ?_, r1, r2⟩ fun j _ => ?_
    · rintro (e | ⟨e, e3⟩)
      · exact a3 e
      · exact (h.g_mb hi e).2.1 e3.symm
    · by_cases e : j = i
      · subst e; rw [putV_false]
      · rw [putV_sec e]
  · by_cases e : x = (i : Int)
    · subst e
      rw [if_pos rfl, mapOf_in (show i < (putV S false i l).n from hi), putV_false, if_neg (by simp)]
      unfold verV
      rw [putV_false, hLg, List.length_append, hm, show (L.add i m g' cap' g0 o0).cap i = cap' from setf_same _ _ _]; rfl
    · rw [if_neg e]
      unfold mapOf
      by_cases h0 : 0 ≤ x
      · have hx : x.toNat ≠ i := fun e2 => e (by omega)
        unfold verV
        rw [putV_sec hx, hLo _ hx, show (L.add i m g' cap' g0 o0).cap x.toNat = L.cap x.toNat from setf_other _ _ hx]; rfl
      · rw [if_neg (fun e => h0 e.1), if_neg (fun e => h0 e.1)]
  · by_cases e : j = i
    · subst e
      refine ⟨cur, by rw [hLg]; exact hcur2, by rw [show (L.add j m g' cap' g0 o0).cap j = cap' from setf_same _ _ _, hcs, Nat.mul_one], by rw [putV_false, List.length_append, hm, List.length_singleton, show (L.add j m g' cap' g0 o0).cap j = cap' from setf_same _ _ _]; exact hcc,
        by rw [show (L.add j m g' cap' g0 o0).cap j = cap' from setf_same _ _ _]; exact hcm, fun q hq => ?_⟩
      have hq2 := hq
      rw [putV_false, List.length_append, hm, List.length_singleton] at hq2
      rw [hcg q hq2, heads_get]
      rcases hlen j hj q hq with ⟨_, e2⟩ | ⟨e2, e3⟩
      · subst e2
        rw [if_neg (by omega), if_pos rfl, hLn]
        refine ⟨rfl, hdb, ?_⟩
        have : ((putV S false j l).sec j).ver[q] = l := by simp [putV_false, ← hm]
        rw [this]; exact hby
      · rw [hm] at e3
        rw [if_pos e3, hL _ _ e2]
        have hvn : (S.sec j).ver ≠ [] := List.length_pos_iff.1 (by omega)
        obtain ⟨_, _, _, _, _, hc⟩ := h.ver j hj hvn
        obtain ⟨_, q2, q3⟩ := hc q (by omega)
        refine ⟨rfl, q2, ?_⟩
        have : ((putV S false j l).sec j).ver[q] = (S.sec j).ver[q]'(by omega) := by simp only [putV_false]; rw [List.getElem_append_left (by omega)]
        rw [this]
        refine ⟨q3.1, fun z hz => ?_⟩
        obtain ⟨b, o, e4, hcell⟩ := q3.2 z hz
        cases e4
        exact ⟨_, _, rfl, by
          rw [← hcell]
          exact World.cell?_of_block (up.block _ (World.block_lt_of_cell? _ _ hcell) (by
            rintro (e | ⟨e, e3⟩)
            · exact h.hs_mb hj (by omega) e
            · exact h.hsg j j hj hj e q (by omega) e3))⟩
    · have hv3 := hne j e hv2
      rw [putV_sec e]
      have hd2 := (h.ver j hj hv3).upd up (by
        rintro (e4 | ⟨e4, e5⟩)
        · exact (h.g_mb hj hv3).1 e4
        · exact h.apart j i hj hi hv3 e4 e e5) (fun q hq => by
        rintro (e4 | ⟨e4, e5⟩)
        · exact h.hs_mb hj hq e4
        · exact h.hsg i j hi hj e4 q hq e5)
      obtain ⟨cs, hb, r1, r2, r3, r4⟩ := hd2
      refine ⟨cs, by rw [hLo j e]; exact hb, by rw [show (L.add i m g' cap' g0 o0).cap j = L.cap j from setf_other _ _ e]; exact r1, by rw [show (L.add i m g' cap' g0 o0).cap j = L.cap j from setf_other _ _ e]; exact r2, by rw [show (L.add i m g' cap' g0 o0).cap j = L.cap j from setf_other _ _ e]; exact r3, fun q hq => ?_⟩
      rw [hL j q (fun hh => e hh.1)]
      exact r4 q hq
  · by_cases e : j = i
    · subst e
      rw [hLg, hLo k (Ne.symm hjk)]
      exact hgo k hk (Ne.symm hjk) (hne k (Ne.symm hjk) h2)
    · rw [hLo j e]
      by_cases e2 : k = i
      · subst e2
        rw [hLg]; exact Ne.symm (hgo j hj e (hne j e h1))
      · rw [hLo k e2]; exact h.apart j k hj hk (hne j e h1) (hne k e2 h2) hjk
  · rcases hlen k hk q hq with ⟨e2, e3⟩ | ⟨e2, e3⟩
    · subst e2
      subst e3
      rw [hLn]
      by_cases e : j = k
      · subst e; rw [hLg]; exact h0g
      · rw [hLo j e]; exact hgg j hj (hne j e h1)
    · rw [hL _ _ e2]
      by_cases e : j = i
      · subst e; rw [hLg]; exact hog k hk q e3
      · rw [hLo j e]; exact h.hsg j k hj hk (hne j e h1) q e3
  · by_cases e : j = i
    · subst e; rw [hLg]; exact .inr (.inl rfl)
    · rw [hLo j e]; exact .inl (h.fg j hj (hne j e hv2))
  · rcases hlen j hj q hq with ⟨e2, e3⟩ | ⟨e2, e3⟩
    · subst e2
      subst e3
      rw [hLn]; exact .inr (.inr rfl)
    · rw [hL _ _ e2]; exact .inl (h.fh j hj q e3)
  · rcases hx with e | e | e
    · exact Nat.lt_of_lt_of_le (h.old x e) u.size
    · rw [e]; exact lt_of_block hcur2
    · rw [e]; exact Nat.lt_of_lt_of_le hg0 u.size
end Go.Proofs.YtpnpjffhkaejgaaDoor
