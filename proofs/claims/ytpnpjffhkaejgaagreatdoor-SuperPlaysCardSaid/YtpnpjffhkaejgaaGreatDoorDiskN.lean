/-
  PROVED HERE: Write, the loop over the pieces: what one round brings about. Conditions: those that each theorem names.
-/
import Derived.Test.YtpnpjffhkaejgaaGreatDoorDiskM
namespace Go.Proofs.YtpnpjffhkaejgaaGreatDoor
open Go.RowKit Go.Shelf

attribute [local go_sem] Oper.semAt_some

/-- The blocks that a disk uses. -/
def live (d : Nat) (L : DLay) (S : Dk) (x : Nat) : Prop := x = d ∨ x = L.db ∨ x = L.mb ∨ (∃ i, i < S.n ∧ (S.sec i).ver ≠ [] ∧ x = L.g i) ∨ ∃ i, i < S.n ∧ ∃ q, q < (S.sec i).ver.length ∧ x = (L.hs i q).1
theorem IsDisk.live_sub {w : World} {d : Nat} {L : DLay} {F : Nat → Prop} {S : Dk} (h : IsDisk w d L F S) {x : Nat} (hx : live d L S x) : F x := by
  rcases hx with rfl | rfl | rfl | ⟨i, hi, hv, rfl⟩ | ⟨i, hi, q, hq, rfl⟩
  · exact h.fd
  · exact h.fdb
  · exact h.fmb
  · exact h.fg i hi hv
  · exact h.fh i hi q hq
theorem IsDisk.tight {w : World} {d : Nat} {L : DLay} {F : Nat → Prop} {S : Dk} (h : IsDisk w d L F S) : IsDisk w d L (live d L S) S :=
  ⟨h.ok, h.hd, h.dur, h.map, h.ver, h.apart, h.hsg, .inl rfl, .inr (.inl rfl), .inr (.inr (.inl rfl)), fun i hi hv => .inr (.inr (.inr (.inl ⟨i, hi, hv, rfl⟩))), fun i hi q hq => .inr (.inr (.inr (.inr ⟨i, hi, q, hq, rfl⟩))), fun x hx => h.old x (h.live_sub hx)⟩
theorem IsDisk.live_cells {w : World} {d : Nat} {L : DLay} {F : Nat → Prop} {S : Dk} (h : IsDisk w d L F S) {x : Nat} (hx : live d L S x) : x = L.mb ∨ ∃ o, w.heap[x]? = some o ∧ o.isCells = true := by
  rcases hx with rfl | rfl | rfl | ⟨i, hi, hv, rfl⟩ | ⟨i, hi, q, hq, rfl⟩
  · obtain ⟨c, l, hb, _⟩ := h.hd
    exact .inr ⟨_, hb, rfl⟩
  · obtain ⟨cs, hb, _⟩ := h.dur
    exact .inr ⟨_, hb, rfl⟩
  · exact .inl rfl
  · obtain ⟨cs, hb, _⟩ := h.ver i hi hv
    exact .inr ⟨_, hb, rfl⟩
  · have hv : (S.sec i).ver ≠ [] := List.length_pos_iff.1 (by omega)
    obtain ⟨cs, _, _, _, _, hc⟩ := h.ver i hi hv
    have h256 := ((h.ok.sec i hi).2 _ (List.getElem_mem hq)).1
    obtain ⟨b, o, e2, hcell⟩ := (hc q hq).2.2.2 0 (by rw [h256]; decide)
    cases e2
    exact .inr (cells_of_cell hcell)
/-- One round, whatever it has written. -/
theorem rnd_next {w W W1 : World} {d : Nat} {L L1 : DLay} {F F1 G : Nat → Prop} {S : Dk} {p : Nat} {data : List Nat} {fua : Bool} {g Bl B2 B3 : Nat} {pre : List Nat} (x : Nat) (h : Rnd w d L F S p data fua g Bl pre W) (hF : ∀ x, F x → x < w.heap.size) (hFm : F L.mb)
    (hg : w.heap.size + 2 < g) (hB2 : w.heap.size + 2 < B2 ∧ B2 < Bl) (hB3 : w.heap.size + 2 < B3 ∧ B3 < Bl) (e1 : L1.db = L.db) (e2 : L1.mb = L.mb) (hd : IsDisk W1 d L1 F1 (putV (puts S fua p (pre.map fun x => piece data (x % (data.length / 256)))) fua (p + pre.length) (piece data (x % (data.length / 256)))))
    (hF1 : ∀ y, F1 y → F y ∨ y = g ∨ Bl ≤ y) (u : UpdP G W W1) (hG : ∀ y, G y → F y ∨ Bl ≤ y) (hG2 : ∀ y, G y → Bl ≤ y → ∀ o, W.heap[y]? = some o → o.isCells = true) :
    Rnd w d L F S p data fua g Bl (pre ++ [x]) (W1.setCell ⟨w.heap.size + 1, 0, none⟩ (.int .i64 (((p + pre.length : Nat) : Int) + 1))) ∧ KeepsFrom Bl W (W1.setCell ⟨w.heap.size + 1, 0, none⟩ (.int .i64 (((p + pre.length : Nat) : Int) + 1))) ∧
      KpB B2 B3 W (W1.setCell ⟨w.heap.size + 1, 0, none⟩ (.int .i64 (((p + pre.length : Nat) : Int) + 1))) := by
  have hbs := h.bsz
  have hgs := h.gsz
  have hnG : ∀ {y : Nat}, w.heap.size ≤ y → y < Bl → ¬ G y := fun h1 h2 e => by rcases hG _ e with e | e; have := hF _ e; omega; omega
  have hnF1 : ∀ {y : Nat}, w.heap.size ≤ y → y < Bl → y ≠ g → ¬ F1 y := fun h1 h2 h3 e => by rcases hF1 _ e with e | e | e; have := hF _ e; omega; omega; omega
  have u3 : UpdP (fun y => y = w.heap.size + 1) W1 (W1.setCell ⟨w.heap.size + 1, 0, none⟩ (.int .i64 (((p + pre.length : Nat) : Int) + 1))) :=
    ((Upd.refl [w.heap.size + 1] W1).setCell (.inl (by simp)) _).p (by simp)
  have ub : UpdP (fun y => G y ∨ y = w.heap.size + 1) W (W1.setCell ⟨w.heap.size + 1, 0, none⟩ (.int .i64 (((p + pre.length : Nat) : Int) + 1))) :=
    (UpdP.refl (fun y => G y ∨ y = w.heap.size + 1) W |>.step u (fun _ e => .inl (.inl e))).step u3 fun _ e => .inl (.inr e)
  have hd3 := (hd.tight).upd u3 (fun y hy e => hnF1 (y := y) (by omega) (by omega) (by omega) (hd.live_sub hy))
  have hlc : ∀ y, live d L1 (putV (puts S fua p (pre.map fun x => piece data (x % (data.length / 256)))) fua (p + pre.length) (piece data (x % (data.length / 256)))) y → _ := fun y hy => hd3.live_cells hy
  refine ⟨?_, ub.keeps fun y hy e o ho => ?_, ⟨World.cell?_of_block (ub.block B2 (by omega) ?_), World.cell?_of_block (ub.block B3 (by omega) ?_)⟩⟩
  · exact {
      disk := ⟨L1, _, e1, e2, by rw [List.map_append, List.map_cons, List.map_nil, puts_snoc, List.length_map]; exact hd3, fun y hy => hF1 y (hd.live_sub hy), fun y hy e => by
        rcases hlc y hy with e3 | e3
        · rw [e3, e2] at e
          have := hF _ hFm
          omega
        · exact e3⟩
      dbox := ub.get h.dbox (by rintro (e | e); exact hnG (by omega) (by omega) e; omega)
      abox := by
        have := u.get h.abox (hnG (by omega) (by omega))
        rw [heap_setCell_same W1 _ 0 _ _ _ this, List.length_append, List.length_singleton]
        simp
        omega
      fbox := ub.get h.fbox (by rintro (e | e); exact hnG (by omega) (by omega) e; omega)
      clone := h.clone.same (ub.block g (by omega) (by rintro (e | e); exact hnG (by omega) (by omega) e; omega))
      gsz := hgs
      bsz := Nat.le_trans hbs ub.size
      upd := (h.upd.step u fun y e => by rcases hG y e with e | e; exact .inl e; exact .inr (by omega)).step u3 fun y e => .inr (by omega) }
  · rcases e with e | e
    · exact hG2 y e hy o ho
    · omega
  · rintro (e | e)
    · exact hnG (by omega) (by omega) e
    · omega
  · rintro (e | e)
    · exact hnG (by omega) (by omega) e
    · omega
theorem rnd_fua {w W w1 w2 : World} {d : Nat} {L L' : DLay} {F F' : Nat → Prop} {S : Dk} {p c : Nat} {data : List Nat} {g Bl B2 B3 : Nat} {pre : List Nat} (x : Nat) (h : Rnd w d L F S p data true g Bl pre W) (hF : ∀ x, F x → x < w.heap.size) (hFm : F L.mb) (hFd : F L.db)
    (hg : w.heap.size + 2 < g) (hB2 : w.heap.size + 2 < B2 ∧ B2 < Bl) (hB3 : w.heap.size + 2 < B3 ∧ B3 < Bl) (hc : data.length = 256 * c) (hok : BytesOk data) (hc0 : 0 < c) (hpc : p + c ≤ S.n) (hlt : pre.length < c) (e1 : L'.db = L.db) (e2 : L'.mb = L.mb)
    (hd : IsDisk W d L' F' (puts S true p (pre.map fun x => piece data (x % (data.length / 256))))) (hF1 : ∀ y, F' y → F y ∨ y = g ∨ Bl ≤ y) {cur : Array Value} (hcur : W.heap[L.db]? = some (.cells cur 5 (0, 0)))
    (hw1 : w1.heap[L.db]? = some (.cells (splice cur (256 * (p + pre.length)) (u8s (piece data (x % c)))) 5 (0, 0))) (u1 : Upd [L.db] W w1) (hm : IMap Tryz.prog 3 w2 L.mb (fun z => if z = ((p + pre.length : Nat) : Int) then none else mapOf L' (puts S true p (pre.map fun x => piece data (x % (data.length / 256)))) z)) (u2 : Upd [L.mb] w1 w2) :
    Rnd w d L F S p data true g Bl (pre ++ [x]) (w2.setCell ⟨w.heap.size + 1, 0, none⟩ (.int .i64 (((p + pre.length : Nat) : Int) + 1))) ∧ KeepsFrom Bl W (w2.setCell ⟨w.heap.size + 1, 0, none⟩ (.int .i64 (((p + pre.length : Nat) : Int) + 1))) ∧
      KpB B2 B3 W (w2.setCell ⟨w.heap.size + 1, 0, none⟩ (.int .i64 (((p + pre.length : Nat) : Int) + 1))) := by
  have hcd : data.length / 256 = c := by omega
  have hn := (puts_n S true p (pre.map fun x => piece data (x % (data.length / 256)))).1
  have hl := piece_ok hc hok (Nat.mod_lt x hc0)
  rw [← e1] at hcur hw1 u1
  rw [← e2] at hm u2
  generalize hS' : puts S true p (pre.map fun x => piece data (x % (data.length / 256))) = S' at *
  have hb : BlkF w1 L'.db S'.n (setf (fun j => (S'.sec j).dur) (p + pre.length) (piece data (x % c))) := by
    obtain ⟨cs, hb, hs, hp⟩ := hd.dur
    rw [hcur] at hb
    cases hb
    exact BlkF.splice hs hp (p + pre.length) (by omega) _ hl.1 hw1
  have hp := hd.put_fua (p + pre.length) (by omega) hl hb u1 hm u2
  refine rnd_next (G := fun y => y = L'.db ∨ y = L'.mb) x h hF hFm hg hB2 hB3 e1 e2 (by rw [hS', hcd]; exact hp) hF1 (((u1.mono (T := [L'.db, L'.mb]) (by simp)).trans (u2.mono (by simp))).p (by simp)) (fun y e => ?_) fun y e hy => ?_
  · rcases e with e | e
    · exact .inl (by rw [e, e1]; exact hFd)
    · exact .inl (by rw [e, e2]; exact hFm)
  · have := h.bsz
    have := h.gsz
    have := hF _ hFm
    have := hF _ hFd
    omega
theorem rnd_ver {w W wa w1 w2 : World} {d : Nat} {L L' : DLay} {F F' : Nat → Prop} {S : Dk} {p c : Nat} {data : List Nat} {g Bl B2 B3 : Nat} {pre : List Nat} (x : Nat) (h : Rnd w d L F S p data false g Bl pre W) (hF : ∀ x, F x → x < w.heap.size) (hFm : F L.mb) (hFd : F L.db)
    (hg : w.heap.size + 2 < g) (hB2 : w.heap.size + 2 < B2 ∧ B2 < Bl) (hB3 : w.heap.size + 2 < B3 ∧ B3 < Bl) (hc : data.length = 256 * c) (hok : BytesOk data) (hc0 : 0 < c) (hpc : p + c ≤ S.n) (hlt : pre.length < c) (e1 : L'.db = L.db) (e2 : L'.mb = L.mb)
    (hd : IsDisk W d L' F' (puts S false p (pre.map fun x => piece data (x % (data.length / 256))))) (hF1 : ∀ y, F' y → F y ∨ y = g ∨ Bl ≤ y) (hF2 : ∀ x, F' x → Bl ≤ x → ∃ o, W.heap[x]? = some o ∧ o.isCells = true)
    (ua : Upd [] W wa) {g' cap' m : Nat} (hm : ((puts S false p (pre.map fun x => piece data (x % (data.length / 256)))).sec (p + pre.length)).ver.length = m) {v : Value} (hv : v = if ((puts S false p (pre.map fun x => piece data (x % (data.length / 256)))).sec (p + pre.length)).ver = [] then .slice none 0 0 else verV L' (puts S false p (pre.map fun x => piece data (x % (data.length / 256)))) (p + pre.length))
    (hrow : w1.ownsRow 0 62 1 (.slice (some ⟨g', 0, none⟩) (m + 1) cap') (m + 1) (heads L' (p + pre.length) m ++ [pieceV g c x])) (hmine : Mine v wa (.slice (some ⟨g', 0, none⟩) (m + 1) cap') w1)
    (hmap : IMap Tryz.prog 3 w2 L.mb (fun z => if z = ((p + pre.length : Nat) : Int) then some (.slice (some ⟨g', 0, none⟩) (m + 1) cap') else mapOf L' (puts S false p (pre.map fun x => piece data (x % (data.length / 256)))) z)) (u2 : Upd [L.mb] w1 w2) :
    Rnd w d L F S p data false g Bl (pre ++ [x]) (w2.setCell ⟨w.heap.size + 1, 0, none⟩ (.int .i64 (((p + pre.length : Nat) : Int) + 1))) ∧ KeepsFrom Bl W (w2.setCell ⟨w.heap.size + 1, 0, none⟩ (.int .i64 (((p + pre.length : Nat) : Int) + 1))) ∧
      KpB B2 B3 W (w2.setCell ⟨w.heap.size + 1, 0, none⟩ (.int .i64 (((p + pre.length : Nat) : Int) + 1))) := by
  have hcd : data.length / 256 = c := by omega
  have hn := (puts_n S false p (pre.map fun x => piece data (x % (data.length / 256)))).1
  have hl := piece_ok hc hok (Nat.mod_lt x hc0)
  have hbs := h.bsz
  have hgs := h.gsz
  rw [← e2] at hmap u2
  rw [← e1] at hFd
  rw [← e2] at hFm
  generalize hS' : puts S false p (pre.map fun x => piece data (x % (data.length / 256))) = S' at *
  have hi : p + pre.length < S'.n := by omega
  have hgg : ∀ j, j < S'.n → (S'.sec j).ver ≠ [] → g ≠ L'.g j := fun j hj hv e => by
    obtain ⟨cs, hb, _, _, _, hcc⟩ := hd.ver j hj hv
    have h0 := (hcc 0 (List.length_pos_iff.2 hv)).1
    obtain ⟨b, o, e3, hcell⟩ := h.clone.2 0 (by omega)
    cases e3
    rw [e, (cells_of hb).1, h0] at hcell
    cases hcell
  have hgd : g ≠ L'.db := fun e => by have := hF _ hFd; omega
  have hgm : g ≠ L'.mb := fun e => by have := hF _ hFm; omega
  have hG : ∀ y, (y = L'.mb ∨ ((S'.sec (p + pre.length)).ver ≠ [] ∧ y = L'.g (p + pre.length))) → F' y ∧ y ≠ g := fun y hy => by
    rcases hy with rfl | ⟨e, rfl⟩
    · exact ⟨hd.fmb, hgm.symm⟩
    · exact ⟨hd.fg _ hi e, (hgg _ hi e).symm⟩
  have hT : ∀ y ∈ v.ownBlock.toList, (S'.sec (p + pre.length)).ver ≠ [] ∧ y = L'.g (p + pre.length) := fun y hy => by
    by_cases e : (S'.sec (p + pre.length)).ver = []
    · rw [hv, if_pos e] at hy; simp [Value.ownBlock] at hy
    · rw [hv, if_neg e] at hy; exact ⟨e, by simpa [verV, Value.ownBlock] using hy⟩
  have u : UpdP (fun y => y = L'.mb ∨ ((S'.sec (p + pre.length)).ver ≠ [] ∧ y = L'.g (p + pre.length))) W w2 :=
    (((ua.mono (T := L'.mb :: v.ownBlock.toList) (by simp)).trans (hmine.upd.mono fun y hy => List.mem_cons_of_mem _ hy)).trans (u2.mono (by simp))).p fun y hy => by
      rcases List.mem_cons.1 hy with e | e
      · exact .inl e
      · exact .inr (hT y e)
  have hby : IsBytes w2 (some ⟨g, 256 * (x % c), none⟩) (piece data (x % c)) := (piece_bytes h.clone (x % c)).same (u.block g (by omega) fun e => (hG _ e).2 rfl)
  have hp := hd.put_ver (p + pre.length) hi hl hby hgd hgg (by omega) ua hm hv hrow hmine hmap u2
  refine rnd_next (L1 := L'.add (p + pre.length) m g' cap' g (256 * (x % c))) x h hF (by rw [← e2]; exact hFm) hg hB2 hB3 e1 e2 (by rw [hS', hcd]; exact hp) (fun y hy => ?_) u (fun y hy => ?_) fun y hy hB o ho => ?_
  · rcases hy with e | e | e
    · exact hF1 y e
    · rcases hmine.blk y (by simp [Value.ownBlock, e]) with e3 | e3
      · obtain ⟨e4, e5⟩ := hT y e3
        exact hF1 y (by rw [e5]; exact hd.fg _ hi e4)
      · exact .inr (.inr (by have := ua.size; omega))
    · exact .inr (.inl e)
  · obtain ⟨h1, h2⟩ := hG y hy
    rcases hF1 y h1 with e | e | e
    · exact .inl e
    · exact absurd e h2
    · exact .inr e
  · obtain ⟨o', ho', hc'⟩ := hF2 y (hG y hy).1 hB
    rw [ho] at ho'
    cases ho'
    exact hc'
end Go.Proofs.YtpnpjffhkaejgaaGreatDoor
