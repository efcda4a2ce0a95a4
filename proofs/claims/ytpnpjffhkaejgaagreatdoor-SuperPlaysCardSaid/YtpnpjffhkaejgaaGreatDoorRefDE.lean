/-
  PROVED HERE: the document's disk: Write, where it is done. Conditions: those that each theorem names.
-/
import Derived.Test.YtpnpjffhkaejgaaGreatDoorRefDD
namespace Go.Proofs.YtpnpjffhkaejgaaGreatDoor
open Go.RowKit

set_option maxRecDepth 100000 in
set_option maxHeartbeats 6400000 in
theorem rwrite_yes {w : World} {r : Nat} {F : Nat → Prop} {S : Dk} (h : RefX w r F S) (p c : Nat) {b o : Nat} {data : List Nat} {cap : Nat} (fua : Bool) (hby : IsBytes w (some ⟨b, o, none⟩) data) (hbf : ¬ F b) (hc : data.length = 256 * c) (hcap : 256 * c ≤ cap) (hcap2 : cap ≤ 9223372036854775807) (hc0 : 0 < c) (hpc : p + c ≤ S.n)
    (hh : S.hit 2 = false) (hdn : S.down = false) (hvl : ∀ i, i < S.n → (S.sec i).ver.length ≤ 2000000000000) :
    Calls Tryz.prog 23 #[.pointer (some ⟨r, 0, none⟩), .int .i64 (p : Nat), .slice (some ⟨b, o, none⟩) (256 * c) cap, .bool fua] w fun e w' => e = .returned (.int .i64 0) ∧ RWrote w' r F w.heap.size (S.write p data fua).2 ∧ UpdP F w w' := by
  obtain ⟨L, h⟩ := h
  have HD := Lib.hid h
  have n2 := h.ok.n2
  have ht : S.there (p : Int) (c : Int) = true := by unfold Dk.there; simp; omega
  have HT := Lib.hid (ht ▸ rthere_any h.hd h.ok.n2 (p : Int) (c : Int))
  have HF := Lib.hid (hh ▸ rfails_any h.hd h.ok.fall 2 (by decide))
  have e1 : ((256 * c : Nat) : Int) = 256 * (c : Int) := by omega
  have e2 : ((256 * (c : Int)) / 256 == 0) = false := by simp; omega
  have e2' : ((c : Int) == 0) = false := by simp; omega
  have e3 : ((256 * (c : Int)) % 256 != 0) = false := by simp
  have e4 : (256 * (c : Int)) / 256 = (c : Int) := by omega
  have e5 : (0 : Int) ≤ 256 * (c : Int) := by omega
  have c4 : c ≤ 4096 := by omega
  have HW := Lib.hid (write_done (fua := fua) hc hc0 hpc hh hdn)
  have HL0 := Lib.hid (show rLeft (S.tick 2) ≠ 0 by
    unfold Dk.down at hdn
    unfold rLeft
    rw [show (S.tick 2).left = S.left from rfl]
    cases hl : S.left with
    | none => simp
    | some k => rw [hl] at hdn; simp at hdn; simp; omega)
  have HC := Lib.hid hc
  have HBY := Lib.hid hby
  have HBF := Lib.hid hbf
  have HPC := Lib.hid hpc
  have HVL := Lib.hid hvl
  obtain ⟨lf, hlf⟩ : ∃ lf, rLeft (S.tick 2) = lf := ⟨_, rfl⟩
  have hl1 : (lf == 0) = false := by have := HL0.out; rw [hlf] at this; simpa using this
  have HLF := Lib.hid hlf
  clear h ht hh hdn hc hby hbf hpc hvl hlf
  go_enter Tryz.func23, Tryz.ntmps23
  go_wp2_with (go_at_call 44; (with_reducible refine HT.out.mono ?_); rintro e w' ⟨rfl, rfl⟩)
  refine HF.out.mono ?_
  rintro e w1 ⟨rfl, h1, u1⟩
  have c5 := (rcell h1).2.2.2.2.2
  rw [HLF.out] at c5
  have D1 := Lib.hid (HD.out.ticked u1 2 h1)
  have U1 := Lib.hid (u1.p (F := F) (by simpa using HD.out.fr))
  have HB1 := Lib.hid (HBY.out.upd2 U1.out HBF.out)
  clear h1 u1
  go_wp2_with fail
  go_loopw [10] (fun i wr => ∃ k : Nat, k ≤ c ∧ i = .int .i64 k ∧ (∃ Lr Fr, IsRef wr r Lr Fr (putsK (S.tick 2) fua p data k) ∧ ∀ x, Fr x → F x ∨ w1.heap.size ≤ x) ∧ UpdP F w1 wr) (fun i _ => c - (RowKit.intOf i).toNat)
  case atStart => exact ⟨0, Nat.zero_le _, rfl, ⟨L, F, by rw [putsK_zero]; exact D1.out, fun x hx => .inl hx⟩, UpdP.refl _ _⟩
  case round =>
    obtain ⟨k, hk, rfl, ⟨Lr, Fr, hR, hFr⟩, hU⟩ := hrel
    have HR := Lib.hid hR
    have HFr := Lib.hid hFr
    have HU := Lib.hid hU
    obtain ⟨c0, _⟩ := rcell hR.hd
    rw [putsK_n, show (S.tick 2).n = S.n from rfl] at c0
    clear hR hFr hU
    by_cases hlt : k < c
    · have HP := Lib.hid (show IsBytes wr (some ⟨b, o + 256 * k, none⟩) (piece data k) from ((HB1.out.upd2 HU.out HBF.out).drop (256 * k)).sub 256)
      have HPL := Lib.hid (piece_ok HC.out HBY.out.1 hlt)
      have hsl : ∀ wz, (Instr.sliceAt 62 (.slice (some ⟨b, o, none⟩) (256 * c) cap) (some (.int .i64 (256 * (k : Int)))) (some (.int .i64 (256 * (k : Int) + 256))) none).run Tryz.prog wz = .ok (.slice (some ⟨b, o + 256 * k, none⟩) 256 (cap - 256 * k)) wz := fun wz => by
        have := run_sl_mid (P := Tryz.prog) wz Tryz.underlying62 sizeU8 b o (256 * c) cap .i64 .i64 (256 * (k : Int)) (256 * (k : Int) + 256) (by omega) (by omega) (by omega) (by omega)
        rw [this, show (256 * (k : Int)).toNat = 256 * k by omega, show (256 * (k : Int) + 256).toNat = 256 * k + 256 by omega, Nat.add_sub_cancel_left]
      go_wp2_with (at_builtin; refine wpList_approw rfl (.tmp 42) (.tmp 49) rfl rfl (IsRow.nil _ wr.heap.size) b (o + 256 * k) 256 (cap - 256 * k) rfl HP.out HPL.out.1 (by decide) (Nat.le_refl _) ?_; intro v2 w2 hn2 hx2; have HN2 := Lib.hid hn2; have HX2 := Lib.hid hx2; clear hn2 hx2)
      obtain ⟨g, cg, rfl, hgw, hgl, hg1, hg2, hgb⟩ := row_some HN2.out (n := 256) (by rw [List.nil_append]; exact HPL.out.1) (by decide)
      have HGR := Lib.hid HN2.out
      rw [List.nil_append] at hgb
      have R2 := HR.out.up HX2.out.fresh (by simp)
      have hblk : BlkF w2 g 1 fun _ => piece data k := by
        have := HGR.out
        obtain ⟨cs, h1, h2, h3, _, _, h6⟩ := BlkF.of_row (f := fun _ => piece data k) (c := 1) (B := wr.heap.size) (g := g) (cap := cg) (by rw [show blocks (fun _ => piece data k) 1 = piece data k by simp [blocks], HPL.out.1]; rw [List.nil_append] at this; exact this) (fun _ _ => HPL.out.1)
        exact ⟨cs, h1, by omega, h6⟩
      have hgF : g ≠ Lr.gl ∧ ∀ x ∈ (Lr.vv (p + k)).ownBlock.toList, x ≠ g := ⟨fun e => by have := HR.out.old _ HR.out.fgl; omega, fun x hx e => by have := HR.out.old _ (HR.out.fvv (p + k) (by rw [putsK_n]; have := HPC.out; show p + k < S.n; omega) x hx); omega⟩
      have hc0' : w2.cell? ⟨r, 0, none⟩ = some (.slice (some ⟨Lr.gl, 0, none⟩) S.n Lr.cap) := by rw [← c0]; exact World.cell?_of_block (HX2.out.fresh.block r (World.block_lt_of_cell? _ _ c0) (by simp))
      have hpk : p + k < S.n := by have := HPC.out; omega
      have hpk' : p + k < (putsK (S.tick 2) fua p data k).n := by rw [putsK_n]; exact hpk
      have hw1 : IntKind.i64.wrap ((p : Int) + (k : Int)) = (p : Int) + (k : Int) := IntWalk.i64_in _ (by omega)
      have hw2 : (0 : Int) ≤ (p : Int) + (k : Int) := by omega
      have hw3 : (p : Int) + (k : Int) < S.n := by omega
      have hw4 : ((p : Int) + (k : Int)).toNat = p + k := by omega
      have HX := Lib.hid HX2.out.fresh
      have HBLK := Lib.hid hblk
      have R2' := Lib.hid R2
      have HPK := Lib.hid hpk'
      clear hgb hblk R2 hpk'
      obtain ⟨i0, hi0, iz0, iz1, iz2⟩ := info_parts infoSlr
      obtain ⟨kd, kv⟩ := R2'.out.cells (p + k) HPK.out
      obtain ⟨m, hm⟩ : ∃ m, ((putsK (S.tick 2) fua p data k).sec (p + k)).ver.length = m := ⟨_, rfl⟩
      have hmb : m ≤ 2000000000000 := by rw [← hm, putsK_sec]; exact HVL.out _ hpk
      obtain ⟨v, hv⟩ : ∃ v, Lr.vv (p + k) = v := ⟨_, rfl⟩
      have ua : Upd [] w2 (w2.drew.alloc (.cells #[.slice (some ⟨g, 0, none⟩) 256 cg] 62)) := ((Upd.refl [] w2).drew).alloc _
      have hrow := ownsRow_upd (R2'.out.ver (p + k) HPK.out) ua (by simp)
      rw [hm, hv] at hrow
      rw [hv] at kv
      obtain ⟨v', w4, hap, hrow4, hmine4⟩ := run_append_blk (P := Tryz.prog) (w2.drew.alloc (.cells #[.slice (some ⟨g, 0, none⟩) 256 cg] 62)) 0 70 70 62 i0 _ 1 24 Tryz.underlying70 hi0 iz0 iz1 iz2 rfl (by decide) v m _ hrow ⟨w2.heap.size, 0, none⟩ 1 1 [.slice (some ⟨g, 0, none⟩) 256 cg] rfl
        (fun j u hj => by rw [add_off]; have : (w2.drew.alloc (.cells #[.slice (some ⟨g, 0, none⟩) 256 cg] 62)).heap[w2.heap.size]? = _ := heap_alloc_new w2.drew (.cells #[.slice (some ⟨g, 0, none⟩) 256 cg] 62); rw [(cells_of this).1, Nat.zero_add]; simpa using hj) (by simp [Value.oneCell']) (by unfold maxLen; omega) (by omega) (by simp)
      obtain ⟨g', cap', rfl⟩ := ownsRow_succ hrow4
      have hu4 : Upd v.ownBlock.toList w2 w4 := (ua.mono (by simp)).trans hmine4.upd
      have hrv : ∀ x ∈ v.ownBlock.toList, r ≠ x ∧ Lr.gl ≠ x := fun x hx => ⟨R2'.out.r_ne.2.2.1 _ HPK.out x (by rw [hv]; exact hx), R2'.out.gl_ne.2.1 _ HPK.out x (by rw [hv]; exact hx)⟩
      have hrw : r < w2.heap.size := World.block_lt_of_cell? _ _ hc0'
      have hglw : Lr.gl < w2.heap.size := World.block_lt_of_cell? _ _ kv
      have b4r := hu4.block r hrw (fun e => (hrv _ e).1 rfl)
      have b4g := hu4.block Lr.gl hglw (fun e => (hrv _ e).2 rfl)
      have k4r : w4.cell? ⟨r, 0, none⟩ = some (.slice (some ⟨Lr.gl, 0, none⟩) S.n Lr.cap) := by rw [← hc0']; exact World.cell?_of_block b4r
      have k4g : w4.cell? ⟨Lr.gl, (p + k) * 2 + 1, none⟩ = some v := by rw [← kv]; exact World.cell?_of_block b4g
      obtain ⟨csl, hcsl, _⟩ := R2'.out.lst
      have hcs4 : w4.heap[Lr.gl]? = _ := b4g.trans hcsl
      have z4g := (cells_of hcs4).2 ((p + k) * 2 + 1)
      have kar : (w2.drew.alloc (.cells #[.slice (some ⟨g, 0, none⟩) 256 cg] 62)).cell? ⟨r, 0, none⟩ = some (.slice (some ⟨Lr.gl, 0, none⟩) S.n Lr.cap) := by rw [← hc0']; exact World.cell?_of_block (ua.block r hrw (by simp))
      have kag : (w2.drew.alloc (.cells #[.slice (some ⟨g, 0, none⟩) 256 cg] 62)).cell? ⟨Lr.gl, (p + k) * 2 + 1, none⟩ = some v := by rw [← kv]; exact World.cell?_of_block (ua.block Lr.gl hglw (by simp))
      have hput := IsRef.putVer R2'.out (i := p + k) (b := g) (c := cg) (m := m) HPK.out HPL.out HBLK.out hgl ⟨hg1, hg2⟩ hm ua hrow4 (by rw [hv]; exact hmine4) rfl
      have hrg : r ≠ Lr.gl := R2'.out.r_ne.1
      have k5r : (w4.setCell ⟨Lr.gl, (p + k) * 2 + 1, none⟩ (.slice (some ⟨g', 0, none⟩) (m + 1) cap')).cell? ⟨r, 0, none⟩ = some (.slice (some ⟨Lr.gl, 0, none⟩) S.n Lr.cap) := by
        rw [← k4r]
        exact World.cell?_of_block (((Upd.refl [Lr.gl] w4).setCell (p := ⟨Lr.gl, (p + k) * 2 + 1, none⟩) (.inl (by simp)) _).block r (World.block_lt_of_cell? _ _ k4r) (by simpa using hrg))
      have HGP := Lib.hid (show ∀ x ∈ (Value.slice (some ⟨g', 0, none⟩) (m + 1) cap').ownBlock.toList, Fr x ∨ w2.heap.size ≤ x from fun x hx => by
        rcases hmine4.blk x hx with e | e
        · exact .inl (HR.out.fvv _ (by rw [putsK_n]; exact hpk) x (by rw [hv]; exact e))
        · exact .inr (Nat.le_trans ua.size e))
      have HBLK5 : Hid (BlkF (w4.setCell ⟨Lr.gl, (p + k) * 2 + 1, none⟩ (.slice (some ⟨g', 0, none⟩) (m + 1) cap')) g 1 fun _ => piece data k) :=
        (HBLK.out.upd hu4 (fun e => hgF.2 g (by rw [hv]; exact e) rfl)).upd ((Upd.refl [Lr.gl] w4).setCell (p := ⟨Lr.gl, (p + k) * 2 + 1, none⟩) (.inl (by simp)) _) (by simpa using hgF.1)
      have HAP := Lib.hid hap
      have HPUT := Lib.hid hput
      have HM := Lib.hid hm
      have HI := Lib.hid hi0
      have HBG := Lib.hid hcs4
      have HRG := Lib.hid hrg
      clear hap hput hm hi0 iz2 hrow hrow4 hmine4 hu4 hrv b4r b4g hcsl hcs4 ua hv hrg
      go_wp2_with fail
      refine wp_region_order (fun W' => W'.cell? ⟨r, 0, none⟩ = some (.slice (some ⟨Lr.gl, 0, none⟩) S.n Lr.cap)) [0, 1, 2, 3, 4, 5, 6, 7, 8, 9, 10, 11, 12, 13, 14, 15, 17] [[16, 18, 19, 20, 21, 22], [18, 16, 19, 20, 21, 22]] 6 rfl (by kernel_rfl) hc0' ?_
      simp only [List.map_cons, List.map_nil, opAt]
      iterate 17
        apply reads_step rfl
        · intro wq hq
          go_simp
          all_goals with_reducible rfl
        simp only [Act.put, List.setIfInBounds_toArray, List.set_cons_zero, List.set_cons_succ]
      refine ⟨?_, ?_, trivial⟩
      · simp only [List.map_cons, List.map_nil, opAt]
        refine ⟨rfl, ?_⟩
        go_simp
        refine tail_val (w' := w2.drew.alloc (.cells #[.slice (some ⟨g, 0, none⟩) 256 cg] 62)) (.slice (some ⟨w2.heap.size, 0, none⟩) 1 1) rfl (exec_build1 rfl Tryz.underlying70 HI.out iz0 iz1 rfl (v := .slice (some ⟨g, 0, none⟩) 256 cg) rfl rfl) kar ?_
        simp only [Act.put, List.setIfInBounds_toArray, List.set_cons_zero, List.set_cons_succ]
        refine tail_val (w' := w4) (.slice (some ⟨g', 0, none⟩) (m + 1) cap') rfl (exec_append rfl (vm := v) (vx := .slice (some ⟨w2.heap.size, 0, none⟩) 1 1) rfl rfl HAP.out) k4r ?_
        simp only [Act.put, List.setIfInBounds_toArray, List.set_cons_zero, List.set_cons_succ]
        refine ⟨rfl, ?_⟩
        go_simp
        refine ⟨rfl, ?_⟩
        go_simp
        refine ⟨rfl, ?_⟩
        go_simp
        dsimp only [OnlyN, Exit.then, wpTail, Exit.inBlock]
        have hF5 : ∀ x, (Fr x ∨ x = g ∨ x ∈ (Value.slice (some ⟨g', 0, none⟩) (m + 1) cap').ownBlock.toList) → F x ∨ w1.heap.size ≤ x := fun x hx => by
          have s1 := HU.out.size
          have s2 := HX.out.size
          rcases hx with e | e | e
          · exact HFr.out x e
          · exact .inr (by omega)
          · rcases HGP.out x e with e | e
            · exact HFr.out x e
            · exact .inr (by omega)
        have hU5 : UpdP F w1 (w4.setCell ⟨Lr.gl, (p + k) * 2 + 1, none⟩ (.slice (some ⟨g', 0, none⟩) (m + 1) cap')) := (HU.out.step (HX.out.p (F := fun _ => False) (by simp)) (fun x hx => hx.elim)).step HPUT.out.2 HFr.out
        have HF5 := Lib.hid hF5
        have HU5 := Lib.hid hU5
        clear hF5 hU5
        cases fua
        · go_wp2
          go_roundw
          case rel => exact ⟨k + 1, by omega, by go_num, ⟨_, _, by rw [putsK_succ]; exact HPUT.out.1, HF5.out⟩, HU5.out⟩
          case measure => simp [RowKit.intOf]; omega
        · obtain ⟨cs5, hcs5, hsz5, hn5, _⟩ := HPUT.out.1.lst
          have HCS5 := Lib.hid hcs5
          have HSZ5 := Lib.hid (show (p + k) * 2 + 2 ≤ cs5.size by rw [show (putV (putsK (S.tick 2) true p data k) false (p + k) (piece data k)).n = S.n from putsK_n _ _ _ _ _] at hn5; rw [hsz5]; show _ ≤ (Lr.addVer (p + k) m g cg _).cap * 2; omega)
          clear hcs5 hsz5 hn5
          go_wp2_with (refine wpList_store_part rfl 72 (.tmp 83) (.tmp 82) rfl Lr.gl ((p + k) * 2) #[.slice (some ⟨g, 0, none⟩) 256 cg, .slice none 0 0] rfl rfl 72 cs5 _ HCS5.out sizeCell HSZ5.out (by simp [Value.oneCell']) rfl ?_; intro w6 hg6 hu6 hs6; have HG6 := Lib.hid hg6; have HU6 := Lib.hid hu6; clear hg6 hu6 hs6)
          have h6 := IsRef.storeDur HPUT.out.1 (k := p + k) (b := g) (c := cg) (by show p + k < (putsK (S.tick 2) true p data k).n; exact HPK.out) HPL.out HBLK5.out (.inr (.inl rfl)) ⟨hg1, hg2⟩ HU6.out HCS5.out HG6.out
          rw [putV_two, ← putsK_succ] at h6
          have H6 := Lib.hid h6
          clear h6
          go_roundw
          case rel => exact ⟨k + 1, by omega, by go_num, ⟨_, _, H6.out, HF5.out⟩, HU5.out.step (HU6.out.p (F := (· = Lr.gl)) (by simp)) fun x hx => by rw [hx]; exact HFr.out _ HR.out.fgl⟩
          case measure => simp [RowKit.intOf]; omega
      · simp only [List.map_cons, List.map_nil, opAt]
        refine tail_val (w' := w2.drew.alloc (.cells #[.slice (some ⟨g, 0, none⟩) 256 cg] 62)) (.slice (some ⟨w2.heap.size, 0, none⟩) 1 1) rfl (exec_build1 rfl Tryz.underlying70 HI.out iz0 iz1 rfl (v := .slice (some ⟨g, 0, none⟩) 256 cg) rfl rfl) kar ?_
        simp only [Act.put, List.setIfInBounds_toArray, List.set_cons_zero, List.set_cons_succ]
        refine ⟨rfl, ?_⟩
        go_simp
        refine tail_val (w' := w4) (.slice (some ⟨g', 0, none⟩) (m + 1) cap') rfl (exec_append rfl (vm := v) (vx := .slice (some ⟨w2.heap.size, 0, none⟩) 1 1) rfl rfl HAP.out) k4r ?_
        simp only [Act.put, List.setIfInBounds_toArray, List.set_cons_zero, List.set_cons_succ]
        refine ⟨rfl, ?_⟩
        go_simp
        refine ⟨rfl, ?_⟩
        go_simp
        refine ⟨rfl, ?_⟩
        go_simp
        dsimp only [OnlyN, Exit.then, wpTail, Exit.inBlock]
        have hF5 : ∀ x, (Fr x ∨ x = g ∨ x ∈ (Value.slice (some ⟨g', 0, none⟩) (m + 1) cap').ownBlock.toList) → F x ∨ w1.heap.size ≤ x := fun x hx => by
          have s1 := HU.out.size
          have s2 := HX.out.size
          rcases hx with e | e | e
          · exact HFr.out x e
          · exact .inr (by omega)
          · rcases HGP.out x e with e | e
            · exact HFr.out x e
            · exact .inr (by omega)
        have hU5 : UpdP F w1 (w4.setCell ⟨Lr.gl, (p + k) * 2 + 1, none⟩ (.slice (some ⟨g', 0, none⟩) (m + 1) cap')) := (HU.out.step (HX.out.p (F := fun _ => False) (by simp)) (fun x hx => hx.elim)).step HPUT.out.2 HFr.out
        have HF5 := Lib.hid hF5
        have HU5 := Lib.hid hU5
        clear hF5 hU5
        cases fua
        · go_wp2
          go_roundw
          case rel => exact ⟨k + 1, by omega, by go_num, ⟨_, _, by rw [putsK_succ]; exact HPUT.out.1, HF5.out⟩, HU5.out⟩
          case measure => simp [RowKit.intOf]; omega
        · obtain ⟨cs5, hcs5, hsz5, hn5, _⟩ := HPUT.out.1.lst
          have HCS5 := Lib.hid hcs5
          have HSZ5 := Lib.hid (show (p + k) * 2 + 2 ≤ cs5.size by rw [show (putV (putsK (S.tick 2) true p data k) false (p + k) (piece data k)).n = S.n from putsK_n _ _ _ _ _] at hn5; rw [hsz5]; show _ ≤ (Lr.addVer (p + k) m g cg _).cap * 2; omega)
          clear hcs5 hsz5 hn5
          go_wp2_with (refine wpList_store_part rfl 72 (.tmp 83) (.tmp 82) rfl Lr.gl ((p + k) * 2) #[.slice (some ⟨g, 0, none⟩) 256 cg, .slice none 0 0] rfl rfl 72 cs5 _ HCS5.out sizeCell HSZ5.out (by simp [Value.oneCell']) rfl ?_; intro w6 hg6 hu6 hs6; have HG6 := Lib.hid hg6; have HU6 := Lib.hid hu6; clear hg6 hu6 hs6)
          have h6 := IsRef.storeDur HPUT.out.1 (k := p + k) (b := g) (c := cg) (by show p + k < (putsK (S.tick 2) true p data k).n; exact HPK.out) HPL.out HBLK5.out (.inr (.inl rfl)) ⟨hg1, hg2⟩ HU6.out HCS5.out HG6.out
          rw [putV_two, ← putsK_succ] at h6
          have H6 := Lib.hid h6
          clear h6
          go_roundw
          case rel => exact ⟨k + 1, by omega, by go_num, ⟨_, _, H6.out, HF5.out⟩, HU5.out.step (HU6.out.p (F := (· = Lr.gl)) (by simp)) fun x hx => by rw [hx]; exact HFr.out _ HR.out.fgl⟩
          case measure => simp [RowKit.intOf]; omega
    · obtain rfl : k = c := by omega
      have HDN := Lib.hid (rdone_any HR.out)
      go_wp2_with fail
      refine HDN.out.mono ?_
      rintro e w5 ⟨rfl, h5, u5⟩
      have H5 := Lib.hid h5
      have U5 := Lib.hid u5
      clear h5 u5
      go_wp2
      go_ret
      have hs1 := U1.out.size
      refine ⟨rfl, ⟨Fr, ⟨Lr, ?_⟩, fun x hx => (HFr.out x hx).imp id fun e => Nat.le_trans hs1 e⟩, (U1.out.step HU.out fun x hx => .inl hx).step (U5.out.p (F := F) (by simpa using HD.out.fr)) fun x hx => .inl hx⟩
      rw [HW.out]
      have e : (puts (S.tick 2) fua p (pieces data)) = putsK (S.tick 2) fua p data k := by
        unfold putsK pieces
        rw [HC.out, show 256 * k / 256 = k by omega]
      dsimp only
      rw [e]
      exact H5.out
end Go.Proofs.YtpnpjffhkaejgaaGreatDoor
