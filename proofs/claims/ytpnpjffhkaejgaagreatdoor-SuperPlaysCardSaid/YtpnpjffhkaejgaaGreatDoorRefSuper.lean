/-
  PROVED HERE: the document's PutSuper and GetSuper (package polderref02). Conditions: the bytes can be read.
-/
import Derived.Test.YtpnpjffhkaejgaaGreatDoorGetSuper
import Derived.Lib.SlBytesConst
namespace Go.Proofs.YtpnpjffhkaejgaaGreatDoor
open Go.RowKit

theorem number_b {w : World} {a : Option Addr} {l : List Nat} {cap : Nat} (at_ k : Nat) (hb : IsBytes w a l) (hl : l.length ≤ 9223372036854775807) (hk : k ≤ 8) (ha : at_ ≤ 1000) :
    Calls Tryz.prog 51 #[.slice a l.length cap, .int .i64 at_, .int .i64 k] w fun e w' => e = .returned (.int .i64 (numi (seg l at_ k))) ∧ w = w' :=
  (number_any hb hl hk ha).mono fun _ _ ⟨h, h1⟩ => ⟨h, h1.symm⟩
theorem number_i {w : World} {a : Option Addr} {l : List Nat} {cap : Nat} (x k : Int) (hb : IsBytes w a l) (hl : l.length ≤ 9223372036854775807) (h0 : 0 ≤ k) (hk : k ≤ 8) (h1 : 0 ≤ x) (ha : x ≤ 1000) :
    Calls Tryz.prog 51 #[.slice a l.length cap, .int .i64 x, .int .i64 k] w fun e w' => e = .returned (.int .i64 (numi (seg l x.toNat k.toNat))) ∧ w = w' := by
  obtain ⟨x, rfl⟩ := Int.eq_ofNat_of_zero_le h1
  obtain ⟨k, rfl⟩ := Int.eq_ofNat_of_zero_le h0
  exact number_b x k hb hl (by omega) (by omega)
theorem infoSuper : (Tryz.prog.info? 34).map (·.size) = some 7 := by kernel_rfl
theorem isOut_lit {w : World} {B g : Nat} {l : List Nat} {ty : TypeId} {fr : Nat × Nat} (h : w.heap[g]? = some (.cells (u8s l).toArray ty fr)) (ok : BytesOk l) (hB : B ≤ g) (hl : l.length ≤ 1000000) : IsOut w B (.slice (some ⟨g, 0, none⟩) l.length l.length) l :=
  ⟨.inr ⟨g, _, _, _, rfl, hB, h, fun i hi => by rw [List.getElem?_toArray, u8s_get, List.getElem?_eq_getElem hi]; rfl, hl⟩, ok⟩
/-- The numbers of a superblock lie in a block of their own. -/
def Nums (w : World) (l : List Int) (e : Ending) (w' : World) : Prop := ∃ b, e = .returned (.slice (some ⟨b, 0, none⟩) l.length l.length) ∧ w.heap.size ≤ b ∧ w'.heap[b]? = some (.cells (i64s l).toArray 3 (0, 0)) ∧ Upd [] w w'
set_option maxRecDepth 100000 in
set_option maxHeartbeats 1600000 in
theorem numbers_any (w : World) (x0 x1 x2 x3 x4 x5 x6 : Int) :
    Calls Tryz.prog 40 #[.agg #[.int .i64 x0, .int .i64 x1, .int .i64 x2, .int .i64 x3, .int .i64 x4, .int .i64 x5, .int .i64 x6]] w (Nums w [x0, x1, x2, x3, x4, x5, x6]) := by
  go_enter Tryz.func40, Tryz.ntmps40
  go_wp2
  go_ret
  exact ⟨w.heap.size + 1, rfl, by omega, by have := heap_alloc_new (w.alloc (.cells #[.int .i64 x0, .int .i64 x1, .int .i64 x2, .int .i64 x3, .int .i64 x4, .int .i64 x5, .int .i64 x6] 34)) (.cells (i64s [x0, x1, x2, x3, x4, x5, x6]).toArray 3); rw [show (w.alloc (.cells #[.int .i64 x0, .int .i64 x1, .int .i64 x2, .int .i64 x3, .int .i64 x4, .int .i64 x5, .int .i64 x6] 34)).heap.size = w.heap.size + 1 by simp] at this; exact this, ((Upd.refl [] w).alloc _).alloc _⟩
set_option maxRecDepth 100000 in
set_option maxHeartbeats 1600000 in
theorem rputSuper_any {w : World} (x0 x1 x2 x3 x4 x5 x6 : Int) :
    Calls Tryz.prog 22 #[.agg #[.int .i64 x0, .int .i64 x1, .int .i64 x2, .int .i64 x3, .int .i64 x4, .int .i64 x5, .int .i64 x6]] w fun e w' => PutOut w.heap.size (putSuper [x0, x1, x2, x3, x4, x5, x6]) e w' ∧ Upd [] w w' := by
  have hu := ((Upd.refl [] w).alloc (.cells #[.int .i64 x0, .int .i64 x1, .int .i64 x2, .int .i64 x3, .int .i64 x4, .int .i64 x5, .int .i64 x6] 34)).alloc (.cells #[.int .u8 80, .int .u8 83, .int .u8 85, .int .u8 80] 5 (4, 5))
  have hb := heap_alloc_new (w.alloc (.cells #[.int .i64 x0, .int .i64 x1, .int .i64 x2, .int .i64 x3, .int .i64 x4, .int .i64 x5, .int .i64 x6] 34)) (.cells #[.int .u8 80, .int .u8 83, .int .u8 85, .int .u8 80] 5 (4, 5))
  have h0 : IsOut ((w.alloc (.cells #[.int .i64 x0, .int .i64 x1, .int .i64 x2, .int .i64 x3, .int .i64 x4, .int .i64 x5, .int .i64 x6] 34)).alloc (.cells #[.int .u8 80, .int .u8 83, .int .u8 85, .int .u8 80] 5 (4, 5))) w.heap.size (.slice (some ⟨w.heap.size + 1, 0, none⟩) 4 4) (superBytes []) := by
    rw [show (w.alloc (.cells #[.int .i64 x0, .int .i64 x1, .int .i64 x2, .int .i64 x3, .int .i64 x4, .int .i64 x5, .int .i64 x6] 34)).heap.size = w.heap.size + 1 by simp] at hb
    exact isOut_lit (l := [80, 83, 85, 80]) hb (fun x hx => by simp at hx; omega) (by omega) (by decide)
  have H0 := Lib.hid h0
  have HU := Lib.hid hu
  clear hu hb h0
  have hcv := fun (n c : Nat) => Lib.run_convert_bytes_const (P := Tryz.prog) (w.alloc (.cells #[.int .i64 x0, .int .i64 x1, .int .i64 x2, .int .i64 x3, .int .i64 x4, .int .i64 x5, .int .i64 x6] 34)) 62 5 #[.int .u8 80, .int .u8 83, .int .u8 85, .int .u8 80] n c Tryz.underlying62 Tryz.underlying5
  rw [show (w.alloc (.cells #[.int .i64 x0, .int .i64 x1, .int .i64 x2, .int .i64 x3, .int .i64 x4, .int .i64 x5, .int .i64 x6] 34)).heap.size = w.heap.size + 1 by simp] at hcv
  go_enter Tryz.func22, Tryz.ntmps22
  go_wp2_with fail
  refine (numbers_any _ _ _ _ _ _ _ _).mono ?_
  rintro e w1 ⟨g, rfl, hg, hgb, hu1⟩
  have HG := Lib.hid hgb
  have hgl := lt_of_block hgb
  have H1 := Lib.hid (H0.out.upd hu1 (by simp))
  have HU1 := Lib.hid (HU.out.trans hu1)
  simp at hg
  clear hgb hu1
  go_wp2
  go_loopw [4, 6] (fun v i wr => ∃ k : Nat, k ≤ 7 ∧ i = .int .i64 k ∧ (∀ j (hj : j < k) (h7 : j < [x0, x1, x2, x3, x4, x5, x6].length), inB [x0, x1, x2, x3, x4, x5, x6][j] 1099511627776 = true) ∧ IsOut wr w.heap.size v (superBytes ([x0, x1, x2, x3, x4, x5, x6].take k)) ∧ Mine (.slice (some ⟨w.heap.size + 1, 0, none⟩) 4 4) w1 v wr) (fun _ i _ => 7 - (intOf i).toNat)
  case atStart => exact ⟨0, by decide, rfl, fun j hj => absurd hj (by omega), H1.out, Mine.refl _ _⟩
  case round =>
    obtain ⟨k, hk, rfl, hin, hV, hM⟩ := hrel
    have HIN := Lib.hid hin
    have HV := Lib.hid hV
    have HM := Lib.hid hM
    clear hin hV hM
    have HGr : Hid (wr.heap[g]? = some (.cells (i64s [x0, x1, x2, x3, x4, x5, x6]).toArray 3 (0, 0))) := HM.out.upd.get HG.out (by simp [Value.ownBlock]; omega)
    have HUr : Hid (Upd [] w wr) := HU1.out.step HM.out.upd (fun x hx => .inr (by simp [Value.ownBlock] at hx; omega))
    by_cases hlt7 : k < 7
    · have hk7 : k < [x0, x1, x2, x3, x4, x5, x6].length := hlt7
      have hcell := (cells_of HGr.out).1 k
      rw [List.getElem?_toArray, show (i64s [x0, x1, x2, x3, x4, x5, x6])[k]? = some (.int .i64 [x0, x1, x2, x3, x4, x5, x6][k]) by unfold i64s; rw [List.getElem?_map, List.getElem?_eq_getElem hk7]; rfl] at hcell
      have HS := Lib.hid (superBytes_take [x0, x1, x2, x3, x4, x5, x6] k hk7)
      have HL := Lib.hid (superBytes_len ([x0, x1, x2, x3, x4, x5, x6].take k))
      have HN := Lib.hid (fun h => putSuper_no (l := [x0, x1, x2, x3, x4, x5, x6]) hk7 h)
      generalize hx : [x0, x1, x2, x3, x4, x5, x6][k] = x at hcell HS HN
      have HX := Lib.hid hx
      clear hx
      cases hI : inB x 1099511627776
      · go_wp2_with (go_at_call 41; refine (rin_b _ _ _).mono ?_; rintro e w' ⟨rfl, rfl⟩)
        go_ret2
        rw [HN.out hI]
        exact ⟨PutOut.no _ _, HUr.out⟩
      · obtain ⟨m, rfl⟩ := Int.eq_ofNat_of_zero_le (inB_true.1 hI).1
        have hlen : (superBytes ([x0, x1, x2, x3, x4, x5, x6].take k)).length + 8 ≤ 100000000000000 := by rw [HL.out, List.length_take]; simp; omega
        have HLEN := Lib.hid hlen
        have HSZ := Lib.hid HUr.out.size
        clear hlen
        go_wp2_with (first | (go_at_call 41; refine (rin_b _ _ _).mono ?_; rintro e w' ⟨rfl, rfl⟩) | (go_at_call 42; refine (rput_any (k := 8) HV.out HSZ.out (by decide) HLEN.out).mono ?_; rintro e w2 ⟨v2, rfl, h2, m2⟩; have H2 := Lib.hid h2; have M2 := Lib.hid m2; clear h2 m2))
        go_roundw
        case rel =>
          refine ⟨k + 1, by omega, by go_num, fun j hj h7 => ?_, by rw [HS.out]; exact H2.out, HM.out.trans M2.out⟩
          by_cases e : j = k
          · subst e; rw [HX.out]; exact hI
          · exact HIN.out j (by omega) h7
        case measure => simp [intOf]; omega
    · obtain rfl : k = 7 := by omega
      have HO := Lib.hid (okSuper_of (l := [x0, x1, x2, x3, x4, x5, x6]) fun k hk => HIN.out k (by simpa using hk) hk)
      have hl : (superBytes ([x0, x1, x2, x3, x4, x5, x6].take 7)).length ≤ 252 := by rw [superBytes_len, List.length_take]; simp
      have HLE := Lib.hid hl
      have HSZ := Lib.hid HUr.out.size
      clear hl
      go_wp2_with (go_at_call 43; refine (rframed_any HV.out HSZ.out HLE.out).mono ?_; rintro e w2 ⟨v2, rfl, h2, m2⟩; have H2 := Lib.hid h2; have M2 := Lib.hid m2; clear h2 m2)
      go_ret2
      have e : putSuper [x0, x1, x2, x3, x4, x5, x6] = some (frame (superBytes ([x0, x1, x2, x3, x4, x5, x6].take 7))) := by unfold putSuper; rw [if_pos HO.out]; rfl
      rw [e]
      exact ⟨PutOut.yes H2.out.ret, HU1.out.step (HM.out.trans M2.out).upd (fun x hx => .inr (by simp [Value.ownBlock] at hx; omega))⟩

set_option maxRecDepth 100000 in
set_option maxHeartbeats 3200000 in
theorem rgetSuper_none {w : World} {a : Option Addr} {l : List Nat} {cap : Nat} (hb : IsBytes w a l) (hl : l.length ≤ 9223372036854775807) (hok : okSuper (superOf l) = false) :
    Calls Tryz.prog 27 #[.slice a l.length cap] w fun e w' => e = .returned (.tuple #[superV ((refSuper l).getD superNone), .bool (refSuper l).isSome]) ∧ Upd [] w w' := by
  have HB0 : Hid (∀ w', Upd [] w w' → IsBytes w' a l) := fun w' u => hb.upd u (by simp)
  have HA := Lib.hid (show ∀ o, Upd [] w (w.alloc o) from fun o => (Upd.refl [] w).alloc o)
  have hso : superOf l = [numi (seg l 4 8), numi (seg l 12 8), numi (seg l 20 8), numi (seg l 28 8), numi (seg l 36 8), numi (seg l 44 8), numi (seg l 52 8)] := rfl
  have hu2 : Upd [] w ((w.alloc (.cells #[.int .i64 0, .int .i64 0, .int .i64 0, .int .i64 0, .int .i64 0, .int .i64 0, .int .i64 0] 34)).alloc (.cells #[.int .i64 (numi (seg l 4 8)), .int .i64 (numi (seg l 12 8)), .int .i64 (numi (seg l 20 8)), .int .i64 (numi (seg l 28 8)), .int .i64 (numi (seg l 36 8)), .int .i64 (numi (seg l 44 8)), .int .i64 (numi (seg l 52 8))] 34)) := ((Upd.refl [] w).alloc _).alloc _
  have hx0 := ((Upd.refl [] _).alloc (.cells #[.int .i64 (numi (seg l 4 8)), .int .i64 (numi (seg l 12 8)), .int .i64 (numi (seg l 20 8)), .int .i64 (numi (seg l 28 8)), .int .i64 (numi (seg l 36 8)), .int .i64 (numi (seg l 44 8)), .int .i64 (numi (seg l 52 8))] 34)).get (heap_alloc_new w (.cells #[.int .i64 0, .int .i64 0, .int .i64 0, .int .i64 0, .int .i64 0, .int .i64 0, .int .i64 0] 34)) (by simp)
  have hx1 := heap_alloc_new (w.alloc (.cells #[.int .i64 0, .int .i64 0, .int .i64 0, .int .i64 0, .int .i64 0, .int .i64 0, .int .i64 0] 34)) (.cells #[.int .i64 (numi (seg l 4 8)), .int .i64 (numi (seg l 12 8)), .int .i64 (numi (seg l 20 8)), .int .i64 (numi (seg l 28 8)), .int .i64 (numi (seg l 36 8)), .int .i64 (numi (seg l 44 8)), .int .i64 (numi (seg l 52 8))] 34)
  rw [show (w.alloc (.cells #[.int .i64 0, .int .i64 0, .int .i64 0, .int .i64 0, .int .i64 0, .int .i64 0, .int .i64 0] 34)).heap.size = w.heap.size + 1 by simp] at hx1
  have HSO := Lib.hid hso
  have HU2 := Lib.hid hu2
  have HX0 := Lib.hid hx0
  have HX1 := Lib.hid hx1
  clear hb hso hu2 hx0 hx1
  have hbd := fun w => (show (Instr.build 34 #[]).run Tryz.prog w = .ok (superV superNone) w from run_build w _ _ _ (by kernel_rfl))
  unfold superV superNone i64s at hbd
  simp only [List.map_cons, List.map_nil] at hbd
  have hp : putSuper [numi (seg l 4 8), numi (seg l 12 8), numi (seg l 20 8), numi (seg l 28 8), numi (seg l 36 8), numi (seg l 44 8), numi (seg l 52 8)] = none := by unfold putSuper; rw [← HSO.out, hok]; rfl
  have hr : refSuper l = none := by unfold refSuper; rw [hok]; rfl
  have HP := Lib.hid hp
  have HR := Lib.hid hr
  clear hp hr hok
  go_enter Tryz.func27, Tryz.ntmps27
  go_wp2_with (go_at_call 51; (with_reducible refine (number_i _ _ (HB0.out _ (HA.out _)) hl (by decide) (by decide) (by decide) (by decide)).mono ?_); rintro e w' ⟨rfl, rfl⟩)
  refine (rputSuper_any _ _ _ _ _ _ _).mono ?_
  rintro e w1 ⟨⟨v, rfl, hv⟩, u1⟩
  rw [HP.out] at hv ⊢
  simp only [Option.isSome_none, Bool.false_eq_true, if_false]
  have HU1 := Lib.hid u1
  have HV := Lib.hid hv
  clear hv u1
  go_wp2_with (refine wpList_store_all rfl 34 (.tmp 2) (.tmp 35) rfl w.heap.size _ rfl rfl _ _ (HU1.out.get HX0.out (by simp)) (by kernel_rfl) rfl (by kernel_rfl) ?_; intro w3 hg3 hu3 _; have G3 := Lib.hid hg3; have U3 := Lib.hid hu3; clear hg3 hu3)
  refine bodyPost_ret (results_block_tmp Tryz.results27 _ _ w.heap.size 7 _ _ _ _ rfl G3.out Tryz.underlying34 rfl (by kernel_rfl) rfl) rfl ⟨by rw [HR.out]; rfl, (HU2.out.trans HU1.out).step U3.out (fun x hx => .inr (by simp at hx; omega))⟩
set_option maxRecDepth 100000 in
set_option maxHeartbeats 3200000 in
theorem rgetSuper_no {w : World} {a : Option Addr} {l : List Nat} {cap : Nat} (hb : IsBytes w a l) (hl : l.length ≤ 9223372036854775807) (hok : okSuper (superOf l) = true) (heq : decide (frame (superBytes (superOf l)) = l) = false) :
    Calls Tryz.prog 27 #[.slice a l.length cap] w fun e w' => e = .returned (.tuple #[superV ((refSuper l).getD superNone), .bool (refSuper l).isSome]) ∧ Upd [] w w' := by
  have HB0 : Hid (∀ w', Upd [] w w' → IsBytes w' a l) := fun w' u => hb.upd u (by simp)
  have HA := Lib.hid (show ∀ o, Upd [] w (w.alloc o) from fun o => (Upd.refl [] w).alloc o)
  have hso : superOf l = [numi (seg l 4 8), numi (seg l 12 8), numi (seg l 20 8), numi (seg l 28 8), numi (seg l 36 8), numi (seg l 44 8), numi (seg l 52 8)] := rfl
  have hu2 : Upd [] w ((w.alloc (.cells #[.int .i64 0, .int .i64 0, .int .i64 0, .int .i64 0, .int .i64 0, .int .i64 0, .int .i64 0] 34)).alloc (.cells #[.int .i64 (numi (seg l 4 8)), .int .i64 (numi (seg l 12 8)), .int .i64 (numi (seg l 20 8)), .int .i64 (numi (seg l 28 8)), .int .i64 (numi (seg l 36 8)), .int .i64 (numi (seg l 44 8)), .int .i64 (numi (seg l 52 8))] 34)) := ((Upd.refl [] w).alloc _).alloc _
  have hx0 := ((Upd.refl [] _).alloc (.cells #[.int .i64 (numi (seg l 4 8)), .int .i64 (numi (seg l 12 8)), .int .i64 (numi (seg l 20 8)), .int .i64 (numi (seg l 28 8)), .int .i64 (numi (seg l 36 8)), .int .i64 (numi (seg l 44 8)), .int .i64 (numi (seg l 52 8))] 34)).get (heap_alloc_new w (.cells #[.int .i64 0, .int .i64 0, .int .i64 0, .int .i64 0, .int .i64 0, .int .i64 0, .int .i64 0] 34)) (by simp)
  have hx1 := heap_alloc_new (w.alloc (.cells #[.int .i64 0, .int .i64 0, .int .i64 0, .int .i64 0, .int .i64 0, .int .i64 0, .int .i64 0] 34)) (.cells #[.int .i64 (numi (seg l 4 8)), .int .i64 (numi (seg l 12 8)), .int .i64 (numi (seg l 20 8)), .int .i64 (numi (seg l 28 8)), .int .i64 (numi (seg l 36 8)), .int .i64 (numi (seg l 44 8)), .int .i64 (numi (seg l 52 8))] 34)
  rw [show (w.alloc (.cells #[.int .i64 0, .int .i64 0, .int .i64 0, .int .i64 0, .int .i64 0, .int .i64 0, .int .i64 0] 34)).heap.size = w.heap.size + 1 by simp] at hx1
  have HSO := Lib.hid hso
  have HU2 := Lib.hid hu2
  have HX0 := Lib.hid hx0
  have HX1 := Lib.hid hx1
  clear hb hso hu2 hx0 hx1
  have hbd := fun w => (show (Instr.build 34 #[]).run Tryz.prog w = .ok (superV superNone) w from run_build w _ _ _ (by kernel_rfl))
  unfold superV superNone i64s at hbd
  simp only [List.map_cons, List.map_nil] at hbd
  have hp : putSuper [numi (seg l 4 8), numi (seg l 12 8), numi (seg l 20 8), numi (seg l 28 8), numi (seg l 36 8), numi (seg l 44 8), numi (seg l 52 8)] = some (frame (superBytes (superOf l))) := by unfold putSuper; rw [← HSO.out, hok]; rfl
  have hfl : (frame (superBytes (superOf l))).length ≤ 9223372036854775807 := by rw [frame_len (by rw [superBytes_len, superOf_len]; decide)]; decide
  have HFL := Lib.hid hfl
  clear hfl
  have hr : refSuper l = none := by unfold refSuper; rw [hok, heq]; rfl
  have HP := Lib.hid hp
  have HR := Lib.hid hr
  have HE := Lib.hid heq
  clear hp hr hok heq
  go_enter Tryz.func27, Tryz.ntmps27
  go_wp2_with (go_at_call 51; (with_reducible refine (number_i _ _ (HB0.out _ (HA.out _)) hl (by decide) (by decide) (by decide) (by decide)).mono ?_); rintro e w' ⟨rfl, rfl⟩)
  refine (rputSuper_any _ _ _ _ _ _ _).mono ?_
  rintro e w1 ⟨⟨v, rfl, hv⟩, u1⟩
  rw [HP.out] at hv ⊢
  simp only [Option.isSome_some, if_true]
  rw [Option.getD_some] at hv
  obtain ⟨av, cv, rfl, hvb, _, _, _⟩ := hv.slice
  have HU1 := Lib.hid u1
  have HV := Lib.hid hvb
  have HS := Lib.hid (same_any (cap := cv) (cap' := cap) hvb (HB0.out _ (HU2.out.trans u1)) HFL.out hl)
  rw [HE.out] at HS
  clear hv u1 hvb
  go_wp2_with (first
    | (go_at_call 52; refine HS.out.mono ?_; rintro e w2 ⟨rfl, u2⟩; have U2 := Lib.hid u2; clear u2)
    | (refine wpList_store_all rfl 34 (.tmp 2) (.tmp 35) rfl w.heap.size _ rfl rfl _ _ ((HU1.out.trans U2.out).get HX0.out (by simp)) (by kernel_rfl) rfl (by kernel_rfl) ?_; intro w3 hg3 hu3 _; have G3 := Lib.hid hg3; have U3 := Lib.hid hu3; clear hg3 hu3))
  refine bodyPost_ret (results_block_tmp Tryz.results27 _ _ w.heap.size 7 _ _ _ _ rfl G3.out Tryz.underlying34 rfl (by kernel_rfl) rfl) rfl ⟨by rw [HR.out]; rfl, ((HU2.out.trans HU1.out).trans U2.out).step U3.out (fun x hx => .inr (by simp at hx; omega))⟩
set_option maxRecDepth 100000 in
set_option maxHeartbeats 3200000 in
theorem rgetSuper_yes {w : World} {a : Option Addr} {l : List Nat} {cap : Nat} (hb : IsBytes w a l) (hl : l.length ≤ 9223372036854775807) (hok : okSuper (superOf l) = true) (heq : decide (frame (superBytes (superOf l)) = l) = true) :
    Calls Tryz.prog 27 #[.slice a l.length cap] w fun e w' => e = .returned (.tuple #[superV ((refSuper l).getD superNone), .bool (refSuper l).isSome]) ∧ Upd [] w w' := by
  have HB0 : Hid (∀ w', Upd [] w w' → IsBytes w' a l) := fun w' u => hb.upd u (by simp)
  have HA := Lib.hid (show ∀ o, Upd [] w (w.alloc o) from fun o => (Upd.refl [] w).alloc o)
  have hso : superOf l = [numi (seg l 4 8), numi (seg l 12 8), numi (seg l 20 8), numi (seg l 28 8), numi (seg l 36 8), numi (seg l 44 8), numi (seg l 52 8)] := rfl
  have hu2 : Upd [] w ((w.alloc (.cells #[.int .i64 0, .int .i64 0, .int .i64 0, .int .i64 0, .int .i64 0, .int .i64 0, .int .i64 0] 34)).alloc (.cells #[.int .i64 (numi (seg l 4 8)), .int .i64 (numi (seg l 12 8)), .int .i64 (numi (seg l 20 8)), .int .i64 (numi (seg l 28 8)), .int .i64 (numi (seg l 36 8)), .int .i64 (numi (seg l 44 8)), .int .i64 (numi (seg l 52 8))] 34)) := ((Upd.refl [] w).alloc _).alloc _
  have hx0 := ((Upd.refl [] _).alloc (.cells #[.int .i64 (numi (seg l 4 8)), .int .i64 (numi (seg l 12 8)), .int .i64 (numi (seg l 20 8)), .int .i64 (numi (seg l 28 8)), .int .i64 (numi (seg l 36 8)), .int .i64 (numi (seg l 44 8)), .int .i64 (numi (seg l 52 8))] 34)).get (heap_alloc_new w (.cells #[.int .i64 0, .int .i64 0, .int .i64 0, .int .i64 0, .int .i64 0, .int .i64 0, .int .i64 0] 34)) (by simp)
  have hx1 := heap_alloc_new (w.alloc (.cells #[.int .i64 0, .int .i64 0, .int .i64 0, .int .i64 0, .int .i64 0, .int .i64 0, .int .i64 0] 34)) (.cells #[.int .i64 (numi (seg l 4 8)), .int .i64 (numi (seg l 12 8)), .int .i64 (numi (seg l 20 8)), .int .i64 (numi (seg l 28 8)), .int .i64 (numi (seg l 36 8)), .int .i64 (numi (seg l 44 8)), .int .i64 (numi (seg l 52 8))] 34)
  rw [show (w.alloc (.cells #[.int .i64 0, .int .i64 0, .int .i64 0, .int .i64 0, .int .i64 0, .int .i64 0, .int .i64 0] 34)).heap.size = w.heap.size + 1 by simp] at hx1
  have HSO := Lib.hid hso
  have HU2 := Lib.hid hu2
  have HX0 := Lib.hid hx0
  have HX1 := Lib.hid hx1
  clear hb hso hu2 hx0 hx1
  have hbd := fun w => (show (Instr.build 34 #[]).run Tryz.prog w = .ok (superV superNone) w from run_build w _ _ _ (by kernel_rfl))
  unfold superV superNone i64s at hbd
  simp only [List.map_cons, List.map_nil] at hbd
  have hp : putSuper [numi (seg l 4 8), numi (seg l 12 8), numi (seg l 20 8), numi (seg l 28 8), numi (seg l 36 8), numi (seg l 44 8), numi (seg l 52 8)] = some (frame (superBytes (superOf l))) := by unfold putSuper; rw [← HSO.out, hok]; rfl
  have hfl : (frame (superBytes (superOf l))).length ≤ 9223372036854775807 := by rw [frame_len (by rw [superBytes_len, superOf_len]; decide)]; decide
  have HFL := Lib.hid hfl
  clear hfl
  have hr : refSuper l = some (superOf l) := by unfold refSuper; rw [hok, heq]; rfl
  have HP := Lib.hid hp
  have HR := Lib.hid hr
  have HE := Lib.hid heq
  clear hp hr hok heq
  go_enter Tryz.func27, Tryz.ntmps27
  go_wp2_with (go_at_call 51; (with_reducible refine (number_i _ _ (HB0.out _ (HA.out _)) hl (by decide) (by decide) (by decide) (by decide)).mono ?_); rintro e w' ⟨rfl, rfl⟩)
  refine (rputSuper_any _ _ _ _ _ _ _).mono ?_
  rintro e w1 ⟨⟨v, rfl, hv⟩, u1⟩
  rw [HP.out] at hv ⊢
  simp only [Option.isSome_some, if_true]
  rw [Option.getD_some] at hv
  obtain ⟨av, cv, rfl, hvb, _, _, _⟩ := hv.slice
  have HU1 := Lib.hid u1
  have HV := Lib.hid hvb
  have HS := Lib.hid (same_any (cap := cv) (cap' := cap) hvb (HB0.out _ (HU2.out.trans u1)) HFL.out hl)
  rw [HE.out] at HS
  clear hv u1 hvb
  go_wp2_with (first
    | (go_at_call 52; refine HS.out.mono ?_; rintro e w2 ⟨rfl, u2⟩; have U2 := Lib.hid u2; clear u2)
    | (refine wpList_load_all rfl 34 (.tmp 4) rfl (w.heap.size + 1) 7 rfl _ _ _ _ ((HU1.out.trans U2.out).get HX1.out (by simp)) Tryz.underlying34 rfl (by kernel_rfl) rfl ?_)
    | (refine wpList_store_all rfl 34 (.tmp 2) (.tmp 36) rfl w.heap.size _ rfl rfl _ _ ((HU1.out.trans U2.out).get HX0.out (by simp)) infoSuper (by simp only [List.size_toArray, List.length_cons, List.length_nil]) (i64s_one [numi (seg l 4 8), numi (seg l 12 8), numi (seg l 20 8), numi (seg l 28 8), numi (seg l 36 8), numi (seg l 44 8), numi (seg l 52 8)]) ?_; intro w3 hg3 hu3 _; have G3 := Lib.hid hg3; have U3 := Lib.hid hu3; clear hg3 hu3))
  refine bodyPost_ret (results_block_tmp Tryz.results27 _ _ w.heap.size 7 _ _ _ _ rfl G3.out Tryz.underlying34 rfl (by kernel_rfl) rfl) rfl ⟨by rw [HR.out, HSO.out, Option.getD_some, Option.isSome_some]; unfold superV i64s; simp only [List.map_cons, List.map_nil]; try rfl, ((HU2.out.trans HU1.out).trans U2.out).step U3.out (fun x hx => .inr (by simp at hx; omega))⟩
theorem rgetSuper_any {w : World} {a : Option Addr} {l : List Nat} {cap : Nat} (hb : IsBytes w a l) (hl : l.length ≤ 9223372036854775807) :
    Calls Tryz.prog 27 #[.slice a l.length cap] w fun e w' => e = .returned (.tuple #[superV ((refSuper l).getD superNone), .bool (refSuper l).isSome]) ∧ Upd [] w w' := by
  cases hok : okSuper (superOf l)
  · exact rgetSuper_none hb hl hok
  · cases heq : decide (frame (superBytes (superOf l)) = l)
    · exact rgetSuper_no hb hl hok heq
    · exact rgetSuper_yes hb hl hok heq
end Go.Proofs.YtpnpjffhkaejgaaGreatDoor
