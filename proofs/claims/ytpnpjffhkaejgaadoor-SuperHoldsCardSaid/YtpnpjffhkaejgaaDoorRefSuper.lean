/-
  PROVED HERE: the document's PutSuper and GetSuper (package polderref02). Conditions: the bytes can be read.
-/
import Derived.Test.YtpnpjffhkaejgaaDoorGetSuper
import Derived.Lib.SlBytesConst
namespace Go.Proofs.YtpnpjffhkaejgaaDoor
open Go.RowKit

theorem infoSuper : (Tryd.prog.info? 23).map (·.size) = some 7 := by kernel_rfl
theorem isOut_lit {w : World} {B g : Nat} {l : List Nat} {ty : TypeId} {fr : Nat × Nat} (h : w.heap[g]? = some (.cells (u8s l).toArray ty fr)) (ok : BytesOk l) (hB : B ≤ g) (hl : l.length ≤ 1000000) : IsOut w B (.slice (some ⟨g, 0, none⟩) l.length l.length) l :=
  ⟨.inr ⟨g, _, _, _, rfl, hB, h, fun i hi => by rw [List.getElem?_toArray, u8s_get, List.getElem?_eq_getElem hi]; rfl, hl⟩, ok⟩
/-- The numbers of a superblock lie in a block of their own. -/
def Nums (w : World) (l : List Int) (e : Ending) (w' : World) : Prop := ∃ b, e = .returned (.slice (some ⟨b, 0, none⟩) l.length l.length) ∧ w.heap.size ≤ b ∧ w'.heap[b]? = some (.cells (i64s l).toArray 3 (0, 0)) ∧ Upd [] w w'
set_option maxRecDepth 100000 in
set_option maxHeartbeats 1600000 in
theorem numbers_any (w : World) (x0 x1 x2 x3 x4 x5 x6 : Int) :
    Calls Tryd.prog 28 #[.agg #[.int .i64 x0, .int .i64 x1, .int .i64 x2, .int .i64 x3, .int .i64 x4, .int .i64 x5, .int .i64 x6]] w (Nums w [x0, x1, x2, x3, x4, x5, x6]) := by
  go_enter Tryd.func28, Tryd.ntmps28
  go_wp2
  go_ret
  exact ⟨w.heap.size + 1, rfl, by omega, by have := heap_alloc_new (w.alloc (.cells #[.int .i64 x0, .int .i64 x1, .int .i64 x2, .int .i64 x3, .int .i64 x4, .int .i64 x5, .int .i64 x6] 23)) (.cells (i64s [x0, x1, x2, x3, x4, x5, x6]).toArray 3); rw [show (w.alloc (.cells #[.int .i64 x0, .int .i64 x1, .int .i64 x2, .int .i64 x3, .int .i64 x4, .int .i64 x5, .int .i64 x6] 23)).heap.size = w.heap.size + 1 by simp] at this; exact this, ((Upd.refl [] w).alloc _).alloc _⟩
set_option maxRecDepth 100000 in
set_option maxHeartbeats 1600000 in
theorem rputSuper_any {w : World} (x0 x1 x2 x3 x4 x5 x6 : Int) :
    Calls Tryd.prog 17 #[.agg #[.int .i64 x0, .int .i64 x1, .int .i64 x2, .int .i64 x3, .int .i64 x4, .int .i64 x5, .int .i64 x6]] w fun e w' => PutOut w.heap.size (putSuper [x0, x1, x2, x3, x4, x5, x6]) e w' ∧ Upd [] w w' := by
  have hu := ((Upd.refl [] w).alloc (.cells #[.int .i64 x0, .int .i64 x1, .int .i64 x2, .int .i64 x3, .int .i64 x4, .int .i64 x5, .int .i64 x6] 23)).alloc (.cells #[.int .u8 80, .int .u8 83, .int .u8 85, .int .u8 80] 5 (4, 5))
  have hb := heap_alloc_new (w.alloc (.cells #[.int .i64 x0, .int .i64 x1, .int .i64 x2, .int .i64 x3, .int .i64 x4, .int .i64 x5, .int .i64 x6] 23)) (.cells #[.int .u8 80, .int .u8 83, .int .u8 85, .int .u8 80] 5 (4, 5))
  have h0 : IsOut ((w.alloc (.cells #[.int .i64 x0, .int .i64 x1, .int .i64 x2, .int .i64 x3, .int .i64 x4, .int .i64 x5, .int .i64 x6] 23)).alloc (.cells #[.int .u8 80, .int .u8 83, .int .u8 85, .int .u8 80] 5 (4, 5))) w.heap.size (.slice (some ⟨w.heap.size + 1, 0, none⟩) 4 4) (superBytes []) := by
    rw [show (w.alloc (.cells #[.int .i64 x0, .int .i64 x1, .int .i64 x2, .int .i64 x3, .int .i64 x4, .int .i64 x5, .int .i64 x6] 23)).heap.size = w.heap.size + 1 by simp] at hb
    exact isOut_lit (l := [80, 83, 85, 80]) hb (fun x hx => by simp at hx; omega) (by omega) (by decide)
  have H0 := Lib.hid h0
  have HU := Lib.hid hu
  clear hu hb h0
  have hcv := fun (n c : Nat) => Lib.run_convert_bytes_const (P := Tryd.prog) (w.alloc (.cells #[.int .i64 x0, .int .i64 x1, .int .i64 x2, .int .i64 x3, .int .i64 x4, .int .i64 x5, .int .i64 x6] 23)) 39 5 #[.int .u8 80, .int .u8 83, .int .u8 85, .int .u8 80] n c Tryd.underlying39 Tryd.underlying5
  rw [show (w.alloc (.cells #[.int .i64 x0, .int .i64 x1, .int .i64 x2, .int .i64 x3, .int .i64 x4, .int .i64 x5, .int .i64 x6] 23)).heap.size = w.heap.size + 1 by simp] at hcv
  go_enter Tryd.func17, Tryd.ntmps17
  go_wp2_with fail
  refine (numbers_any _ _ _ _ _ _ _ _).mono ?_
  rintro e w1 ⟨g, rfl, hg, hgb, hu1⟩
  have HG := Lib.hid hgb
  have hgl := lt_of_block hgb
  have H1 := Lib.hid (H0.out.upd hu1 (by simp))
  have HU1 := Lib.hid (HU.out.trans hu1)
  simp at hg
  clear hgb hu1
  go_wp2
  go_loopw [4, 6] (fun v i wr => ∃ k : Nat, k ≤ 7 ∧ i = .int .i64 k ∧ (∀ j (hj : j < k) (h7 : j < [x0, x1, x2, x3, x4, x5, x6].length), inB [x0, x1, x2, x3, x4, x5, x6][j] 1099511627776 = true) ∧ IsOut wr w.heap.size v (superBytes ([x0, x1, x2, x3, x4, x5, x6].take k)) ∧ Mine (.slice (some ⟨w.heap.size + 1, 0, none⟩) 4 4) w1 v wr) (fun _ i _ => 7 - (intOf i).toNat)
  case atStart => exact ⟨0, by decide, rfl, fun j hj => absurd hj (by omega), H1.out, Mine.refl _ _⟩
  case round =>
    obtain ⟨k, hk, rfl, hin, hV, hM⟩ := hrel
    have HIN := Lib.hid hin
    have HV := Lib.hid hV
    have HM := Lib.hid hM
    clear hin hV hM
    have HGr : Hid (wr.heap[g]? = some (.cells (i64s [x0, x1, x2, x3, x4, x5, x6]).toArray 3 (0, 0))) := HM.out.upd.get HG.out (by simp [Value.ownBlock]; omega)
    have HUr : Hid (Upd [] w wr) := HU1.out.step HM.out.upd (fun x hx => .inr (by simp [Value.ownBlock] at hx; omega))
    by_cases hlt7 : k < 7
    · have hk7 : k < [x0, x1, x2, x3, x4, x5, x6].length := hlt7
      have hcell := (cells_of HGr.out).1 k
      rw [List.getElem?_toArray, show (i64s [x0, x1, x2, x3, x4, x5, x6])[k]? = some (.int .i64 [x0, x1, x2, x3, x4, x5, x6][k]) by unfold i64s; rw [List.getElem?_map, List.getElem?_eq_getElem hk7]; rfl] at hcell
      have HS := Lib.hid (superBytes_take [x0, x1, x2, x3, x4, x5, x6] k hk7)
      have HL := Lib.hid (superBytes_len ([x0, x1, x2, x3, x4, x5, x6].take k))
      have HN := Lib.hid (fun h => putSuper_no (l := [x0, x1, x2, x3, x4, x5, x6]) hk7 h)
      generalize hx : [x0, x1, x2, x3, x4, x5, x6][k] = x at hcell HS HN
      have HX := Lib.hid hx
      clear hx
      cases hI : inB x 1099511627776
      · go_wp2_with (go_at_call 29; refine (rin_b _ _ _).mono ?_; rintro e w' ⟨rfl, rfl⟩)
        go_ret2
        rw [HN.out hI]
        exact ⟨PutOut.no _ _, HUr.out⟩
      · obtain ⟨m, rfl⟩ := Int.eq_ofNat_of_zero_le (inB_true.1 hI).1
        have hlen : (superBytes ([x0, x1, x2, x3, x4, x5, x6].take k)).length + 8 ≤ 100000000000000 := by rw [HL.out, List.length_take]; simp; omega
        have HLEN := Lib.hid hlen
        have HSZ := Lib.hid HUr.out.size
        clear hlen
        go_wp2_with (first | (go_at_call 29; refine (rin_b _ _ _).mono ?_; rintro e w' ⟨rfl, rfl⟩) | (go_at_call 30; refine (rput_any (k := 8) HV.out HSZ.out (by decide) HLEN.out).mono ?_; rintro e w2 ⟨v2, rfl, h2, m2⟩; have H2 := Lib.hid h2; have M2 := Lib.hid m2; clear h2 m2))
        go_roundw
        case rel =>
          refine ⟨k + 1, by omega, by go_num, fun j hj h7 => ?_, by rw [HS.out]; exact H2.out, HM.out.trans M2.out⟩
          by_cases e : j = k
          · subst e; rw [HX.out]; exact hI
          · exact HIN.out j (by omega) h7
        case measure => simp [intOf]; omega
    · obtain rfl : k = 7 := by omega
      have HO := Lib.hid (okSuper_of (l := [x0, x1, x2, x3, x4, x5, x6]) fun k hk => HIN.out k (by simpa using hk) hk)
      have hl : (superBytes ([x0, x1, x2, x3, x4, x5, x6].take 7)).length ≤ 252 := by rw [superBytes_len, List.length_take]; simp
      have HLE := Lib.hid hl
      have HSZ := Lib.hid HUr.out.size
      clear hl
      go_wp2_with (go_at_call 31; refine (rframed_any HV.out HSZ.out HLE.out).mono ?_; rintro e w2 ⟨v2, rfl, h2, m2⟩; have H2 := Lib.hid h2; have M2 := Lib.hid m2; clear h2 m2)
      go_ret2
      have e : putSuper [x0, x1, x2, x3, x4, x5, x6] = some (frame (superBytes ([x0, x1, x2, x3, x4, x5, x6].take 7))) := by unfold putSuper; rw [if_pos HO.out]; rfl
      rw [e]
      exact ⟨PutOut.yes H2.out.ret, HU1.out.step (HM.out.trans M2.out).upd (fun x hx => .inr (by simp [Value.ownBlock] at hx; omega))⟩

end Go.Proofs.YtpnpjffhkaejgaaDoor
