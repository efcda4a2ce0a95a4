/-
  PROVED HERE: the walk of the statement CodecReads returns true. Conditions: the bytes can be read.
-/
import Derived.Test.YtkahpkmofeglgaaDoorReadCat
import Derived.Test.YtkahpkmofeglgaaDoorReadImage
import Derived.Test.YtkahpkmofeglgaaDoorLawPage
import Derived.Test.YtkahpkmofeglgaaDoorLawNode
import Derived.Test.YtkahpkmofeglgaaDoorOpenAgg
namespace Go.Proofs.YtkahpkmofeglgaaDoor
open Go.RowKit

theorem sound_e {w : World} {t : Nat} {a : Option Addr} {l : List Nat} {cap : Nat} {s : ByteArray} (ht : TabOk w t) (_hb : IsBytes w a l) (hsep : ¬ l.length = 256) (hc : l.length ≤ cap) (hm : cap ≤ 9223372036854775807) (_hs : soundL l (strBytes s) = false) :
    Calls Tryd.prog 59 #[pt t, .slice a l.length cap, .string s] w fun e w' => e = .returned (.tuple #[.agg #[.slice none 0 0], .bool false]) ∧ TabOk w' t ∧ Upd [t] w w' :=
  (sound_len (.inr (by omega)) (by omega)).mono fun _ _ ⟨h1, h2⟩ => ⟨h1, ht.upd h2 (by simp), h2.mono (by simp)⟩
set_option maxRecDepth 100000 in
set_option maxHeartbeats 1600000 in
theorem getSuper_no_e {w : World} {t : Nat} {a : Option Addr} {l : List Nat} {cap : Nat} (ht : TabOk w t) (hb : IsBytes w a l) (hsep : ¬ l.length = 256) (hc : l.length ≤ cap) (hm : cap ≤ 9223372036854775807) (hs : soundL l [80, 83, 85, 80] = false) :
    Calls Tryd.prog 19 #[pt t, .slice a l.length cap] w fun e w' => e = .returned (.tuple #[superV superNone, .bool false]) ∧ TabOk w' t ∧ Upd [t] w w' := by
  have HA := Lib.hid (fun o => ht.upd ((Upd.refl [] w).alloc o) (by simp))
  have HB := Lib.hid (fun o => hb.upd ((Upd.refl [] w).alloc o) (by simp))
  have HS := Lib.hid hsep
  have HSN := Lib.hid (show soundL l (strBytes ⟨#[80, 83, 85, 80]⟩) = false from hs)
  have hlt := Lib.hid ht.lt
  clear ht hb hsep hs
  go_enter Tryd.func19, Tryd.ntmps19
  go_wp2_with fail
  refine (sound_e (HA.out _) (HB.out _) HS.out hc hm HSN.out).mono ?_
  rintro e w1 ⟨rfl, h1, u1⟩
  have hx := u1.get (heap_alloc_new w _) (by have := hlt.out; simp; omega)
  have HX := Lib.hid hx
  obtain ⟨k1, k2⟩ := cells_of hx
  have H1 := Lib.hid h1
  have U1 := Lib.hid (((Upd.refl [t] w).alloc _).trans u1)
  clear hx h1 u1 k1 k2
  have hbd := fun w => (show (Instr.build 23 #[]).run Tryd.prog w = .ok (superV superNone) w from run_build w _ _ _ (by kernel_rfl))
  unfold superV superNone i64s at hbd
  simp only [List.map_cons, List.map_nil] at hbd
  go_wp2_with (first
    | (refine wpList_store_all rfl 23 (.tmp 4) (.tmp 19) rfl w.heap.size _ rfl rfl _ _ (((Upd.refl [] _).alloc _).get HX.out (by simp)) (by kernel_rfl) rfl (by kernel_rfl) ?_; intro w2 hg2 hu2 _; have G2 := Lib.hid hg2; have U2 := Lib.hid hu2; clear hg2 hu2))
  refine bodyPost_ret (results_block_tmp Tryd.results19 _ _ w.heap.size 7 _ _ _ _ rfl G2.out Tryd.underlying23 rfl (by kernel_rfl) rfl) rfl ⟨rfl, (H1.out.upd ((Upd.refl [] _).alloc _) (by simp)).upd U2.out (by have := hlt.out; simp; omega), (U1.out.alloc _).step U2.out (fun x hx => .inr (by simp at hx; omega))⟩

set_option maxRecDepth 100000 in
set_option maxHeartbeats 1600000 in
theorem getHead_no_e {w : World} {t : Nat} {a : Option Addr} {l : List Nat} {cap : Nat} (ht : TabOk w t) (hb : IsBytes w a l) (hsep : ¬ l.length = 256) (hc : l.length ≤ cap) (hm : cap ≤ 9223372036854775807) (hs : soundL l [80, 76, 79, 71] = false) :
    Calls Tryd.prog 33 #[pt t, .slice a l.length cap] w fun e w' => HeadRes w.heap.size none e w' ∧ TabOk w' t ∧ Upd [t] w w' := by
  have HA := Lib.hid (fun o => ht.upd ((Upd.refl [] w).alloc o) (by simp))
  have HB := Lib.hid (fun o => hb.upd ((Upd.refl [] w).alloc o) (by simp))
  have HS := Lib.hid hsep
  have HSN := Lib.hid (show soundL l (strBytes ⟨#[80, 76, 79, 71]⟩) = false from hs)
  have hlt := Lib.hid ht.lt
  have hbd := buildHd0
  clear ht hb hsep hs
  go_enter Tryd.func33, Tryd.ntmps33
  go_wp2_with fail
  refine (sound_e (HA.out _) (HB.out _) HS.out hc hm HSN.out).mono ?_
  rintro e w1 ⟨rfl, h1, u1⟩
  have hx := u1.get (heap_alloc_new w _) (by have := hlt.out; simp; omega)
  have HX := Lib.hid hx
  have H1 := Lib.hid h1
  have U1 := Lib.hid (((Upd.refl [t] w).alloc _).trans u1)
  clear hx h1 u1
  go_wp2_with (refine wpList_store_all rfl 59 (.tmp 4) (.tmp 19) rfl w.heap.size _ rfl rfl _ _ (((Upd.refl [] _).alloc _).get HX.out (by simp)) infoHead rfl (by kernel_rfl) ?_; intro w2 hg2 hu2 _; have G2 := Lib.hid hg2; have U2 := Lib.hid hu2; clear hg2 hu2)
  refine bodyPost_ret (results_block_tmp Tryd.results33 _ _ w.heap.size 4 _ _ _ _ rfl G2.out Tryd.underlying59 rfl infoHead rfl) rfl ⟨HeadRes.no _ _, (H1.out.upd ((Upd.refl [] _).alloc _) (by simp)).upd U2.out (by have := hlt.out; simp; omega), (U1.out.alloc _).step U2.out (fun x hx => .inr (by simp at hx; omega))⟩
set_option maxRecDepth 100000 in
set_option maxHeartbeats 1600000 in
theorem getPage_unsound_own_e {w : World} {t : Nat} {a : Option Addr} {l : List Nat} {cap : Nat} (m : Int) (ht : TabOk w t) (hb : IsBytes w a l) (hsep : ¬ l.length = 256) (hc : l.length ≤ cap) (hm : cap ≤ 9223372036854775807) (hz : decide (l = zero256) = false) (hs : soundL l [80, 80, 65, 71] = false) :
    Calls Tryd.prog 30 #[pt t, .slice a l.length cap, .int .i64 m] w fun e w' => PageOwn w.heap.size none e w' ∧ TabOk w' t ∧ Upd [t] w w' := by
  have hu := ((Upd.refl [] w).alloc (.cells #[.int .i64 0, .slice none 0 0] 37)).alloc (.cells (u8s zero256).toArray 5)
  have HX := Lib.hid (((Upd.refl [] _).alloc (.cells (u8s zero256).toArray 5)).get (heap_alloc_new w (.cells #[.int .i64 0, .slice none 0 0] 37)) (by simp))
  have heq := equal_any (cap := cap) (cap' := 256) (hb.upd hu (by simp)) (isZero (w := w.alloc (.cells #[.int .i64 0, .slice none 0 0] 37)) [])
  rw [hz, zeroLen, show (w.alloc (.cells #[.int .i64 0, .slice none 0 0] 37)).heap.size = w.heap.size + 1 by simp] at heq
  have HEQ := Lib.hid heq
  have HSD := Lib.hid (sound_e (s := ⟨#[80, 80, 65, 71]⟩) (ht.upd hu (by simp)) (hb.upd hu (by simp)) hsep hc hm hs)
  have HU := Lib.hid (hu.mono (T := [t]) (by simp))
  have hlt := Lib.hid ht.lt
  have hmk := make256
  have hbd := buildPg0
  clear hb hz hu heq ht hsep hs
  go_enter Tryd.func30, Tryd.ntmps30
  go_wp2_with (first
    | (go_at_call 66; (with_reducible refine HEQ.out.mono ?_); rintro e w1 ⟨rfl, rfl⟩)
    | (go_at_call 59; refine HSD.out.mono ?_; rintro e w1 ⟨rfl, t1, u1⟩; have T1 := Lib.hid t1; have U1 := Lib.hid u1; clear t1 u1)
    | (refine wpList_store_all rfl 37 (.tmp 6) (.tmp 27) rfl w.heap.size _ rfl rfl _ _ (((Upd.refl [] _).alloc _).get (U1.out.get HX.out (by have := hlt.out; simp; omega)) (by simp)) infoPage rfl (by kernel_rfl) ?_; intro w2 hg2 hu2 _; have G2 := Lib.hid hg2; have U2 := Lib.hid hu2; clear hg2 hu2))
  refine bodyPost_ret (results_block_tmp Tryd.results30 _ _ w.heap.size 2 _ _ _ _ rfl G2.out Tryd.underlying37 rfl infoPage rfl) rfl ⟨PageOwn.no _ _, (T1.out.upd ((Upd.refl [] _).alloc _) (by simp)).upd U2.out (by have := hlt.out; simp; omega), ((HU.out.trans U1.out).alloc _).step U2.out (fun x hx => .inr (by simp at hx; omega))⟩
theorem soundL_len {l m : List Nat} (h : ¬ l.length = 256) : soundL l m = false := by
  unfold soundL; exact decide_eq_false fun e => h e.1
def SuperO (s : List Int) (b : Bool) (e : Ending) : Prop := e = .returned (.tuple #[superV s, .bool b])
theorem getSuper_o {w : World} {t : Nat} {a : Option Addr} {l : List Nat} {cap : Nat} (ht : TabOk w t) (hb : IsBytes w a l) (hsep : 0 < l.length → ∀ b o, a = some ⟨b, o, none⟩ → b ≠ t) (hc : l.length ≤ cap) (hm : cap ≤ 9223372036854775807) :
    Calls Tryd.prog 19 #[pt t, .slice a l.length cap] w fun e w' => SuperO ((getSuper l).getD superNone) (getSuper l).isSome e ∧ TabOk w' t ∧ Upd [t] w w' := by
  by_cases h : l.length = 256
  · exact getSuper_any ht hb (hsep (by omega)) hc hm
  · rw [show getSuper l = none by unfold getSuper; rw [soundL_len h]; rfl]
    exact getSuper_no_e ht hb h hc hm (soundL_len h)
theorem rgetSuper_o {w : World} {a : Option Addr} {l : List Nat} {cap : Nat} (hb : IsBytes w a l) (hl : l.length ≤ 9223372036854775807) :
    Calls Tryd.prog 44 #[.slice a l.length cap] w fun e w' => SuperO ((getSuper l).getD superNone) (getSuper l).isSome e ∧ Upd [] w w' := by
  rw [getSuper_ref hb.1]; exact rgetSuper_any hb hl
def HeadO (t : Nat) (h : Hd) (b : Bool) (e : Ending) (w' : World) : Prop := ∃ a c, e = .returned (.tuple #[.agg #[.int .i64 h.epoch, .int .i64 h.seq, .slice a h.pages.length c, .int .u32 (h.sum : Int)], .bool b]) ∧ (∀ W, Upd [t] w' W → IsInts W a h.pages) ∧ h.pages.length ≤ 9223372036854775807
theorem IntsOut.keep {t B : Nat} {w' : World} {v : Value} {l : List Int} (hv : IntsOut w' B v l) (hB : t < B) : ∃ a c, v = .slice a l.length c ∧ (∀ W, Upd [t] w' W → IsInts W a l) ∧ l.length ≤ 9223372036854775807 := by
  obtain ⟨a, c, rfl, _, _, h1, h2⟩ := hv.slice
  refine ⟨a, c, rfl, fun W u => ?_, by omega⟩
  obtain ⟨a', c', e, hb, _⟩ := (hv.upd u (fun x hx hm => by have := (hv.low x hx).1; simp at hm; omega)).slice
  cases e; exact hb
theorem IsRet.keep {t B : Nat} {w' : World} {v : Value} {l : List Nat} (hv : IsRet w' B v l) (hB : t < B) : ∃ a c, v = .slice a l.length c ∧ (∀ W, Upd [t] w' W → IsBytes W a l) ∧ l.length ≤ 9223372036854775807 := by
  obtain ⟨a, c, rfl, _, _, h1, h2⟩ := hv.slice
  refine ⟨a, c, rfl, fun W u => ?_, by omega⟩
  obtain ⟨a', c', e, hb, _⟩ := (hv.upd u (by simpa using hB)).slice
  cases e; exact hb
theorem VolsOut.keep {t B : Nat} {w' : World} {v : Value} {l : List Vol} (hv : VolsOut w' B v l) (hB : t < B) : ∃ a c, v = .slice a l.length c ∧ (∀ W, Upd [t] w' W → IsVols W a l) ∧ l.length ≤ 9223372036854775807 := by
  obtain ⟨a, c, rfl, _⟩ := hv.slice
  refine ⟨a, c, rfl, fun W u => ?_, ?_⟩
  · obtain ⟨a', c', e, hb⟩ := (hv.upd u (fun x hx hm => by have := (hv.low x hx).1; simp at hm; omega)).slice
    cases e; exact hb
  · obtain ⟨hl, ⟨_, h0⟩ | ⟨g, cap, cur, _, hg, hb, hc, hm, hs, ht⟩⟩ := hv
    · omega
    · unfold maxLen at hm; omega
theorem HeadRes.o {t B : Nat} {o : Option Hd} {e : Ending} {w' : World} (h : HeadRes B o e w') (hB : t < B) : HeadO t (o.getD hd0) o.isSome e w' := by
  obtain ⟨v, rfl, hv⟩ := h
  obtain ⟨a, c, rfl, hb, h1⟩ := hv.keep hB
  exact ⟨a, c, rfl, hb, h1⟩
theorem getHead_o {w : World} {t : Nat} {a : Option Addr} {l : List Nat} {cap : Nat} (ht : TabOk w t) (hb : IsBytes w a l) (hsep : 0 < l.length → ∀ b o, a = some ⟨b, o, none⟩ → b ≠ t) (hc : l.length ≤ cap) (hm : cap ≤ 9223372036854775807) :
    Calls Tryd.prog 33 #[pt t, .slice a l.length cap] w fun e w' => HeadO t ((getHead l).getD hd0) (getHead l).isSome e w' ∧ TabOk w' t ∧ Upd [t] w w' := by
  by_cases h : l.length = 256
  · exact (getHead_any ht hb (hsep (by omega)) hc hm).mono fun _ _ ⟨h1, h2⟩ => ⟨h1.o ht.lt, h2⟩
  · rw [show getHead l = none by unfold getHead; rw [soundL_len h]; rfl]
    exact (getHead_no_e ht hb h hc hm (soundL_len h)).mono fun _ _ ⟨h1, h2⟩ => ⟨h1.o ht.lt, h2⟩
theorem rgetHead_o {w : World} {t : Nat} (hT : t < w.heap.size) {a : Option Addr} {l : List Nat} {cap : Nat} (hb : IsBytes w a l) (hl : l.length ≤ 9223372036854775807) :
    Calls Tryd.prog 45 #[.slice a l.length cap] w fun e w' => HeadO t ((getHead l).getD hd0) (getHead l).isSome e w' ∧ Upd [] w w' := by
  rw [getHead_ref hb.1]; exact (rgetHead_any hb hl).mono fun _ _ ⟨h1, h2⟩ => ⟨h1.o hT, h2⟩
def PageO (t : Nat) (k : Int) (p : List Nat) (b : Bool) (e : Ending) (w' : World) : Prop := ∃ a c, e = .returned (.tuple #[.agg #[.int .i64 k, .slice a p.length c], .bool b]) ∧ (∀ W, Upd [t] w' W → IsBytes W a p) ∧ p.length ≤ 9223372036854775807
theorem PageRes.o {t B : Nat} {o : Option (Int × List Nat)} {e : Ending} {w' : World} (h : PageRes B o e w') (hB : t < B) : PageO t (o.getD (0, [])).1 (o.getD (0, [])).2 o.isSome e w' := by
  obtain ⟨v, rfl, hv⟩ := h
  obtain ⟨a, c, rfl, hb, h1⟩ := hv.keep hB
  exact ⟨a, c, rfl, hb, h1⟩
theorem getPage_o {w : World} {t : Nat} {a : Option Addr} {l : List Nat} {cap : Nat} (m : Int) (ht : TabOk w t) (hb : IsBytes w a l) (hsep : 0 < l.length → ∀ b o, a = some ⟨b, o, none⟩ → b ≠ t) (hc : l.length ≤ cap) (hm : cap ≤ 9223372036854775807) :
    Calls Tryd.prog 30 #[pt t, .slice a l.length cap, .int .i64 m] w fun e w' => PageO t ((getPage l m).getD (0, [])).1 ((getPage l m).getD (0, [])).2 (getPage l m).isSome e w' ∧ TabOk w' t ∧ Upd [t] w w' := by
  by_cases h : l.length = 256
  · exact (getPage_any m ht hb (hsep (by omega)) hc hm).mono fun _ _ ⟨h1, h2⟩ => ⟨h1.o ht.lt, h2⟩
  · have hz : decide (l = zero256) = false := decide_eq_false fun e => h (by rw [e, zeroLen])
    rw [show getPage l m = none by
      unfold getPage
      rw [hz, soundL_len h, Bool.false_and]
      simp only [Bool.false_eq_true, if_false]]
    exact (getPage_unsound_own_e m ht hb h hc hm hz (soundL_len h)).mono fun _ _ ⟨h1, h2⟩ => ⟨h1.res.o ht.lt, h2⟩
theorem rgetPage_o {w : World} {t : Nat} (hT : t < w.heap.size) {a : Option Addr} {l : List Nat} {cap : Nat} (m : Int) (hb : IsBytes w a l) (hc : l.length ≤ cap) (hm : cap ≤ 9223372036854775807) :
    Calls Tryd.prog 46 #[.slice a l.length cap, .int .i64 m] w fun e w' => PageO t ((getPage l m).getD (0, [])).1 ((getPage l m).getD (0, [])).2 (getPage l m).isSome e w' ∧ Upd [] w w' := by
  rw [getPage_ref hb.1]; exact (rgetPage_any m hb hc hm).mono fun _ _ ⟨h1, h2⟩ => ⟨h1.o hT, h2⟩
def ImageO (t : Nat) (m n : Int) (x : Img) (b : Bool) (e : Ending) (w' : World) : Prop := ∃ a c, e = .returned (.tuple #[.int .i64 m, .int .i64 n, .agg #[.int .i64 x.num, .int .i64 x.kind, .slice a x.body.length c], .bool b]) ∧ (∀ W, Upd [t] w' W → IsBytes W a x.body) ∧ x.body.length ≤ 9223372036854775807
theorem ImgRes.o {t B : Nat} {o : Option (Int × Int × Img)} {e : Ending} {w' : World} (h : ImgRes B o e w') (hB : t < B) : ImageO t (o.getD imgRes0).1 (o.getD imgRes0).2.1 (o.getD imgRes0).2.2 o.isSome e w' := by
  obtain ⟨v, rfl, hv⟩ := h
  obtain ⟨a, c, rfl, hb, h1⟩ := hv.keep hB
  exact ⟨a, c, rfl, hb, h1⟩
theorem getImage_o {w : World} {t : Nat} {a : Option Addr} {l : List Nat} {cap : Nat} (ht : TabOk w t) (hb : IsBytes w a l) (hsep : 0 < l.length → ∀ b o, a = some ⟨b, o, none⟩ → b ≠ t) (hc : l.length ≤ cap) (hm : cap ≤ 9223372036854775807) :
    Calls Tryd.prog 22 #[pt t, .slice a l.length cap] w fun e w' => ImageO t ((getImage l).getD imgRes0).1 ((getImage l).getD imgRes0).2.1 ((getImage l).getD imgRes0).2.2 (getImage l).isSome e w' ∧ TabOk w' t ∧ Upd [t] w w' := by
  by_cases h : l.length = 256
  · exact (getImage_any ht hb (hsep (by omega)) hc hm).mono fun _ _ ⟨h1, h2⟩ => ⟨h1.o ht.lt, h2⟩
  · rw [show getImage l = none by
      unfold getImage
      rw [show sumL l = false by unfold sumL; exact decide_eq_false fun e => h e.1]; rfl]
    exact (getImage_len (t := some ⟨t, 0, none⟩) (.inr (by omega)) (by omega)).mono fun _ _ ⟨h1, h2⟩ => ⟨h1.o ht.lt, ht.upd h2 (by simp), h2.mono (by simp)⟩
theorem rgetImage_o {w : World} {t : Nat} (hT : t < w.heap.size) {a : Option Addr} {l : List Nat} {cap : Nat} (hb : IsBytes w a l) (hc : l.length ≤ cap) (hm : cap ≤ 9223372036854775807) :
    Calls Tryd.prog 47 #[.slice a l.length cap] w fun e w' => ImageO t ((getImage l).getD imgRes0).1 ((getImage l).getD imgRes0).2.1 ((getImage l).getD imgRes0).2.2 (getImage l).isSome e w' ∧ Upd [] w w' := by
  rw [getImage_ref hb.1]; exact (rgetImage_any hb hc hm).mono fun _ _ ⟨h1, h2⟩ => ⟨h1.o hT, h2⟩
def NodeO (t : Nat) (x : Nd) (b : Bool) (e : Ending) (w' : World) : Prop := ∃ a c a' c', e = .returned (.tuple #[.agg #[.bool x.leaf, .slice a x.keys.length c, .slice a' x.vals.length c'], .bool b]) ∧ (∀ W, Upd [t] w' W → IsInts W a x.keys) ∧ (∀ W, Upd [t] w' W → IsInts W a' x.vals) ∧ x.keys.length ≤ 9223372036854775807 ∧ x.vals.length ≤ 9223372036854775807
theorem NodeRes.o {t B : Nat} {o : Option Nd} {e : Ending} {w' : World} (h : NodeRes B o e w') (hB : t < B) : NodeO t (o.getD nd0) o.isSome e w' := by
  obtain ⟨v, u, rfl, hv, hu, _⟩ := h
  obtain ⟨a, c, rfl, hb, h1⟩ := hv.keep hB
  obtain ⟨a', c', rfl, hb', h1'⟩ := hu.keep hB
  exact ⟨a, c, a', c', rfl, hb, hb', h1, h1'⟩
def CountsO (t : Nat) (x : List Int) (b : Bool) (e : Ending) (w' : World) : Prop := ∃ a c, e = .returned (.tuple #[.slice a x.length c, .bool b]) ∧ (∀ W, Upd [t] w' W → IsInts W a x) ∧ x.length ≤ 9223372036854775807
theorem IntsRes.o {t B : Nat} {o : Option (List Int)} {e : Ending} {w' : World} (h : IntsRes B o e w') (hB : t < B) : CountsO t (o.getD []) o.isSome e w' := by
  obtain ⟨v, rfl, hv⟩ := h
  obtain ⟨a, c, rfl, hb, h1⟩ := hv.keep hB
  exact ⟨a, c, rfl, hb, h1⟩
def CatO (t : Nat) (x : Cat) (b : Bool) (e : Ending) (w' : World) : Prop := ∃ a c a' c', e = .returned (.tuple #[.agg #[.int .i64 x.next, .slice a x.vols.length c, .slice a' x.stack.length c'], .bool b]) ∧ (∀ W, Upd [t] w' W → IsVols W a x.vols) ∧ (∀ W, Upd [t] w' W → IsInts W a' x.stack) ∧ x.vols.length ≤ 9223372036854775807 ∧ x.stack.length ≤ 9223372036854775807
theorem CatRes.o {t B : Nat} {o : Option Cat} {e : Ending} {w' : World} (h : CatRes B o e w') (hB : t < B) : CatO t (o.getD cat0) o.isSome e w' := by
  obtain ⟨v, u, rfl, hv, hu⟩ := h
  obtain ⟨a, c, rfl, hb, h1⟩ := hv.keep hB
  obtain ⟨a', c', rfl, hb', h1'⟩ := hu.keep hB
  exact ⟨a, c, a', c', rfl, hb, hb', h1, h1'⟩
theorem getNode_o {w : World} {t : Nat} (hT : t < w.heap.size) {a : Option Addr} {l : List Nat} {cap : Nat} (hb : IsBytes w a l) (hc : l.length ≤ cap) (hm : cap ≤ 9223372036854775807) :
    Calls Tryd.prog 37 #[.slice a l.length cap] w fun e w' => NodeO t ((getNode l).getD nd0) (getNode l).isSome e w' ∧ Upd [] w w' :=
  (getNode_any hb hc hm).mono fun _ _ ⟨h1, h2⟩ => ⟨h1.o hT, h2⟩
theorem rgetNode_o {w : World} {t : Nat} (hT : t < w.heap.size) {a : Option Addr} {l : List Nat} {cap : Nat} (hb : IsBytes w a l) (hl : l.length ≤ 9223372036854775807) :
    Calls Tryd.prog 48 #[.slice a l.length cap] w fun e w' => NodeO t ((getNode l).getD nd0) (getNode l).isSome e w' ∧ Upd [] w w' := by
  rw [getNode_ref hb.1]; exact (rgetNode_any hb hl).mono fun _ _ ⟨h1, h2⟩ => ⟨h1.o hT, h2⟩
theorem getCounts_o {w : World} {t : Nat} (hT : t < w.heap.size) {a : Option Addr} {l : List Nat} {cap : Nat} (hb : IsBytes w a l) (hc : l.length ≤ cap) (hm : cap ≤ 9223372036854775807) :
    Calls Tryd.prog 26 #[.slice a l.length cap] w fun e w' => CountsO t ((getCounts l).getD []) (getCounts l).isSome e w' ∧ Upd [] w w' :=
  (getCounts_any hb hc hm).mono fun _ _ ⟨h1, h2⟩ => ⟨h1.o hT, h2⟩
theorem rgetCounts_o {w : World} {t : Nat} (hT : t < w.heap.size) {a : Option Addr} {l : List Nat} {cap : Nat} (hb : IsBytes w a l) (hl : l.length ≤ 9223372036854775807) :
    Calls Tryd.prog 49 #[.slice a l.length cap] w fun e w' => CountsO t ((getCounts l).getD []) (getCounts l).isSome e w' ∧ Upd [] w w' := by
  rw [getCounts_ref hb.1]; exact (rgetCounts_any hb hl).mono fun _ _ ⟨h1, h2⟩ => ⟨h1.o hT, h2⟩
theorem getCat_o {w : World} {t : Nat} (hT : t < w.heap.size) {a : Option Addr} {l : List Nat} {cap : Nat} (hb : IsBytes w a l) (hc : l.length ≤ cap) (hm : cap ≤ 9223372036854775807) :
    Calls Tryd.prog 42 #[.slice a l.length cap] w fun e w' => CatO t ((getCat l).getD cat0) (getCat l).isSome e w' ∧ Upd [] w w' :=
  (getCat_any hb hc hm).mono fun _ _ ⟨h1, h2⟩ => ⟨h1.o hT, h2⟩
theorem rgetCat_o {w : World} {t : Nat} (hT : t < w.heap.size) {a : Option Addr} {l : List Nat} {cap : Nat} (hb : IsBytes w a l) (hl : l.length ≤ 9223372036854775807) :
    Calls Tryd.prog 50 #[.slice a l.length cap] w fun e w' => CatO t ((getCat l).getD cat0) (getCat l).isSome e w' ∧ Upd [] w w' := by
  rw [getCat_ref hb.1]; exact (rgetCat_any hb hl).mono fun _ _ ⟨h1, h2⟩ => ⟨h1.o hT, h2⟩
theorem cells2 {w : World} {b : Nat} {x y : Value} {t : TypeId} (h : w.heap[b]? = some (.cells #[x, y] t (0, 0))) : w.cell? ⟨b, 0, none⟩ = some x ∧ w.cell? ⟨b, 1, none⟩ = some y := by
  obtain ⟨k, _⟩ := cells_of h
  exact ⟨k 0, k 1⟩
theorem cells7 {w : World} {b : Nat} {x y z u v r s : Value} {t : TypeId} (h : w.heap[b]? = some (.cells #[x, y, z, u, v, r, s] t (0, 0))) : w.cell? ⟨b, 0, none⟩ = some x ∧ w.cell? ⟨b, 1, none⟩ = some y ∧ w.cell? ⟨b, 2, none⟩ = some z ∧ w.cell? ⟨b, 3, none⟩ = some u ∧ w.cell? ⟨b, 4, none⟩ = some v ∧ w.cell? ⟨b, 5, none⟩ = some r ∧ w.cell? ⟨b, 6, none⟩ = some s := by
  obtain ⟨k, _⟩ := cells_of h
  exact ⟨k 0, k 1, k 2, k 3, k 4, k 5, k 6⟩
theorem superV7 (s : List Int) (h : s.length = 7) : ∃ y0 y1 y2 y3 y4 y5 y6 : Int, superV s = .agg #[.int .i64 y0, .int .i64 y1, .int .i64 y2, .int .i64 y3, .int .i64 y4, .int .i64 y5, .int .i64 y6] := by
  obtain ⟨a, b, c, d, e, f, g, h⟩ := seven _ h
  exact ⟨a, b, c, d, e, f, g, by rw [h]; rfl⟩
theorem getSuper_len7 (l : List Nat) : ((getSuper l).getD superNone).length = 7 := by
  unfold getSuper
  split
  · exact superOf_len l
  · rfl
set_option maxRecDepth 100000 in
set_option maxHeartbeats 12800000 in
theorem codecReads_any {w : World} {a : Option Addr} {l : List Nat} {cap : Nat} (m : Int) (hb : IsBytes w a l) (hc : l.length ≤ cap) (hm : cap ≤ 9223372036854775807) :
    Calls Tryd.prog 13 #[.slice a l.length cap, .int .i64 m] w fun e w' => e = .returned (.bool true) ∧ Upd [] w w' := by
  have hl : l.length ≤ 9223372036854775807 := by omega
  have HB : Hid (∀ w', Upd [] w w' → IsBytes w' a l) := fun w' u => hb.upd u (by simp)
  have H0 : Hid (0 < l.length → ∀ b o, a = some ⟨b, o, none⟩ → b < w.heap.size) := fun h0 b o e => by
    subst e; exact World.block_lt_of_cell? _ _ (hb.at 0 h0)
  obtain ⟨y0, y1, y2, y3, y4, y5, y6, hy⟩ := superV7 _ (getSuper_len7 l)
  have HY := Lib.hid hy
  have heq := eqSuper y0 y1 y2 y3 y4 y5 y6 y0 y1 y2 y3 y4 y5 y6
  rw [decide_eq_true rfl] at heq
  have HC := Lib.hid hc
  have HM := Lib.hid hm
  have HL := Lib.hid hl
  clear hb hy hc hm hl
  go_enter Tryd.func13, Tryd.ntmps13
  go_wp2_with fail
  refine (new_any _).mono ?_
  rintro en w1 ⟨t, rfl, htB, ht1, u1⟩
  have HT1 := Lib.hid ht1
  have V1 := Lib.hid u1
  have HS : Hid (0 < l.length → ∀ b o, a = some ⟨b, o, none⟩ → b ≠ t) := fun h0 b o e => by have := H0.out h0 b o e; omega
  clear ht1 u1
  go_wp2_with fail
  refine (known_any HT1.out).mono ?_
  rintro en w2 ⟨rfl, ht2, u2⟩
  have T2 := Lib.hid ht2
  have V2 := Lib.hid (V1.out.step u2 (fun x hx => .inr (by simp at hx; omega)))
  clear ht2 u2 HT1
  obtain ⟨bs, hbs⟩ : ∃ b, (getSuper l).isSome = b := ⟨_, rfl⟩
  obtain ⟨h, hh⟩ : ∃ x, (getHead l).getD hd0 = x := ⟨_, rfl⟩
  obtain ⟨bh, hbh⟩ : ∃ x, (getHead l).isSome = x := ⟨_, rfl⟩
  obtain ⟨pk, hpk⟩ : ∃ x, ((getPage l m).getD (0, [])).1 = x := ⟨_, rfl⟩
  obtain ⟨pb, hpb⟩ : ∃ x, ((getPage l m).getD (0, [])).2 = x := ⟨_, rfl⟩
  obtain ⟨bp, hbp⟩ : ∃ x, (getPage l m).isSome = x := ⟨_, rfl⟩
  obtain ⟨im, him⟩ : ∃ x, ((getImage l).getD imgRes0).1 = x := ⟨_, rfl⟩
  obtain ⟨ine, hine⟩ : ∃ x, ((getImage l).getD imgRes0).2.1 = x := ⟨_, rfl⟩
  obtain ⟨ix, hix⟩ : ∃ x, ((getImage l).getD imgRes0).2.2 = x := ⟨_, rfl⟩
  obtain ⟨bi, hbi⟩ : ∃ x, (getImage l).isSome = x := ⟨_, rfl⟩
  obtain ⟨nx, hnx⟩ : ∃ x, (getNode l).getD nd0 = x := ⟨_, rfl⟩
  obtain ⟨bn, hbn⟩ : ∃ x, (getNode l).isSome = x := ⟨_, rfl⟩
  obtain ⟨cx, hcx⟩ : ∃ x, (getCounts l).getD [] = x := ⟨_, rfl⟩
  obtain ⟨bc, hbc⟩ : ∃ x, (getCounts l).isSome = x := ⟨_, rfl⟩
  obtain ⟨gx, hgx⟩ : ∃ x, (getCat l).getD cat0 = x := ⟨_, rfl⟩
  obtain ⟨bg, hbg⟩ : ∃ x, (getCat l).isSome = x := ⟨_, rfl⟩
  have E1 := Lib.hid hbs; have E2 := Lib.hid hh; have E3 := Lib.hid hbh; have E4 := Lib.hid hpk; have E5 := Lib.hid hpb; have E6 := Lib.hid hbp; have E7 := Lib.hid him; have E8 := Lib.hid hine; have E9 := Lib.hid hix; have E10 := Lib.hid hbi; have E11 := Lib.hid hnx; have E12 := Lib.hid hbn; have E13 := Lib.hid hcx; have E14 := Lib.hid hbc; have E15 := Lib.hid hgx; have E16 := Lib.hid hbg
  clear hbs hh hbh hpk hpb hbp him hine hix hbi hnx hbn hcx hbc hgx hbg
  have hc3 := getSuper_o T2.out (HB.out _ V2.out) HS.out HC.out HM.out
  rw [E1.out] at hc3
  have HC3 := Lib.hid hc3
  clear hc3
  go_wp2_with fail
  refine HC3.out.mono ?_
  rintro en w3 ⟨r3, ht, u⟩
  unfold SuperO at r3
  rw [HY.out] at r3
  subst r3
  have Z3 := Lib.hid (ht.lt)
  have S3 := Lib.hid (show Upd [t] w2 (w3.alloc (.cells #[.int .i64 y0, .int .i64 y1, .int .i64 y2, .int .i64 y3, .int .i64 y4, .int .i64 y5, .int .i64 y6] 23)) from u.alloc (.cells #[.int .i64 y0, .int .i64 y1, .int .i64 y2, .int .i64 y3, .int .i64 y4, .int .i64 y5, .int .i64 y6] 23))
  have T3 := Lib.hid (ht.upd ((Upd.refl [] w3).alloc (.cells #[.int .i64 y0, .int .i64 y1, .int .i64 y2, .int .i64 y3, .int .i64 y4, .int .i64 y5, .int .i64 y6] 23)) (by simp))
  have V3 := Lib.hid (V2.out.step S3.out (fun x hx => .inr (by simp at hx; omega)))
  have B3 := Lib.hid (heap_alloc_new w3 (.cells #[.int .i64 y0, .int .i64 y1, .int .i64 y2, .int .i64 y3, .int .i64 y4, .int .i64 y5, .int .i64 y6] 23))
  clear HC3 ht u
  have hc4 := rgetSuper_o (cap := cap) (HB.out _ V3.out) HL.out
  rw [E1.out] at hc4
  have HC4 := Lib.hid hc4
  clear hc4
  go_wp2_with fail
  refine HC4.out.mono ?_
  rintro en w4 ⟨r4, u⟩
  unfold SuperO at r4
  rw [HY.out] at r4
  subst r4
  have Z4 := Lib.hid ((T3.out.upd u (by simp)).lt)
  have S4 := Lib.hid (show Upd [t] (w3.alloc (.cells #[.int .i64 y0, .int .i64 y1, .int .i64 y2, .int .i64 y3, .int .i64 y4, .int .i64 y5, .int .i64 y6] 23)) (w4.alloc (.cells #[.int .i64 y0, .int .i64 y1, .int .i64 y2, .int .i64 y3, .int .i64 y4, .int .i64 y5, .int .i64 y6] 23)) from (u.mono (T := [t]) (by simp)).alloc (.cells #[.int .i64 y0, .int .i64 y1, .int .i64 y2, .int .i64 y3, .int .i64 y4, .int .i64 y5, .int .i64 y6] 23))
  have T4 := Lib.hid ((T3.out.upd u (by simp)).upd ((Upd.refl [] w4).alloc (.cells #[.int .i64 y0, .int .i64 y1, .int .i64 y2, .int .i64 y3, .int .i64 y4, .int .i64 y5, .int .i64 y6] 23)) (by simp))
  have V4 := Lib.hid (V3.out.step S4.out (fun x hx => .inr (by simp at hx; omega)))
  have B4 := Lib.hid (heap_alloc_new w4 (.cells #[.int .i64 y0, .int .i64 y1, .int .i64 y2, .int .i64 y3, .int .i64 y4, .int .i64 y5, .int .i64 y6] 23))
  clear HC4 u
  have hc5 := getHead_o T4.out (HB.out _ V4.out) HS.out HC.out HM.out
  rw [E2.out, E3.out] at hc5
  have HC5 := Lib.hid hc5
  clear hc5
  go_wp2_with fail
  refine HC5.out.mono ?_
  rintro en w5 ⟨r5, ht, u⟩
  obtain ⟨a5, c5, rfl, i5, lh⟩ := r5
  have Z5 := Lib.hid (ht.lt)
  have S5 := Lib.hid (show Upd [t] (w4.alloc (.cells #[.int .i64 y0, .int .i64 y1, .int .i64 y2, .int .i64 y3, .int .i64 y4, .int .i64 y5, .int .i64 y6] 23)) (w5.alloc (.cells #[.int .i64 h.epoch, .int .i64 h.seq, .slice a5 h.pages.length c5, .int .u32 (h.sum : Int)] 59)) from u.alloc (.cells #[.int .i64 h.epoch, .int .i64 h.seq, .slice a5 h.pages.length c5, .int .u32 (h.sum : Int)] 59))
  have T5 := Lib.hid (ht.upd ((Upd.refl [] w5).alloc (.cells #[.int .i64 h.epoch, .int .i64 h.seq, .slice a5 h.pages.length c5, .int .u32 (h.sum : Int)] 59)) (by simp))
  have V5 := Lib.hid (V4.out.step S5.out (fun x hx => .inr (by simp at hx; omega)))
  have B5 := Lib.hid (heap_alloc_new w5 (.cells #[.int .i64 h.epoch, .int .i64 h.seq, .slice a5 h.pages.length c5, .int .u32 (h.sum : Int)] 59))
  have Qi5 := Lib.hid i5
  clear HC5 ht u i5
  have LH := Lib.hid lh
  clear lh
  have hc6 := rgetHead_o (cap := cap) T5.out.lt (HB.out _ V5.out) HL.out
  rw [E2.out, E3.out] at hc6
  have HC6 := Lib.hid hc6
  clear hc6
  go_wp2_with fail
  refine HC6.out.mono ?_
  rintro en w6 ⟨r6, u⟩
  obtain ⟨a6, c6, rfl, i6, _⟩ := r6
  have Z6 := Lib.hid ((T5.out.upd u (by simp)).lt)
  have S6 := Lib.hid (show Upd [t] (w5.alloc (.cells #[.int .i64 h.epoch, .int .i64 h.seq, .slice a5 h.pages.length c5, .int .u32 (h.sum : Int)] 59)) (w6.alloc (.cells #[.int .i64 h.epoch, .int .i64 h.seq, .slice a6 h.pages.length c6, .int .u32 (h.sum : Int)] 59)) from (u.mono (T := [t]) (by simp)).alloc (.cells #[.int .i64 h.epoch, .int .i64 h.seq, .slice a6 h.pages.length c6, .int .u32 (h.sum : Int)] 59))
  have T6 := Lib.hid ((T5.out.upd u (by simp)).upd ((Upd.refl [] w6).alloc (.cells #[.int .i64 h.epoch, .int .i64 h.seq, .slice a6 h.pages.length c6, .int .u32 (h.sum : Int)] 59)) (by simp))
  have V6 := Lib.hid (V5.out.step S6.out (fun x hx => .inr (by simp at hx; omega)))
  have B6 := Lib.hid (heap_alloc_new w6 (.cells #[.int .i64 h.epoch, .int .i64 h.seq, .slice a6 h.pages.length c6, .int .u32 (h.sum : Int)] 59))
  have Qi6 := Lib.hid i6
  clear HC6 u i6
  have hc7 := getPage_o m T6.out (HB.out _ V6.out) HS.out HC.out HM.out
  rw [E4.out, E5.out, E6.out] at hc7
  have HC7 := Lib.hid hc7
  clear hc7
  go_wp2_with fail
  refine HC7.out.mono ?_
  rintro en w7 ⟨r7, ht, u⟩
  obtain ⟨a7, c7, rfl, i7, lp⟩ := r7
  have Z7 := Lib.hid (ht.lt)
  have S7 := Lib.hid (show Upd [t] (w6.alloc (.cells #[.int .i64 h.epoch, .int .i64 h.seq, .slice a6 h.pages.length c6, .int .u32 (h.sum : Int)] 59)) (w7.alloc (.cells #[.int .i64 pk, .slice a7 pb.length c7] 37)) from u.alloc (.cells #[.int .i64 pk, .slice a7 pb.length c7] 37))
  have T7 := Lib.hid (ht.upd ((Upd.refl [] w7).alloc (.cells #[.int .i64 pk, .slice a7 pb.length c7] 37)) (by simp))
  have V7 := Lib.hid (V6.out.step S7.out (fun x hx => .inr (by simp at hx; omega)))
  have B7 := Lib.hid (heap_alloc_new w7 (.cells #[.int .i64 pk, .slice a7 pb.length c7] 37))
  have Qi7 := Lib.hid i7
  clear HC7 ht u i7
  have LP := Lib.hid lp
  clear lp
  have hc8 := rgetPage_o (cap := cap) T7.out.lt m (HB.out _ V7.out) HC.out HM.out
  rw [E4.out, E5.out, E6.out] at hc8
  have HC8 := Lib.hid hc8
  clear hc8
  go_wp2_with fail
  refine HC8.out.mono ?_
  rintro en w8 ⟨r8, u⟩
  obtain ⟨a8, c8, rfl, i8, _⟩ := r8
  have Z8 := Lib.hid ((T7.out.upd u (by simp)).lt)
  have S8 := Lib.hid (show Upd [t] (w7.alloc (.cells #[.int .i64 pk, .slice a7 pb.length c7] 37)) (w8.alloc (.cells #[.int .i64 pk, .slice a8 pb.length c8] 37)) from (u.mono (T := [t]) (by simp)).alloc (.cells #[.int .i64 pk, .slice a8 pb.length c8] 37))
  have T8 := Lib.hid ((T7.out.upd u (by simp)).upd ((Upd.refl [] w8).alloc (.cells #[.int .i64 pk, .slice a8 pb.length c8] 37)) (by simp))
  have V8 := Lib.hid (V7.out.step S8.out (fun x hx => .inr (by simp at hx; omega)))
  have B8 := Lib.hid (heap_alloc_new w8 (.cells #[.int .i64 pk, .slice a8 pb.length c8] 37))
  have Qi8 := Lib.hid i8
  clear HC8 u i8
  obtain ⟨s30, s31, s32, s33, s34, s35, s36⟩ := cells7 (((((S4.out.trans S5.out).trans S6.out).trans S7.out).trans S8.out).get B3.out (by have := Z3.out; simp; omega))
  obtain ⟨s40, s41, s42, s43, s44, s45, s46⟩ := cells7 ((((S5.out.trans S6.out).trans S7.out).trans S8.out).get B4.out (by have := Z4.out; simp; omega))
  obtain ⟨h50, h51, h52, h53⟩ := cells4 (((S6.out.trans S7.out).trans S8.out).get B5.out (by have := Z5.out; simp; omega))
  obtain ⟨h60, h61, h62, h63⟩ := cells4 ((S7.out.trans S8.out).get B6.out (by have := Z6.out; simp; omega))
  go_wp2_with fail
  have hq9 := heads_any (h := h) (h' := h) (cap := c5) (cap' := c6) (Qi5.out _ (((Upd.refl [t] w5).alloc _).trans ((S6.out.trans S7.out).trans S8.out))) (Qi6.out _ (((Upd.refl [t] w6).alloc _).trans (S7.out.trans S8.out))) LH.out LH.out
  rw [decide_eq_true rfl] at hq9
  refine hq9.mono ?_
  rintro en w9 ⟨rfl, u⟩
  have S9 := Lib.hid (show Upd [t] (w8.alloc (.cells #[.int .i64 pk, .slice a8 pb.length c8] 37)) w9 from u.mono (by simp))
  have T9 := Lib.hid (T8.out.upd u (by simp))
  have Z9 := Lib.hid (T8.out.upd u (by simp)).lt
  have V9 := Lib.hid (V8.out.step S9.out (fun x hx => .inr (by simp at hx; omega)))
  clear u hq9
  clear s30 s31 s32 s33 s34 s35 s36 s40 s41 s42 s43 s44 s45 s46 h50 h51 h52 h53 h60 h61 h62 h63
  obtain ⟨p70, p71⟩ := cells2 ((S8.out.trans S9.out).get B7.out (by have := Z7.out; simp; omega))
  obtain ⟨p80, p81⟩ := cells2 (S9.out.get B8.out (by have := Z8.out; simp; omega))
  go_wp2_with fail
  have hq10 := pages_any (k := pk) (k' := pk) (cap := c7) (cap' := c8) (Qi7.out _ (((Upd.refl [t] w7).alloc _).trans (S8.out.trans S9.out))) (Qi8.out _ (((Upd.refl [t] w8).alloc _).trans S9.out)) LP.out LP.out
  rw [decide_eq_true (⟨rfl, rfl⟩ : pk = pk ∧ pb = pb)] at hq10
  refine hq10.mono ?_
  rintro en w10 ⟨rfl, u⟩
  have S10 := Lib.hid (show Upd [t] w9 w10 from u.mono (by simp))
  have T10 := Lib.hid (T9.out.upd u (by simp))
  have Z10 := Lib.hid (T9.out.upd u (by simp)).lt
  have V10 := Lib.hid (V9.out.step S10.out (fun x hx => .inr (by simp at hx; omega)))
  clear u hq10
  clear p70 p71 p80 p81
  have hc11 := getImage_o T10.out (HB.out _ V10.out) HS.out HC.out HM.out
  rw [E7.out, E8.out, E9.out, E10.out] at hc11
  have HC11 := Lib.hid hc11
  clear hc11
  go_wp2_with fail
  refine HC11.out.mono ?_
  rintro en w11 ⟨r11, ht, u⟩
  obtain ⟨a11, c11, rfl, i11, li⟩ := r11
  have Z11 := Lib.hid (ht.lt)
  have S11 := Lib.hid (show Upd [t] w10 (w11.alloc (.cells #[.int .i64 ix.num, .int .i64 ix.kind, .slice a11 ix.body.length c11] 39)) from u.alloc (.cells #[.int .i64 ix.num, .int .i64 ix.kind, .slice a11 ix.body.length c11] 39))
  have T11 := Lib.hid (ht.upd ((Upd.refl [] w11).alloc (.cells #[.int .i64 ix.num, .int .i64 ix.kind, .slice a11 ix.body.length c11] 39)) (by simp))
  have V11 := Lib.hid (V10.out.step S11.out (fun x hx => .inr (by simp at hx; omega)))
  have B11 := Lib.hid (heap_alloc_new w11 (.cells #[.int .i64 ix.num, .int .i64 ix.kind, .slice a11 ix.body.length c11] 39))
  have Qi11 := Lib.hid i11
  clear HC11 ht u i11
  have LI := Lib.hid li
  clear li
  have hc12 := rgetImage_o (cap := cap) T11.out.lt (HB.out _ V11.out) HC.out HM.out
  rw [E7.out, E8.out, E9.out, E10.out] at hc12
  have HC12 := Lib.hid hc12
  clear hc12
  go_wp2_with fail
  refine HC12.out.mono ?_
  rintro en w12 ⟨r12, u⟩
  obtain ⟨a12, c12, rfl, i12, _⟩ := r12
  have Z12 := Lib.hid ((T11.out.upd u (by simp)).lt)
  have S12 := Lib.hid (show Upd [t] (w11.alloc (.cells #[.int .i64 ix.num, .int .i64 ix.kind, .slice a11 ix.body.length c11] 39)) (w12.alloc (.cells #[.int .i64 ix.num, .int .i64 ix.kind, .slice a12 ix.body.length c12] 39)) from (u.mono (T := [t]) (by simp)).alloc (.cells #[.int .i64 ix.num, .int .i64 ix.kind, .slice a12 ix.body.length c12] 39))
  have T12 := Lib.hid ((T11.out.upd u (by simp)).upd ((Upd.refl [] w12).alloc (.cells #[.int .i64 ix.num, .int .i64 ix.kind, .slice a12 ix.body.length c12] 39)) (by simp))
  have V12 := Lib.hid (V11.out.step S12.out (fun x hx => .inr (by simp at hx; omega)))
  have B12 := Lib.hid (heap_alloc_new w12 (.cells #[.int .i64 ix.num, .int .i64 ix.kind, .slice a12 ix.body.length c12] 39))
  have Qi12 := Lib.hid i12
  clear HC12 u i12
  obtain ⟨p110, p111, p112⟩ := cells3 (S12.out.get B11.out (by have := Z11.out; simp; omega))
  obtain ⟨p120, p121, p122⟩ := cells3 ((Upd.refl [t] _).get B12.out (by have := Z12.out; simp; omega))
  go_wp2_with fail
  have hq13 := pages_any (k := ix.kind) (k' := ix.kind) (cap := c11) (cap' := c12) (Qi11.out _ (((Upd.refl [t] w11).alloc _).trans S12.out)) (Qi12.out _ (((Upd.refl [t] w12).alloc _).trans (Upd.refl [t] _))) LI.out LI.out
  rw [decide_eq_true (⟨rfl, rfl⟩ : ix.kind = ix.kind ∧ ix.body = ix.body)] at hq13
  refine hq13.mono ?_
  rintro en w13 ⟨rfl, u⟩
  have S13 := Lib.hid (show Upd [t] (w12.alloc (.cells #[.int .i64 ix.num, .int .i64 ix.kind, .slice a12 ix.body.length c12] 39)) w13 from u.mono (by simp))
  have T13 := Lib.hid (T12.out.upd u (by simp))
  have Z13 := Lib.hid (T12.out.upd u (by simp)).lt
  have V13 := Lib.hid (V12.out.step S13.out (fun x hx => .inr (by simp at hx; omega)))
  clear u hq13
  clear p110 p111 p112 p120 p121 p122
  have hc14 := getNode_o T13.out.lt (HB.out _ V13.out) HC.out HM.out
  rw [E11.out, E12.out] at hc14
  have HC14 := Lib.hid hc14
  clear hc14
  go_wp2_with fail
  refine HC14.out.mono ?_
  rintro en w14 ⟨r14, u⟩
  obtain ⟨a14, c14, b14, d14, rfl, i14, j14, lk, lv⟩ := r14
  have Z14 := Lib.hid ((T13.out.upd u (by simp)).lt)
  have S14 := Lib.hid (show Upd [t] w13 (w14.alloc (.cells #[.bool nx.leaf, .slice a14 nx.keys.length c14, .slice b14 nx.vals.length d14] 67)) from (u.mono (T := [t]) (by simp)).alloc (.cells #[.bool nx.leaf, .slice a14 nx.keys.length c14, .slice b14 nx.vals.length d14] 67))
  have T14 := Lib.hid ((T13.out.upd u (by simp)).upd ((Upd.refl [] w14).alloc (.cells #[.bool nx.leaf, .slice a14 nx.keys.length c14, .slice b14 nx.vals.length d14] 67)) (by simp))
  have V14 := Lib.hid (V13.out.step S14.out (fun x hx => .inr (by simp at hx; omega)))
  have B14 := Lib.hid (heap_alloc_new w14 (.cells #[.bool nx.leaf, .slice a14 nx.keys.length c14, .slice b14 nx.vals.length d14] 67))
  have Qi14 := Lib.hid i14
  have Qj14 := Lib.hid j14
  clear HC14 u i14 j14
  have LK := Lib.hid lk
  have LV := Lib.hid lv
  clear lk lv
  have hc15 := rgetNode_o (cap := cap) T14.out.lt (HB.out _ V14.out) HL.out
  rw [E11.out, E12.out] at hc15
  have HC15 := Lib.hid hc15
  clear hc15
  go_wp2_with fail
  refine HC15.out.mono ?_
  rintro en w15 ⟨r15, u⟩
  obtain ⟨a15, c15, b15, d15, rfl, i15, j15, _, _⟩ := r15
  have Z15 := Lib.hid ((T14.out.upd u (by simp)).lt)
  have S15 := Lib.hid (show Upd [t] (w14.alloc (.cells #[.bool nx.leaf, .slice a14 nx.keys.length c14, .slice b14 nx.vals.length d14] 67)) (w15.alloc (.cells #[.bool nx.leaf, .slice a15 nx.keys.length c15, .slice b15 nx.vals.length d15] 67)) from (u.mono (T := [t]) (by simp)).alloc (.cells #[.bool nx.leaf, .slice a15 nx.keys.length c15, .slice b15 nx.vals.length d15] 67))
  have T15 := Lib.hid ((T14.out.upd u (by simp)).upd ((Upd.refl [] w15).alloc (.cells #[.bool nx.leaf, .slice a15 nx.keys.length c15, .slice b15 nx.vals.length d15] 67)) (by simp))
  have V15 := Lib.hid (V14.out.step S15.out (fun x hx => .inr (by simp at hx; omega)))
  have B15 := Lib.hid (heap_alloc_new w15 (.cells #[.bool nx.leaf, .slice a15 nx.keys.length c15, .slice b15 nx.vals.length d15] 67))
  have Qi15 := Lib.hid i15
  have Qj15 := Lib.hid j15
  clear HC15 u i15 j15
  have hc16 := getCounts_o T15.out.lt (HB.out _ V15.out) HC.out HM.out
  rw [E13.out, E14.out] at hc16
  have HC16 := Lib.hid hc16
  clear hc16
  go_wp2_with fail
  refine HC16.out.mono ?_
  rintro en w16 ⟨r16, u⟩
  obtain ⟨a16, c16, rfl, i16, lc⟩ := r16
  have Z16 := Lib.hid ((T15.out.upd u (by simp)).lt)
  have S16 := Lib.hid (show Upd [t] (w15.alloc (.cells #[.bool nx.leaf, .slice a15 nx.keys.length c15, .slice b15 nx.vals.length d15] 67)) w16 from (u.mono (T := [t]) (by simp)))
  have T16 := Lib.hid ((T15.out.upd u (by simp)))
  have V16 := Lib.hid (V15.out.step S16.out (fun x hx => .inr (by simp at hx; omega)))
  have Qi16 := Lib.hid i16
  clear HC16 u i16
  have LC := Lib.hid lc
  clear lc
  have hc17 := rgetCounts_o (cap := cap) T16.out.lt (HB.out _ V16.out) HL.out
  rw [E13.out, E14.out] at hc17
  have HC17 := Lib.hid hc17
  clear hc17
  go_wp2_with fail
  refine HC17.out.mono ?_
  rintro en w17 ⟨r17, u⟩
  obtain ⟨a17, c17, rfl, i17, _⟩ := r17
  have Z17 := Lib.hid ((T16.out.upd u (by simp)).lt)
  have S17 := Lib.hid (show Upd [t] w16 w17 from (u.mono (T := [t]) (by simp)))
  have T17 := Lib.hid ((T16.out.upd u (by simp)))
  have V17 := Lib.hid (V16.out.step S17.out (fun x hx => .inr (by simp at hx; omega)))
  have Qi17 := Lib.hid i17
  clear HC17 u i17
  have hc18 := getCat_o T17.out.lt (HB.out _ V17.out) HC.out HM.out
  rw [E15.out, E16.out] at hc18
  have HC18 := Lib.hid hc18
  clear hc18
  go_wp2_with fail
  refine HC18.out.mono ?_
  rintro en w18 ⟨r18, u⟩
  obtain ⟨a18, c18, b18, d18, rfl, i18, j18, lg, ls⟩ := r18
  have Z18 := Lib.hid ((T17.out.upd u (by simp)).lt)
  have S18 := Lib.hid (show Upd [t] w17 (w18.alloc (.cells #[.int .i64 gx.next, .slice a18 gx.vols.length c18, .slice b18 gx.stack.length d18] 75)) from (u.mono (T := [t]) (by simp)).alloc (.cells #[.int .i64 gx.next, .slice a18 gx.vols.length c18, .slice b18 gx.stack.length d18] 75))
  have T18 := Lib.hid ((T17.out.upd u (by simp)).upd ((Upd.refl [] w18).alloc (.cells #[.int .i64 gx.next, .slice a18 gx.vols.length c18, .slice b18 gx.stack.length d18] 75)) (by simp))
  have V18 := Lib.hid (V17.out.step S18.out (fun x hx => .inr (by simp at hx; omega)))
  have B18 := Lib.hid (heap_alloc_new w18 (.cells #[.int .i64 gx.next, .slice a18 gx.vols.length c18, .slice b18 gx.stack.length d18] 75))
  have Qi18 := Lib.hid i18
  have Qj18 := Lib.hid j18
  clear HC18 u i18 j18
  have LG := Lib.hid lg
  have LS := Lib.hid ls
  clear lg ls
  have hc19 := rgetCat_o (cap := cap) T18.out.lt (HB.out _ V18.out) HL.out
  rw [E15.out, E16.out] at hc19
  have HC19 := Lib.hid hc19
  clear hc19
  go_wp2_with fail
  refine HC19.out.mono ?_
  rintro en w19 ⟨r19, u⟩
  obtain ⟨a19, c19, b19, d19, rfl, i19, j19, _, _⟩ := r19
  have Z19 := Lib.hid ((T18.out.upd u (by simp)).lt)
  have S19 := Lib.hid (show Upd [t] (w18.alloc (.cells #[.int .i64 gx.next, .slice a18 gx.vols.length c18, .slice b18 gx.stack.length d18] 75)) (w19.alloc (.cells #[.int .i64 gx.next, .slice a19 gx.vols.length c19, .slice b19 gx.stack.length d19] 75)) from (u.mono (T := [t]) (by simp)).alloc (.cells #[.int .i64 gx.next, .slice a19 gx.vols.length c19, .slice b19 gx.stack.length d19] 75))
  have T19 := Lib.hid ((T18.out.upd u (by simp)).upd ((Upd.refl [] w19).alloc (.cells #[.int .i64 gx.next, .slice a19 gx.vols.length c19, .slice b19 gx.stack.length d19] 75)) (by simp))
  have V19 := Lib.hid (V18.out.step S19.out (fun x hx => .inr (by simp at hx; omega)))
  have B19 := Lib.hid (heap_alloc_new w19 (.cells #[.int .i64 gx.next, .slice a19 gx.vols.length c19, .slice b19 gx.stack.length d19] 75))
  have Qi19 := Lib.hid i19
  have Qj19 := Lib.hid j19
  clear HC19 u i19 j19
  obtain ⟨n140, n141, n142⟩ := cells3 (((((S15.out.trans S16.out).trans S17.out).trans S18.out).trans S19.out).get B14.out (by have := Z14.out; simp; omega))
  obtain ⟨n150, n151, n152⟩ := cells3 ((((S16.out.trans S17.out).trans S18.out).trans S19.out).get B15.out (by have := Z15.out; simp; omega))
  go_wp2_with fail
  have hq20 := nodes_same (n := nx) (cap := c14) (cap' := d14) (dap := c15) (dap' := d15) (Qi14.out _ (((Upd.refl [t] w14).alloc _).trans ((((S15.out.trans S16.out).trans S17.out).trans S18.out).trans S19.out))) (Qj14.out _ (((Upd.refl [t] w14).alloc _).trans ((((S15.out.trans S16.out).trans S17.out).trans S18.out).trans S19.out))) (Qi15.out _ (((Upd.refl [t] w15).alloc _).trans (((S16.out.trans S17.out).trans S18.out).trans S19.out))) (Qj15.out _ (((Upd.refl [t] w15).alloc _).trans (((S16.out.trans S17.out).trans S18.out).trans S19.out))) LK.out LV.out
  refine hq20.mono ?_
  rintro en w20 ⟨rfl, u⟩
  have S20 := Lib.hid (show Upd [t] (w19.alloc (.cells #[.int .i64 gx.next, .slice a19 gx.vols.length c19, .slice b19 gx.stack.length d19] 75)) w20 from u.mono (by simp))
  have T20 := Lib.hid (T19.out.upd u (by simp))
  have Z20 := Lib.hid (T19.out.upd u (by simp)).lt
  have V20 := Lib.hid (V19.out.step S20.out (fun x hx => .inr (by simp at hx; omega)))
  clear u hq20
  clear n140 n141 n142 n150 n151 n152
  go_wp2_with fail
  have hq21 := ints_any (l := cx) (l' := cx) (cap := c16) (cap' := c17) (Qi16.out _ (((S17.out.trans S18.out).trans S19.out).trans S20.out)) (Qi17.out _ ((S18.out.trans S19.out).trans S20.out)) LC.out LC.out
  rw [decide_eq_true rfl] at hq21
  refine hq21.mono ?_
  rintro en w21 ⟨rfl, u⟩
  have S21 := Lib.hid (show Upd [t] w20 w21 from u.mono (by simp))
  have T21 := Lib.hid (T20.out.upd u (by simp))
  have Z21 := Lib.hid (T20.out.upd u (by simp)).lt
  have V21 := Lib.hid (V20.out.step S21.out (fun x hx => .inr (by simp at hx; omega)))
  clear u hq21
  obtain ⟨g180, g181, g182⟩ := cells3 (((S19.out.trans S20.out).trans S21.out).get B18.out (by have := Z18.out; simp; omega))
  obtain ⟨g190, g191, g192⟩ := cells3 ((S20.out.trans S21.out).get B19.out (by have := Z19.out; simp; omega))
  go_wp2_with fail
  have hq22 := cats_any (c := gx) (d := gx) (cap := c18) (cap' := d18) (dap := c19) (dap' := d19) (Qi18.out _ (((Upd.refl [t] w18).alloc _).trans ((S19.out.trans S20.out).trans S21.out))) (Qj18.out _ (((Upd.refl [t] w18).alloc _).trans ((S19.out.trans S20.out).trans S21.out))) (Qi19.out _ (((Upd.refl [t] w19).alloc _).trans (S20.out.trans S21.out))) (Qj19.out _ (((Upd.refl [t] w19).alloc _).trans (S20.out.trans S21.out))) LG.out LS.out LG.out LS.out
  rw [decide_eq_true rfl] at hq22
  refine hq22.mono ?_
  rintro en w22 ⟨rfl, u⟩
  have S22 := Lib.hid (show Upd [t] w21 w22 from u.mono (by simp))
  have T22 := Lib.hid (T21.out.upd u (by simp))
  have Z22 := Lib.hid (T21.out.upd u (by simp)).lt
  have V22 := Lib.hid (V21.out.step S22.out (fun x hx => .inr (by simp at hx; omega)))
  clear u hq22
  go_wp2
  go_ret
  exact ⟨rfl, V22.out⟩
end Go.Proofs.YtkahpkmofeglgaaDoor
