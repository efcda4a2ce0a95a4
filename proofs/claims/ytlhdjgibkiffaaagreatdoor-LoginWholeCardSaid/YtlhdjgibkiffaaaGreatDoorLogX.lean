/-
  PROVED HERE: a login that is done by one request. Conditions: those that each theorem names.
-/
import Derived.Test.YtlhdjgibkiffaaaGreatDoorLogW
namespace Go.Proofs.YtlhdjgibkiffaaaGreatDoor
open Go.RowKit Go.Shelf
def reqP : Pd := ⟨3, true, 135, 0, 7, 0, 1, reqT⟩
def knownT : Txt := [72, 101, 97, 100, 101, 114, 68, 105, 103, 101, 115, 116, 61, 67, 82, 67, 51, 50, 67, 0, 77, 97, 120, 82, 101, 99, 118, 68, 97, 116, 97, 83, 101, 103, 109, 101, 110, 116, 76, 101, 110, 103, 116, 104, 61, 49, 48, 50, 52, 0]
def knownL : Lg := ⟨⟨[97], 7, 0, true, false, 1024⟩, 3, 1, 1, true, true, [kHead]⟩
set_option maxRecDepth 100000 in
theorem known_take : takeP Lg.new reqP = (knownL, ⟨135, 0, knownT, true⟩) := by kernel_rfl
set_option maxRecDepth 100000 in
theorem known_again : takeP knownL reqP = ({ knownL with over := true }, ⟨0, 523, [], false⟩) := by kernel_rfl
theorem IsTxt.updT {w w' : World} {p : Option Addr} {t : Txt} {T : List Nat} (h : IsTxt w p t) (u : Upd T w w') (hT : ∀ g ∈ T, noU8 w g) : IsTxt w' p t := fun i hi => by
  obtain ⟨g, o, k1, k2, k3⟩ := h i hi
  exact ⟨g, o, k1, Nat.lt_of_lt_of_le k2 u.size, (World.cell?_of_block (a := ⟨g, _, none⟩) (u.block g k2 fun hm => hT g hm _ _ k3)).trans k3⟩
theorem LgAt.noU8 {w : World} {b m : Nat} {l : Lg} (h : LgAt w b m l) : ∀ g ∈ [b, m], noU8 w g := fun g hg => by
  simp only [List.mem_cons, List.not_mem_nil, or_false] at hg
  rcases hg with rfl | rfl
  · exact noU8_of h.obj rfl
  · intro o x hx
    obtain ⟨D, ⟨es, clock, hb, _⟩, _⟩ := h.set
    rw [cell_map hb] at hx
    cases hx
theorem take_to {W : World} {b mb : Nat} {l l' : Lg} {A : Array Value} {p : Pd} {dv : Value} {fl : Nat} {st : Int} {tx : Txt} {dn : Bool} (h : takeP l p = (l', ⟨fl, st, tx, dn⟩)) (hl : LgAt W b mb l) (hp : PdIs A p dv) (hd : IsTxtV W dv p.data) (hdl : p.data.length ≤ 1048576) (hal : l.ans.length ≤ 500) (hlt : l.taken ≤ 8) (hV : ∀ W', Upd [b, mb] W W' → Vars W') :
    Calls Tryz.prog 10 #[.pointer (some ⟨b, 0, none⟩), .agg A] W fun e W' => ∃ vp vc m, e = .returned (.agg #[.int .i64 (fl : Nat), .int .i64 st, .slice vp tx.length vc, .bool dn]) ∧ IsTxt W' vp tx ∧ LgAt W' b m l' ∧ (m = mb ∨ W.heap.size ≤ m) ∧ Upd [b, mb] W W' := by
  have hx := take_any hl hp hd hdl hal hlt hV
  rw [h] at hx
  refine hx.mono ?_
  rintro e w ⟨⟨v, rfl, vp, vc, rfl, hv, _⟩, ⟨m, hm, hm2⟩, hu⟩
  exact ⟨vp, vc, m, rfl, hv, hm, hm2, hu⟩
set_option maxRecDepth 100000 in
set_option maxHeartbeats 4000000 in
theorem known_any (w : World) (hV : ∀ W, Below w.heap.size w W → Vars W) : Calls Tryz.prog 7 #[] w fun e w' => e = .returned (.bool true) ∧ Below w.heap.size w w' := by
  have HV := Lib.hid hV
  clear hV
  go_enter Tryz.func7, Tryz.ntmps7
  go_wp2_with fail
  refine (new_any _).mono ?_
  rintro e w1 ⟨b, m, rfl, hb, hm, hl, hb1⟩
  have HL1 := Lib.hid hl
  have HB1 := Lib.hid hb1
  clear hl hb1
  go_wp2_with fail
  refine (request_any _).mono ?_
  rintro e w2 ⟨⟨dp, dc, rfl, ht⟩, hb2⟩
  have HX := Lib.hid (take_to known_take (HL1.out.below hb2) (rw_is (r := reqR dp dc) rfl) ht (by decide) (by decide) (by decide) (fun W' h => HV.out W' ((HB1.out.trans (hb2.mono HB1.out.size)).trans (h.below (by have h1 := HB1.out.size; have h2 := hb2.size; omega) (fun x hx => by simp at hx; omega)))))
  have HB2 := Lib.hid (HB1.out.trans (hb2.mono HB1.out.size))
  clear hb2 ht HL1
  go_wp2_with fail
  refine HX.out.mono ?_
  rintro e w3 ⟨vp, vc, m3, rfl, hvt, hl3, hm3, hu3⟩
  have HB3 := Lib.hid (HB2.out.trans (hu3.below HB2.out.size (fun x hx => by simp at hx; omega)))
  have hm3' : w.heap.size ≤ m3 := by have := HB2.out.size; omega
  have hlb := hl3.lt
  have hlm := hl3.ltm
  have HL3 := Lib.hid hl3
  have HCV := Lib.hid (fun W' (hW : Upd [b, m3] w3 W') => (piece_string (hvt.updT hW hl3.noU8) (by decide) vc : (convert 28 9 (.slice vp knownT.length vc)).run Tryz.prog W' = .ok (.string (txt knownT)) W'))
  clear hl3 hu3 hm3 HX hvt
  have HXA := Lib.hid (alloc_last w3 (.cells [.int .i64 135, .int .i64 0, .slice vp 50 vc, .bool true].toArray 35))
  have HTE := Lib.hid (terms_any (HL3.out.upd ((Upd.refl [] w3).alloc (.cells [.int .i64 135, .int .i64 0, .slice vp 50 vc, .bool true].toArray 35)) (by simp) (by simp)))
  rw [show knownT.length = 50 from rfl] at HCV ⊢
  rw [show ((135 : Nat) : Int) = 135 from rfl]
  go_wp2_with fail
  refine HTE.out.mono ?_
  rintro e w4 ⟨rfl, hb4⟩
  have hu4 : Upd [] w3 w4 := ((Upd.refl [] w3).alloc _).trans (Upd.of_below hb4)
  have hx4 := (Upd.of_below hb4).get HXA.out (by simp)
  have HX4 := Lib.hid hx4
  have HU4 := Lib.hid hu4
  have HXT := Lib.hid (alloc_last w4 (.cells (tmV knownL.tm).toArray 32))
  have hs4 : w3.heap.size < w4.heap.size := lt_of_get hx4
  clear hb4 hu4 hx4 HTE HXA
  go_wp2_with fail
  refine (request_any _).mono ?_
  rintro e w5 ⟨⟨dp5, dc5, rfl, ht5⟩, hb5⟩
  have hu5 : Upd [] w4 w5 := ((Upd.refl [] w4).alloc (.cells (tmV knownL.tm).toArray 32)).trans (Upd.of_below hb5)
  have hu35 := HU4.out.trans hu5
  have HU35 := Lib.hid hu35
  have HX5 := Lib.hid (hu5.get HX4.out (by simp))
  have HT5 := Lib.hid ((Upd.of_below hb5).get HXT.out (by simp))
  have HK := Lib.hid (take_to known_again (HL3.out.upd hu35 (by simp) (by simp)) (rw_is (r := reqR dp5 dc5) rfl) ht5 (by decide) (by decide) (by decide) (fun W' h => HV.out W' ((HB3.out.trans (hu35.below HB3.out.size (by simp))).trans (h.below (by have h1 := HB3.out.size; have h2 := hu35.size; omega) (fun x hx => by simp at hx; omega)))))
  have hs5 : w4.heap.size < w5.heap.size := lt_of_get HT5.out
  clear hb5 ht5 hu5 hu35 HX4 HXT
  go_wp2_with fail
  refine HK.out.mono ?_
  rintro e w6 ⟨vp6, vc6, m6, rfl, -, -, -, hu6⟩
  have hx6 := (cells_of (hu6.get HX5.out (by simp; omega))).1
  have ht6 := (cells_of (hu6.get HT5.out (by simp; omega))).1
  have x0 := hx6 0
  have x1 := hx6 1
  have x2 := hx6 2
  have x3 := hx6 3
  have y0 := ht6 0
  have y3 := ht6 3
  have y4 := ht6 4
  have y5 := ht6 5
  simp only [List.getElem?_toArray, List.getElem?_cons_zero, List.getElem?_cons_succ] at x0 x1 x2 x3 y0 y3 y4 y5
  have hcv := fun o => HCV.out (w6.alloc o) (((HU35.out.mono (by simp)).trans hu6).alloc o)
  have hk : txt knownT = txt [72, 101, 97, 100, 101, 114, 68, 105, 103, 101, 115, 116, 61, 67, 82, 67, 51, 50, 67, 0, 77, 97, 120, 82, 101, 99, 118, 68, 97, 116, 97, 83, 101, 103, 109, 101, 110, 116, 76, 101, 110, 103, 116, 104, 61, 49, 48, 50, 52, 0] := rfl
  rw [hk] at hcv
  have hs6 : w5.heap.size ≤ w6.heap.size := hu6.size
  have h1 : w3.heap.size < w6.heap.size := by omega
  have h2 : w4.heap.size < w6.heap.size := by omega
  have HB6 := Lib.hid ((HB3.out.trans (HU35.out.below HB3.out.size (by simp))).trans (hu6.below (by have h1 := HB3.out.size; have h2 := HU35.out.size; omega) (fun x hx => by simp at hx; omega)))
  have ht : txt knownL.tm.name = txt [97] := rfl
  have hh : knownL.tm.head = true := rfl
  have hd : knownL.tm.data = false := rfl
  have hsd : knownL.tm.send = 1024 := rfl
  rw [ht] at y0
  rw [hh] at y3
  rw [hd] at y4
  rw [hsd] at y5
  clear hu6 hx6 ht6 HK hk
  rw [show ((0 : Nat) : Int) = 0 from rfl]
  simp only [List.length_nil]
  go_wp2_with fail
  go_ret
  exact ⟨rfl, HB6.out.alloc HB6.out.size _⟩
end Go.Proofs.YtlhdjgibkiffaaaGreatDoor
