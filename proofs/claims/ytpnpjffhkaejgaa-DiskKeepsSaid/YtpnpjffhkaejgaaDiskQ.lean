/-
  PROVED HERE: what the statements of layer 3 ask first (known). Conditions: none.
-/
import Derived.Test.YtpnpjffhkaejgaaDiskP
import Derived.Test.YtpnpjffhkaejgaaOpData
import Derived.Test.YtpnpjffhkaejgaaDiskCutsP
namespace Go.Proofs.Ytpnpjffhkaejgaa
open Go.RowKit

def ones256 : List Nat := List.replicate 256 1
theorem opData_one (f : Int) (n : Nat) (hn : n = (f % 256).toNat) : opData 1 0 f = List.replicate 256 n := by
  subst hn
  unfold opData
  rw [show opLen 1 0 = 256 from rfl, List.eq_replicate_iff]
  refine ⟨by simp, fun x hx => ?_⟩
  obtain ⟨i, hi, rfl⟩ := List.mem_map.1 hx
  have hi := List.mem_range.1 hi
  unfold opByte
  rw [show i / 256 = 0 by omega]
  simp
/-- The disk of 'known', step by step. -/
def kn1 : Dk := ((Dk.new 4).write 2 ones256 false).2
def kn2 : Dk := (kn1.read 2 1).2
def kn3 : Dk := kn2.crash []
theorem kn_write : (Dk.new 4).write 2 ones256 false = (0, (putV ((Dk.new 4).tick 2) false 2 ones256).did) := by
  have := write_one (S := Dk.new 4) (p := 2) (by decide) (l := ones256) List.length_replicate false
  rw [show ((2 : Nat) : Int) = 2 from rfl] at this
  rw [this, show (Dk.new 4).hit 2 = false from rfl, show (Dk.new 4).down = false from rfl]; rfl
theorem kn_sec : (kn1.sec 2) = ⟨zeros256, [ones256]⟩ := by
  unfold kn1
  rw [kn_write]
  show (putV ((Dk.new 4).tick 2) false 2 ones256).sec 2 = _
  rw [putV_false]; rfl
theorem kn_n : kn1.n = 4 := by unfold kn1; rw [kn_write]; rfl
theorem kn_hit : kn1.hit 1 = false := by unfold kn1; rw [kn_write]; rfl
theorem kn_read : kn1.read 2 1 = ((ones256, 0), kn1.tick 1) := by
  have := read_one (S := kn1) (p := 2) (by rw [kn_n]; decide)
  rw [show ((2 : Nat) : Int) = 2 from rfl, kn_hit, kn_sec] at this
  rw [this]
  simp only [Bool.false_eq_true, if_false, Sec.last, List.getLast?_singleton, Option.getD_some]
theorem kn_read3 : (kn3.read 2 1).1 = (zeros256, 0) := by
  have hn : kn3.n = 4 := by unfold kn3 kn2; rw [kn_read, crash_n]; dsimp only; rw [tick_n, kn_n]
  have := read_one (S := kn3) (p := 2) (by rw [hn]; decide)
  rw [show ((2 : Nat) : Int) = 2 from rfl, show kn3.hit 1 = false from rfl] at this
  rw [this]
  have hs : kn3.sec 2 = ⟨zeros256, []⟩ := by
    unfold kn3
    rw [crash_nil]
    unfold kn2
    rw [kn_read]
    dsimp only
    rw [tick_sec, kn_sec]
  rw [hs]
  simp only [Bool.false_eq_true, if_false, Sec.last, List.getLast?_nil, Option.getD_none]
theorem kn_vers (S : Dk) (h : S.sec = kn1.sec ∨ S.sec = (Dk.new 4).sec) : ∀ i, (S.sec i).ver.length ≤ 2000000000000 := fun i => by
  rcases h with h | h
  · rw [h]
    unfold kn1
    rw [kn_write]
    show ((putV ((Dk.new 4).tick 2) false 2 ones256).sec i).ver.length ≤ _
    by_cases e : i = 2
    · subst e; rw [putV_false]; show 1 ≤ _; decide
    · rw [putV_sec e]; exact Nat.zero_le _
  · rw [h]; exact Nat.zero_le _
theorem row_at0 {w : World} {B g n cap : Nat} {l : List Nat} (h : IsRow w B (.slice (some ⟨g, 0, none⟩) n cap) l) (hl : 0 < l.length) : w.cell? ⟨g, 0, none⟩ = some (.int .u8 (l.getD 0 0 : Nat)) := by
  obtain ⟨a, cap', e, hb, _⟩ := h.slice
  cases e
  have := hb.at 0 hl
  simpa using this
theorem ones256_len : ones256.length = 256 := List.length_replicate
theorem ones256_data : opData 1 0 1 = ones256 := opData_one 1 1 rfl
def opBox (x : Array Value) : Obj := .cells x 29
set_option maxRecDepth 100000 in
set_option maxHeartbeats 3200000 in
theorem known_any (w : World) : Calls Try.prog 10 #[] w fun e w' => e = .returned (.bool true) ∧ Upd [] w w' := by
  have HNEW := Lib.hid (show Calls Try.prog 9 #[.int .i64 4] w fun e w' => NewX w.heap.size 4 e w' ∧ Upd [] w w' from x_new 4 (by decide) (by decide))
  go_enter Try.func10, Try.ntmps10
  go_wp2_with fail
  (with_reducible refine HNEW.out.mono ?_)
  rintro e w1 ⟨⟨d, F, rfl, hD, hF⟩, u1⟩
  have HF := Lib.hid hF
  have U1 := Lib.hid u1
  have HSZ := Lib.hid (show Calls Try.prog 26 #[.pointer (some ⟨d, 0, none⟩)] w1 fun e w' => e = .returned (.int .i64 4) ∧ w1 = w' from x_size hD)
  have u1' := (Upd.refl [] w1).alloc (.cells #[.int .i64 0, .int .i64 0, .int .i64 1, .int .i64 0, .int .i64 1, .bool false, .slice none 0 0] 29)
  have D1 := Lib.hid (hD.up u1' (by simp))
  have U1' := Lib.hid u1'
  have hdt := data_any (w := w1.alloc (.cells #[.int .i64 0, .int .i64 0, .int .i64 1, .int .i64 0, .int .i64 1, .bool false, .slice none 0 0] 29)) 0 0 1 0 1 false (.slice none 0 0)
  rw [ones256_data] at hdt
  have HDT := Lib.hid hdt
  clear hD hF u1 u1' hdt
  go_wp2_with (go_at_call 26; (with_reducible refine HSZ.out.mono ?_); rintro e w' ⟨rfl, rfl⟩)
  (with_reducible refine HDT.out.mono ?_)
  rintro e w2 ⟨⟨v2, rfl, r2⟩, u2⟩
  obtain ⟨g, cap, rfl, hg, hgl, hc1, hc2, hb⟩ := row_some r2 ones256_len (by decide)
  have hDw := D1.out.up u2 (by simp)
  have hgF : ∀ b o, (some ⟨g, 0, none⟩ : Option Addr) = some ⟨b, o, none⟩ → ¬ F b := fun b o e hf => by
    cases e
    have := D1.out.old _ hf
    omega
  have hwr := x_write (cap := cap) hDw 2 false hb hgF (by rw [ones256_len]; decide) (fun i _ => kn_vers _ (.inr rfl) i) ones256_len.symm
  rw [kn_write, show (0, (putV ((Dk.new 4).tick 2) false 2 ones256).did) = ((0 : Int), kn1) by unfold kn1; rw [kn_write]] at hwr
  have HWR := Lib.hid hwr
  have U2 := Lib.hid (U1'.out.trans u2)
  clear r2 u2 hg hgl hb hDw hgF hwr
  go_wp2_with fail
  (with_reducible refine HWR.out.mono ?_)
  rintro e w3 ⟨rfl, ⟨F3, hD3, hF3⟩, u3⟩
  have U3 := Lib.hid u3
  have HF3 := Lib.hid hF3
  have hrd := x_read hD3 2 1
  rw [kn_read] at hrd
  have HRD := Lib.hid hrd
  have HO3 := Lib.hid hD3.old
  clear hD3 hF3 u3 hrd
  go_wp2_with fail
  (with_reducible refine HRD.out.mono ?_)
  rintro e w4 ⟨⟨v4, rfl, r4⟩, hD4, u4⟩
  obtain ⟨g4, cap4, rfl, hg4, hgl4, hd1, hd2, hb4⟩ := row_some r4 ones256_len (by decide)
  have hcr := x_crash (pc := 0) hD4 (a := none) (picks := []) (fun i hi => absurd hi (Nat.not_lt_zero i)) (by simp) (by decide) (fun i _ => kn_vers _ (.inl rfl) i) (n := 0) rfl
  have HCR := Lib.hid hcr
  have HB4 := Lib.hid hb4
  have hg4F : ¬ F3 g4 := fun hf => by have := HO3.out _ hf; omega
  have HG4 := Lib.hid hg4F
  have U4 := Lib.hid u4
  clear r4 hD4 u4 hcr hb4 hg4F
  go_wp2_with fail
  (with_reducible refine HCR.out.mono ?_)
  rintro e w5 ⟨rfl, hD5, u5⟩
  have hrd5 := x_read hD5 2 1
  have he : (((kn1.tick 1).crash []).read 2 1).1 = (zeros256, 0) := by have := kn_read3; unfold kn3 kn2 at this; rw [kn_read] at this; exact this
  rw [he] at hrd5
  have HRD5 := Lib.hid hrd5
  have hb5 := HB4.out.upd2 u5 HG4.out
  have U5 := Lib.hid u5
  have HF5 := Lib.hid hD5.fd
  clear hD5 u5 hrd5 he
  go_wp2_with fail
  (with_reducible refine HRD5.out.mono ?_)
  rintro e w6 ⟨⟨v6, rfl, r6⟩, _, u6⟩
  obtain ⟨g6, cap6, rfl, hg6, hgl6, he1, he2, hb6⟩ := row_some r6 zeros256_len (by decide)
  have hx4 : w6.cell? ⟨g4, 0, none⟩ = some (.int .u8 1) := by
    have h := (hb5.upd u6 (fun b o e => by cases e; simp only [List.mem_singleton]; intro e; exact HG4.out (by rw [e]; exact HF5.out))).at 0 (by rw [ones256_len]; decide)
    exact h
  have hx6 : w6.cell? ⟨g6, 0, none⟩ = some (.int .u8 0) := by
    have h := hb6.at 0 (by rw [zeros256_len]; decide)
    exact h
  have U6 := Lib.hid u6
  clear r6 hg6 hgl6 hb6 hb5 u6
  go_wp2
  go_ret
  refine ⟨rfl, ?_⟩
  have hF : ∀ x, F x → w.heap.size ≤ x := HF.out
  have s1 := U1.out.size
  have s2 := U2.out.size
  have hF3 : ∀ x, F3 x → w.heap.size ≤ x := fun x hx => by
    rcases HF3.out x hx with e | e
    · exact hF x e
    · omega
  have hd : w.heap.size ≤ d := hF3 d HF5.out
  exact (((((U1.out.trans U2.out).p (F := fun _ => False) (fun _ h => by cases h)).step U3.out (fun x hx => .inr (hF x hx))).step (U4.out.p (F := (· = d)) (by simp)) (fun x hx => .inr (by omega))).step U5.out (fun x hx => .inr (hF3 x hx))).step (U6.out.p (F := (· = d)) (by simp)) (fun x hx => .inr (by omega)) |>.upd0
end Go.Proofs.Ytpnpjffhkaejgaa
