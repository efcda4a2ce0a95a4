/-
  PROVED HERE: the document's disk: Write of any bytes; Dirty. Conditions: those that each theorem names.
-/
import Derived.Test.YtpnpjffhkaejgaaGreatDoorRefDE
namespace Go.Proofs.YtpnpjffhkaejgaaGreatDoor
open Go.RowKit

theorem rwrite_any {w : World} {r : Nat} {F : Nat → Prop} {S : Dk} (h : RefX w r F S) (p : Int) {a : Option Addr} {data : List Nat} {cap n : Nat} (fua : Bool) (hb : IsBytes w a data) (hbf : ∀ b o, a = some ⟨b, o, none⟩ → ¬ F b) (hlen : data.length ≤ cap) (hcap : cap ≤ 9223372036854775807) (hvl : ∀ i, i < S.n → (S.sec i).ver.length ≤ 2000000000000) (hn : n = data.length) :
    Calls Tryz.prog 23 #[.pointer (some ⟨r, 0, none⟩), .int .i64 p, .slice a n cap, .bool fua] w fun e w' => e = .returned (.int .i64 (S.write p data fua).1) ∧ RWrote w' r F w.heap.size (S.write p data fua).2 ∧ UpdP F w w' := by
  subst hn
  have hno : ∀ (_ : data.length = 0 ∨ data.length % 256 ≠ 0 ∨ (data.length ≠ 0 ∧ data.length % 256 = 0 ∧ (S.there p ((data.length / 256 : Nat) : Int) = false ∨ (S.there p ((data.length / 256 : Nat) : Int) = true ∧ (S.hit 2 = true ∨ (S.hit 2 = false ∧ S.down = true)))))), _ := fun hn => (rwrite_no (cap := cap) (a := a) h p fua (by omega) hn).mono fun e w' ⟨h1, h2, h3⟩ => (⟨h1, ⟨F, h2, fun x hx => .inl hx⟩, h3⟩ : e = Ending.returned (.int .i64 (S.write p data fua).1) ∧ RWrote w' r F w.heap.size (S.write p data fua).2 ∧ UpdP F w w')
  by_cases hbad : data.length = 0 ∨ data.length % 256 ≠ 0
  · exact hno (by rcases hbad with e | e; exact .inl e; exact .inr (.inl e))
  · have h0 : data.length ≠ 0 := by omega
    have h1 : data.length % 256 = 0 := by omega
    cases ht : S.there p ((data.length / 256 : Nat) : Int)
    · exact hno (.inr (.inr ⟨h0, h1, .inl ht⟩))
    · cases hh : S.hit 2
      · cases hd : S.down
        · obtain ⟨t1, t2, t3, t4⟩ := there_true ht
          obtain ⟨q, rfl⟩ := Int.eq_ofNat_of_zero_le t1
          have hc : data.length = 256 * (data.length / 256) := by omega
          have e1 : (S.write (q : Nat) data fua).1 = 0 := by rw [write_done hc (by omega) (by omega) hh hd]
          rw [e1]
          obtain ⟨b, o, rfl, _⟩ := hb.2 0 (by omega)
          have := rwrite_yes (cap := cap) h q (data.length / 256) fua hb (hbf b o rfl) hc (by omega) hcap (by omega) (by omega) hh hd hvl
          rw [← hc] at this
          exact this
        · exact hno (.inr (.inr ⟨h0, h1, .inr ⟨ht, .inr ⟨hh, hd⟩⟩⟩))
      · exact hno (.inr (.inr ⟨h0, h1, .inr ⟨ht, .inl hh⟩⟩))
def dirtyK (S : Dk) (k : Nat) : List Nat := (List.range k).filter fun i => !(S.sec i).ver.isEmpty
theorem dirtyK_succ (S : Dk) (k : Nat) : dirtyK S (k + 1) = dirtyK S k ++ if (S.sec k).ver = [] then [] else [k] := by
  unfold dirtyK
  rw [List.range_succ, List.filter_append]
  congr 1
  by_cases h : (S.sec k).ver = []
  · simp [h]
  · have : (S.sec k).ver.isEmpty = false := by simpa using h
    simp [h]
theorem dirtyK_len (S : Dk) (k : Nat) : (dirtyK S k).length ≤ k := by
  have := List.length_filter_le (fun i => !(S.sec i).ver.isEmpty) (List.range k)
  rwa [List.length_range] at this
theorem infoInt' : (Tryz.prog.info? 3).map (fun i => (i.zero, i.size, i.bytes)) = some (some (.int .i64 0), 1, 8) := by kernel_rfl
set_option maxRecDepth 100000 in
set_option maxHeartbeats 3200000 in
theorem rdirty_any {w : World} {r : Nat} {L : RLay} {F : Nat → Prop} {S : Dk} (h : IsRef w r L F S) :
    Calls Tryz.prog 30 #[.pointer (some ⟨r, 0, none⟩)] w fun e w' => DirtyOut w.heap.size S.dirty e w' ∧ Upd [] w w' := by
  have HD := Lib.hid h
  have n2 := h.ok.n2
  obtain ⟨i0, hi0, iz0, iz1, iz2⟩ := info_parts infoInt'
  have HI0 := Lib.hid hi0
  have HI1 := Lib.hid iz0
  have HI2 := Lib.hid iz1
  have HI3 := Lib.hid iz2
  clear h hi0 iz0 iz1 iz2
  go_enter Tryz.func30, Tryz.ntmps30
  go_wp2
  go_loopw [3, 4] (fun v i wr => ∃ k : Nat, k ≤ S.n ∧ i = .int .i64 k ∧ wr.ownsRow w.heap.size 3 1 v (dirtyK S k).length (nats (dirtyK S k)) ∧ Upd [] w wr) (fun _ i _ => S.n - (RowKit.intOf i).toNat)
  case atStart => exact ⟨0, Nat.zero_le _, rfl, ⟨rfl, .inl ⟨rfl, rfl⟩⟩, Upd.refl _ _⟩
  case round =>
    obtain ⟨k, hk, rfl, hV, hU⟩ := hrel
    have DR := HD.out.up hU (by simp)
    obtain ⟨c0, _⟩ := rcell DR.hd
    have HV := Lib.hid hV
    have HU := Lib.hid hU
    by_cases hlt : k < S.n
    · obtain ⟨k1, k2⟩ := DR.cells k hlt
      have hlt' : (k : Int) < S.n := by omega
      have HS := Lib.hid (dirtyK_succ S k)
      have hdl := dirtyK_len S k
      by_cases hv : (S.sec k).ver = []
      · have hvv : ∃ a c, L.vv k = .slice a 0 c := by
          rcases (DR.ver k hlt).2 with ⟨e, _⟩ | ⟨g, cap, cur, e, _⟩
          · exact ⟨none, 0, e⟩
          · exact ⟨_, cap, by rw [e, hv]; rfl⟩
        obtain ⟨a, c, hvv⟩ := hvv
        rw [hvv] at k2
        have HE := Lib.hid hv
        clear hV hU DR hv hvv
        go_wp2
        go_roundw
        case rel => exact ⟨k + 1, by omega, by go_num, by rw [HS.out, if_pos HE.out, List.append_nil]; exact HV.out, HU.out⟩
        case measure => simp [RowKit.intOf]; omega
      · have hpos : 0 < (S.sec k).ver.length := List.length_pos_iff.2 hv
        obtain ⟨g, cap, hvv, hcm, hcl, _⟩ := DR.head_at (j := 0) hlt hpos
        rw [hvv] at k2
        obtain ⟨m, hm⟩ : ∃ m, (S.sec k).ver.length = m + 1 := ⟨(S.sec k).ver.length - 1, by omega⟩
        rw [hm] at k2 hcl
        have hml : m + 1 ≤ 9223372036854775807 := by omega
        have HE := Lib.hid hv
        have HVA := Lib.hid (ownsRow_upd HV.out ((Upd.refl [] wr).alloc (.cells #[.int .i64 (k : Nat)] 3)) (by simp))
        clear hV hU DR hv hvv hpos hm
        go_wp2_with (at_builtin; refine wpList_append_blk _ rfl (.tmp 24) (.tmp 26) 35 rfl w.heap.size 3 i0 _ 1 8 Tryz.underlying35 HI0.out HI1.out HI2.out HI3.out rfl (by decide) _ _ _ rfl HVA.out ⟨wr.heap.size, 0, none⟩ 1 1 [.int .i64 (k : Nat)] rfl rfl (news_at _ _ _) (by simp [Value.oneCell']) (by unfold maxLen; omega) (by omega) (by have := HU.out.size; simp; omega) ?_; intro v' w3 hn3 hx3; have HN3 := Lib.hid hn3; have HX3 := Lib.hid hx3; clear hn3 hx3)
        go_roundw
        case rel =>
          refine ⟨k + 1, by omega, by go_num, ?_, (HU.out.alloc _).step HX3.out.upd fun x hx => .inr (ownsRow_block HV.out x hx)⟩
          rw [HS.out, if_neg HE.out, List.length_append, List.length_singleton]
          have := HN3.out
          rw [show nats (dirtyK S k ++ [k]) = nats (dirtyK S k) ++ [.int .i64 (k : Nat)] by simp [nats]]
          exact this
        case measure => simp [RowKit.intOf]; omega
    · obtain rfl : k = S.n := by omega
      clear hV hU DR
      go_wp2
      go_ret
      exact ⟨⟨_, rfl, HV.out⟩, HU.out⟩
end Go.Proofs.YtpnpjffhkaejgaaGreatDoor
