/-
  PROVED HERE: what a request is refused by, but for its keys, is the plain function. Conditions: those that each theorem names.
-/
import Derived.Test.YtlhdjgibkiffaaaGreatDoorLogK
import Derived.Deep.DeepCutAuto
namespace Go.Proofs.YtlhdjgibkiffaaaGreatDoor
open Go.RowKit Go.Shelf
/-- A request's cells. -/
structure PdIs (A : Array Value) (p : Pd) (dv : Value) : Prop where
  c0 : A[0]? = some (.int .i64 p.op)
  c1 : A[1]? = some (.bool p.imm)
  c2 : A[2]? = some (.int .i64 (p.flags : Nat))
  c3 : A[3]? = some (.int .i64 (p.info : Nat))
  c4 : A[4]? = some (.int .i64 p.wide)
  c5 : A[5]? = some (.int .i64 p.short)
  c6 : A[6]? = some (.int .i64 p.tag)
  c26 : A[26]? = some dv
  size : A.size = 27
  one : A.toList.all Value.oneCell' = true
  hf : p.flags < 256
  hi : p.info < 65536
theorem bits_flags : ∀ f : Fin 256, bits .and .i64 ((f.val : Nat) : Int) 3 = ((f.val % 4 : Nat) : Int) ∧ bits .and .i64 ((f.val : Nat) : Int) 112 = ((f.val / 16 % 8 * 16 : Nat) : Int) ∧ bits .and .i64 ((f.val : Nat) : Int) 128 = ((f.val / 128 * 128 : Nat) : Int) := by decide +kernel
theorem i64_and255 (n : Int) : bits .and .i64 n 255 = n % 256 := by
  have h255 : (BitVec.ofInt 64 255).toNat = 2 ^ 8 - 1 := by decide
  have key : (BitVec.ofInt 64 n &&& BitVec.ofInt 64 255).toNat = (n % ((2 ^ 64 : Nat) : Int)).toNat % 2 ^ 8 := by
    rw [BitVec.toNat_and, BitVec.toNat_ofInt, h255, Nat.and_two_pow_sub_one_eq_mod]
  show IntKind.i64.wrap ((BitVec.ofInt 64 n &&& BitVec.ofInt 64 255).toNat : Nat) = n % 256
  rw [key, IntKind.wrap_i64]
  omega
set_option maxRecDepth 100000 in
set_option maxHeartbeats 16000000 in
theorem refused_any {W : World} {b c m mb : Nat} {l x : Lg} {A : Array Value} {p : Pd} {dv : Value} (hl : LgAt W b mb l) (ht : TuAt W c b m (decide (l.taken = 0)) (stageOf p) x) (hp : PdIs A p dv) (hlt : l.taken ≤ 8) (hcb : c ≠ b) :
    Calls Tryz.prog 18 #[.pointer (some ⟨c, 0, none⟩), .agg A] W fun e W' => e = .returned (.int .i64 (refusedP l p)) ∧ Below W.heap.size W W' := by
  have hb1 : Below W.heap.size W (W.alloc (.cells A 37)) := (Below.refl _ _).alloc (Nat.le_refl _) _
  have hl1 := hl.below hb1
  have ht1 := ht.upd (Upd.of_below hb1) (by simp) (by simp)
  have a0 := alloc_last W (.cells A 37)
  have hbl := hl1.lt
  have hcl := ht1.lt
  have z0 : (W.alloc (.cells A 37)).cell? ⟨W.heap.size, 0, none⟩ = some (.int .i64 p.op) := ((cells_of a0).1 0).trans hp.c0
  have z1 : (W.alloc (.cells A 37)).cell? ⟨W.heap.size, 1, none⟩ = some (.bool p.imm) := ((cells_of a0).1 1).trans hp.c1
  have z2 : (W.alloc (.cells A 37)).cell? ⟨W.heap.size, 2, none⟩ = some (.int .i64 (p.flags : Nat)) := ((cells_of a0).1 2).trans hp.c2
  have z3 : (W.alloc (.cells A 37)).cell? ⟨W.heap.size, 3, none⟩ = some (.int .i64 (p.info : Nat)) := ((cells_of a0).1 3).trans hp.c3
  have z4 : (W.alloc (.cells A 37)).cell? ⟨W.heap.size, 4, none⟩ = some (.int .i64 p.wide) := ((cells_of a0).1 4).trans hp.c4
  have z5 : (W.alloc (.cells A 37)).cell? ⟨W.heap.size, 5, none⟩ = some (.int .i64 p.short) := ((cells_of a0).1 5).trans hp.c5
  have z6 : (W.alloc (.cells A 37)).cell? ⟨W.heap.size, 6, none⟩ = some (.int .i64 p.tag) := ((cells_of a0).1 6).trans hp.c6
  have t0 := ht1.cell 0; have t1 := ht1.cell 1; have t2 := ht1.cell 2
  have l1 := (cells_of hl1.obj).1 1; have l2 := (cells_of hl1.obj).1 2; have l6 := (cells_of hl1.obj).1 6; have l7 := (cells_of hl1.obj).1 7; have l8 := (cells_of hl1.obj).1 8; have l9 := (cells_of hl1.obj).1 9
  simp only [List.getElem?_toArray, List.getElem?_cons_zero, List.getElem?_cons_succ] at t0 t1 t2 l1 l2 l6 l7 l8 l9
  have HB1 := Lib.hid hb1
  have q0 := hp.c0; have q1 := hp.c1; have q2 := hp.c2; have q3 := hp.c3; have q4 := hp.c4; have q5 := hp.c5; have q6 := hp.c6
  have hf := hp.hf
  have hi := hp.hi
  clear hl ht hp hb1 hl1 ht1 a0
  have b3 : bits BinOp.and IntKind.i64 (p.flags : Nat) 3 = (toOf p : Nat) := (bits_flags ⟨p.flags, hf⟩).1
  have B112 := Lib.hid (show bits BinOp.and IntKind.i64 (p.flags : Nat) 112 = ((p.flags / 16 % 8 * 16 : Nat) : Int) from (bits_flags ⟨p.flags, hf⟩).2.1)
  have B128 := Lib.hid (show bits BinOp.and IntKind.i64 (p.flags : Nat) 128 = ((p.flags / 128 * 128 : Nat) : Int) from (bits_flags ⟨p.flags, hf⟩).2.2)
  have B255 := Lib.hid (i64_and255 p.info)
  have HF := Lib.hid hf
  clear hf hi
  -- the ways out, by gen-logr.py
  cases ho : l.over
  case true =>
    rw [ho] at l9
    have HE := Lib.hid (show refusedP l p = 523 by unfold refusedP; simp [ho] <;> first | omega | (intro _; omega))
    generalize decide (l.taken = 0) = first at *
    generalize stageOf p = st at *
    generalize toOf p = tt at *
    go_enter Tryz.func18, Tryz.ntmps18
    go_wp2_with fail
    go_quiet (fail)
    go_wp2
    go_ret
    refine ⟨by rw [HE.out]; rfl, ?_⟩
    repeat (refine below_drewN ?_ _)
    exact HB1.out
  case false =>
    rw [ho] at l9
    by_cases hop : p.op = 3
    case neg =>
      have hx1 : (p.op != 3) = true := bne_iff_ne.2 hop
      have HE := Lib.hid (show refusedP l p = 523 by unfold refusedP; simp [ho, hop] <;> first | omega | (intro _; omega))
      generalize decide (l.taken = 0) = first at *
      generalize stageOf p = st at *
      generalize toOf p = tt at *
      go_enter Tryz.func18, Tryz.ntmps18
      go_wp2_with fail
      go_quiet (fail)
      go_wp2
      go_ret
      refine ⟨by rw [HE.out]; rfl, ?_⟩
      repeat (refine below_drewN ?_ _)
      exact HB1.out
    case pos =>
      have hx1 : (p.op != 3) = false := bne_eq_false_iff_eq.2 hop
      cases him : p.imm
      case false =>
        rw [him] at z1 q1
        have HE := Lib.hid (show refusedP l p = 523 by unfold refusedP; simp [ho, hop, him] <;> first | omega | (intro _; omega))
        generalize decide (l.taken = 0) = first at *
        generalize stageOf p = st at *
        generalize toOf p = tt at *
        go_enter Tryz.func18, Tryz.ntmps18
        go_wp2_with fail
        go_quiet (fail)
        go_wp2
        go_ret
        refine ⟨by rw [HE.out]; rfl, ?_⟩
        repeat (refine below_drewN ?_ _)
        exact HB1.out
      case true =>
        rw [him] at z1 q1
        by_cases h8 : l.taken = 8
        case pos =>
          have hx2 : ((l.taken : Int) == 8) = true := beq_iff_eq.2 (by omega)
          have HE := Lib.hid (show refusedP l p = 512 by unfold refusedP; simp [ho, hop, him, h8] <;> first | omega | (intro _; omega))
          generalize decide (l.taken = 0) = first at *
          generalize stageOf p = st at *
          generalize toOf p = tt at *
          go_enter Tryz.func18, Tryz.ntmps18
          go_wp2_with fail
          go_quiet (fail)
          go_wp2
          go_ret
          refine ⟨by rw [HE.out]; rfl, ?_⟩
          repeat (refine below_drewN ?_ _)
          exact HB1.out
        case neg =>
          have hx2 : ((l.taken : Int) == 8) = false := beq_eq_false_iff_ne.2 (by omega)
          by_cases h112 : p.flags / 16 % 8 = 0
          case neg =>
            have hx3 : (bits BinOp.and IntKind.i64 (p.flags : Nat) 112 != 0) = true := bne_iff_ne.2 (by rw [B112.out]; omega)
            have HE := Lib.hid (show refusedP l p = 512 by unfold refusedP; simp [ho, hop, him, h8, h112] <;> first | omega | (intro _; omega))
            generalize decide (l.taken = 0) = first at *
            generalize stageOf p = st at *
            generalize toOf p = tt at *
            go_enter Tryz.func18, Tryz.ntmps18
            go_wp2_with fail
            go_quiet (fail)
            go_wp2
            go_ret
            refine ⟨by rw [HE.out]; rfl, ?_⟩
            repeat (refine below_drewN ?_ _)
            exact HB1.out
          case pos =>
            have hx3 : (bits BinOp.and IntKind.i64 (p.flags : Nat) 112 != 0) = false := bne_eq_false_iff_eq.2 (by rw [B112.out]; omega)
            by_cases hinf : p.info % 256 = 0
            case neg =>
              have hx4 : (bits BinOp.and IntKind.i64 (p.info : Nat) 255 != 0) = true := bne_iff_ne.2 (by rw [B255.out]; omega)
              have HE := Lib.hid (show refusedP l p = 517 by unfold refusedP; simp [ho, hop, him, h8, h112, hinf] <;> first | omega | (intro _; omega))
              generalize decide (l.taken = 0) = first at *
              generalize stageOf p = st at *
              generalize toOf p = tt at *
              go_enter Tryz.func18, Tryz.ntmps18
              go_wp2_with fail
              go_quiet (fail)
              go_wp2
              go_ret
              refine ⟨by rw [HE.out]; rfl, ?_⟩
              repeat (refine below_drewN ?_ _)
              exact HB1.out
            case pos =>
              have hx4 : (bits BinOp.and IntKind.i64 (p.info : Nat) 255 != 0) = false := bne_eq_false_iff_eq.2 (by rw [B255.out]; omega)
              by_cases h0 : l.taken = 0
              case pos =>
                rw [decide_eq_true h0] at t1
                by_cases hst : 1 < stageOf p
                case pos =>
                  have hy1 : decide ((1 : Int) < (stageOf p : Int)) = true := decide_eq_true (by omega)
                  have HE := Lib.hid (show refusedP l p = 523 by unfold refusedP; simp [ho, hop, him, h8, h112, hinf, h0, hst] <;> first | omega | (intro _; omega))
                  generalize stageOf p = st at *
                  generalize toOf p = tt at *
                  go_enter Tryz.func18, Tryz.ntmps18
                  go_wp2_with fail
                  go_quiet (fail)
                  go_wp2
                  go_ret
                  refine ⟨by rw [HE.out]; rfl, ?_⟩
                  repeat (refine below_drewN ?_ _)
                  exact HB1.out
                case neg =>
                  have hy1 : decide ((1 : Int) < (stageOf p : Int)) = false := decide_eq_false (by omega)
                  by_cases h128 : 128 ≤ p.flags
                  case neg =>
                    have hx5 : (bits BinOp.and IntKind.i64 (p.flags : Nat) 128 != 0) = false := bne_eq_false_iff_eq.2 (by rw [B128.out]; have := HF.out; omega)
                    have HE := Lib.hid (show refusedP l p = 0 by unfold refusedP; simp [ho, hop, him, h8, h112, hinf, h0, hst, h128] <;> first | omega | (intro _; omega))
                    generalize stageOf p = st at *
                    generalize toOf p = tt at *
                    go_enter Tryz.func18, Tryz.ntmps18
                    go_wp2_with fail
                    go_quiet (fail)
                    go_wp2
                    go_quiet (fail)
                    go_wp2
                    go_quiet (fail)
                    go_wp2
                    go_ret
                    refine ⟨by rw [HE.out]; rfl, ?_⟩
                    repeat (refine below_drewN ?_ _)
                    exact HB1.out
                  case pos =>
                    have hx5 : (bits BinOp.and IntKind.i64 (p.flags : Nat) 128 != 0) = true := bne_iff_ne.2 (by rw [B128.out]; have := HF.out; omega)
                    by_cases hto : toOf p ≤ stageOf p
                    case pos =>
                      have hx6 : decide ((toOf p : Int) ≤ (stageOf p : Int)) = true := decide_eq_true (by omega)
                      have HE := Lib.hid (show refusedP l p = 523 by unfold refusedP; simp [ho, hop, him, h8, h112, hinf, h0, hst, h128, hto] <;> first | omega | (intro _; omega))
                      generalize stageOf p = st at *
                      generalize toOf p = tt at *
                      go_enter Tryz.func18, Tryz.ntmps18
                      go_wp2_with fail
                      go_quiet (fail)
                      go_wp2
                      go_quiet (fail)
                      go_wp2
                      go_ret
                      refine ⟨by rw [HE.out]; rfl, ?_⟩
                      repeat (refine below_drewN ?_ _)
                      exact HB1.out
                    case neg =>
                      have hx6 : decide ((toOf p : Int) ≤ (stageOf p : Int)) = false := decide_eq_false (by omega)
                      by_cases hto2 : toOf p = 2
                      case pos =>
                        have hx7 : ((toOf p : Int) == 2) = true := beq_iff_eq.2 (by omega)
                        have HE := Lib.hid (show refusedP l p = 523 by unfold refusedP; simp [ho, hop, him, h8, h112, hinf, h0, hst, h128, hto2] <;> first | omega | (intro _; omega))
                        generalize stageOf p = st at *
                        generalize toOf p = tt at *
                        go_enter Tryz.func18, Tryz.ntmps18
                        go_wp2_with fail
                        go_quiet (fail)
                        go_wp2
                        go_quiet (fail)
                        go_wp2
                        go_ret
                        refine ⟨by rw [HE.out]; rfl, ?_⟩
                        repeat (refine below_drewN ?_ _)
                        exact HB1.out
                      case neg =>
                        have hx7 : ((toOf p : Int) == 2) = false := beq_eq_false_iff_ne.2 (by omega)
                        have HE := Lib.hid (show refusedP l p = 0 by unfold refusedP; simp [ho, hop, him, h8, h112, hinf, h0, hst, h128, hto, hto2] <;> first | omega | (intro _; omega))
                        generalize stageOf p = st at *
                        generalize toOf p = tt at *
                        go_enter Tryz.func18, Tryz.ntmps18
                        go_wp2_with fail
                        go_quiet (fail)
                        go_wp2
                        go_quiet (fail)
                        go_wp2
                        go_quiet (fail)
                        go_wp2
                        go_ret
                        refine ⟨by rw [HE.out]; rfl, ?_⟩
                        repeat (refine below_drewN ?_ _)
                        exact HB1.out
              case neg =>
                rw [decide_eq_false h0] at t1
                by_cases hst : stageOf p = l.stage
                case neg =>
                  have hy1 : ((stageOf p : Int) != (l.stage : Int)) = true := bne_iff_ne.2 (by omega)
                  have HE := Lib.hid (show refusedP l p = 523 by unfold refusedP; simp [ho, hop, him, h8, h112, hinf, h0, hst] <;> first | omega | (intro _; omega))
                  generalize stageOf p = st at *
                  generalize toOf p = tt at *
                  go_enter Tryz.func18, Tryz.ntmps18
                  go_wp2_with fail
                  go_quiet (fail)
                  go_wp2
                  go_quiet (fail)
                  go_wp2
                  go_ret
                  refine ⟨by rw [HE.out]; rfl, ?_⟩
                  repeat (refine below_drewN ?_ _)
                  exact HB1.out
                case pos =>
                  have hy1 : ((stageOf p : Int) != (l.stage : Int)) = false := bne_eq_false_iff_eq.2 (by omega)
                  by_cases h128 : 128 ≤ p.flags
                  case neg =>
                    have hx5 : (bits BinOp.and IntKind.i64 (p.flags : Nat) 128 != 0) = false := bne_eq_false_iff_eq.2 (by rw [B128.out]; have := HF.out; omega)
                    by_cases hw : p.wide = l.tm.isid
                    case neg =>
                      have hy_wide : (p.wide != l.tm.isid) = true := bne_iff_ne.2 hw
                      have HE := Lib.hid (show refusedP l p = 512 by unfold refusedP; simp [ho, hop, him, h8, h112, hinf, h0, hst, h128, hw] <;> first | omega | (intro _; omega))
                      generalize stageOf p = st at *
                      generalize toOf p = tt at *
                      go_enter Tryz.func18, Tryz.ntmps18
                      go_wp2_with fail
                      go_quiet (fail)
                      go_wp2
                      go_quiet (fail)
                      go_wp2
                      go_quiet (fail)
                      go_wp2
                      go_ret
                      refine ⟨by rw [HE.out]; rfl, ?_⟩
                      repeat (refine below_drewN ?_ _)
                      exact HB1.out
                    case pos =>
                      have hy_wide : (p.wide != l.tm.isid) = false := bne_eq_false_iff_eq.2 hw
                      by_cases hs : p.short = l.tm.tsih
                      case neg =>
                        have hy_short : (p.short != l.tm.tsih) = true := bne_iff_ne.2 hs
                        have HE := Lib.hid (show refusedP l p = 512 by unfold refusedP; simp [ho, hop, him, h8, h112, hinf, h0, hst, h128, hw, hs] <;> first | omega | (intro _; omega))
                        generalize stageOf p = st at *
                        generalize toOf p = tt at *
                        go_enter Tryz.func18, Tryz.ntmps18
                        go_wp2_with fail
                        go_quiet (fail)
                        go_wp2
                        go_quiet (fail)
                        go_wp2
                        go_quiet (fail)
                        go_wp2
                        go_ret
                        refine ⟨by rw [HE.out]; rfl, ?_⟩
                        repeat (refine below_drewN ?_ _)
                        exact HB1.out
                      case pos =>
                        have hy_short : (p.short != l.tm.tsih) = false := bne_eq_false_iff_eq.2 hs
                        by_cases hg : p.tag = l.tag
                        case neg =>
                          have hy_tag : (p.tag != l.tag) = true := bne_iff_ne.2 hg
                          have HE := Lib.hid (show refusedP l p = 512 by unfold refusedP; simp [ho, hop, him, h8, h112, hinf, h0, hst, h128, hw, hs, hg] <;> first | omega | (intro _; omega))
                          generalize stageOf p = st at *
                          generalize toOf p = tt at *
                          go_enter Tryz.func18, Tryz.ntmps18
                          go_wp2_with fail
                          go_quiet (fail)
                          go_wp2
                          go_quiet (fail)
                          go_wp2
                          go_quiet (fail)
                          go_wp2
                          go_ret
                          refine ⟨by rw [HE.out]; rfl, ?_⟩
                          repeat (refine below_drewN ?_ _)
                          exact HB1.out
                        case pos =>
                          have hy_tag : (p.tag != l.tag) = false := bne_eq_false_iff_eq.2 hg
                          have HE := Lib.hid (show refusedP l p = 0 by unfold refusedP; simp [ho, hop, him, h8, h112, hinf, h0, hst, h128, hw, hs, hg] <;> first | omega | (intro _; omega))
                          generalize stageOf p = st at *
                          generalize toOf p = tt at *
                          go_enter Tryz.func18, Tryz.ntmps18
                          go_wp2_with fail
                          go_quiet (fail)
                          go_wp2
                          go_quiet (fail)
                          go_wp2
                          go_quiet (fail)
                          go_wp2
                          go_ret
                          refine ⟨by rw [HE.out]; rfl, ?_⟩
                          repeat (refine below_drewN ?_ _)
                          exact HB1.out
                  case pos =>
                    have hx5 : (bits BinOp.and IntKind.i64 (p.flags : Nat) 128 != 0) = true := bne_iff_ne.2 (by rw [B128.out]; have := HF.out; omega)
                    by_cases hto : toOf p ≤ stageOf p
                    case pos =>
                      have hx6 : decide ((toOf p : Int) ≤ (stageOf p : Int)) = true := decide_eq_true (by omega)
                      have HE := Lib.hid (show refusedP l p = 523 by unfold refusedP; simp [ho, hop, him, h8, h112, hinf, h0, hst, h128, hto] <;> first | omega | (intro _; omega))
                      generalize stageOf p = st at *
                      generalize toOf p = tt at *
                      go_enter Tryz.func18, Tryz.ntmps18
                      go_wp2_with fail
                      go_quiet (fail)
                      go_wp2
                      go_quiet (fail)
                      go_wp2
                      go_ret
                      refine ⟨by rw [HE.out]; rfl, ?_⟩
                      repeat (refine below_drewN ?_ _)
                      exact HB1.out
                    case neg =>
                      have hx6 : decide ((toOf p : Int) ≤ (stageOf p : Int)) = false := decide_eq_false (by omega)
                      by_cases hto2 : toOf p = 2
                      case pos =>
                        have hx7 : ((toOf p : Int) == 2) = true := beq_iff_eq.2 (by omega)
                        have HE := Lib.hid (show refusedP l p = 523 by unfold refusedP; simp [ho, hop, him, h8, h112, hinf, h0, hst, h128, hto2] <;> first | omega | (intro _; omega))
                        generalize stageOf p = st at *
                        generalize toOf p = tt at *
                        go_enter Tryz.func18, Tryz.ntmps18
                        go_wp2_with fail
                        go_quiet (fail)
                        go_wp2
                        go_quiet (fail)
                        go_wp2
                        go_ret
                        refine ⟨by rw [HE.out]; rfl, ?_⟩
                        repeat (refine below_drewN ?_ _)
                        exact HB1.out
                      case neg =>
                        have hx7 : ((toOf p : Int) == 2) = false := beq_eq_false_iff_ne.2 (by omega)
                        by_cases hw : p.wide = l.tm.isid
                        case neg =>
                          have hy_wide : (p.wide != l.tm.isid) = true := bne_iff_ne.2 hw
                          have HE := Lib.hid (show refusedP l p = 512 by unfold refusedP; simp [ho, hop, him, h8, h112, hinf, h0, hst, h128, hto, hto2, hw] <;> first | omega | (intro _; omega))
                          generalize stageOf p = st at *
                          generalize toOf p = tt at *
                          go_enter Tryz.func18, Tryz.ntmps18
                          go_wp2_with fail
                          go_quiet (fail)
                          go_wp2
                          go_quiet (fail)
                          go_wp2
                          go_quiet (fail)
                          go_wp2
                          go_ret
                          refine ⟨by rw [HE.out]; rfl, ?_⟩
                          repeat (refine below_drewN ?_ _)
                          exact HB1.out
                        case pos =>
                          have hy_wide : (p.wide != l.tm.isid) = false := bne_eq_false_iff_eq.2 hw
                          by_cases hs : p.short = l.tm.tsih
                          case neg =>
                            have hy_short : (p.short != l.tm.tsih) = true := bne_iff_ne.2 hs
                            have HE := Lib.hid (show refusedP l p = 512 by unfold refusedP; simp [ho, hop, him, h8, h112, hinf, h0, hst, h128, hto, hto2, hw, hs] <;> first | omega | (intro _; omega))
                            generalize stageOf p = st at *
                            generalize toOf p = tt at *
                            go_enter Tryz.func18, Tryz.ntmps18
                            go_wp2_with fail
                            go_quiet (fail)
                            go_wp2
                            go_quiet (fail)
                            go_wp2
                            go_quiet (fail)
                            go_wp2
                            go_ret
                            refine ⟨by rw [HE.out]; rfl, ?_⟩
                            repeat (refine below_drewN ?_ _)
                            exact HB1.out
                          case pos =>
                            have hy_short : (p.short != l.tm.tsih) = false := bne_eq_false_iff_eq.2 hs
                            by_cases hg : p.tag = l.tag
                            case neg =>
                              have hy_tag : (p.tag != l.tag) = true := bne_iff_ne.2 hg
                              have HE := Lib.hid (show refusedP l p = 512 by unfold refusedP; simp [ho, hop, him, h8, h112, hinf, h0, hst, h128, hto, hto2, hw, hs, hg] <;> first | omega | (intro _; omega))
                              generalize stageOf p = st at *
                              generalize toOf p = tt at *
                              go_enter Tryz.func18, Tryz.ntmps18
                              go_wp2_with fail
                              go_quiet (fail)
                              go_wp2
                              go_quiet (fail)
                              go_wp2
                              go_quiet (fail)
                              go_wp2
                              go_ret
                              refine ⟨by rw [HE.out]; rfl, ?_⟩
                              repeat (refine below_drewN ?_ _)
                              exact HB1.out
                            case pos =>
                              have hy_tag : (p.tag != l.tag) = false := bne_eq_false_iff_eq.2 hg
                              have HE := Lib.hid (show refusedP l p = 0 by unfold refusedP; simp [ho, hop, him, h8, h112, hinf, h0, hst, h128, hto, hto2, hw, hs, hg] <;> first | omega | (intro _; omega))
                              generalize stageOf p = st at *
                              generalize toOf p = tt at *
                              go_enter Tryz.func18, Tryz.ntmps18
                              go_wp2_with fail
                              go_quiet (fail)
                              go_wp2
                              go_quiet (fail)
                              go_wp2
                              go_quiet (fail)
                              go_wp2
                              go_ret
                              refine ⟨by rw [HE.out]; rfl, ?_⟩
                              repeat (refine below_drewN ?_ _)
                              exact HB1.out
end Go.Proofs.YtlhdjgibkiffaaaGreatDoor
