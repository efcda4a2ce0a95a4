/-
  PROVED HERE: plain laws on pages and images of a record as bytes. Conditions: those that each theorem names; no program's text is used.
-/
import Derived.Test.YtkahpkmofeglgaaDoorRecs
import Derived.Test.YtkahpkmofeglgaaDoorSuperRec
namespace Go.Proofs.YtkahpkmofeglgaaDoor
open Go.RowKit

/-- A page with its number: number, kind, body. -/
structure Img where
  num : Int
  kind : Int
  body : List Nat
deriving DecidableEq
def okImg (x : Img) : Bool := decide (1 ≤ x.kind ∧ x.kind ≤ 5) && (inB x.num 1023 && decide (x.body.length = 240))
def pageBytes (x : Img) : List Nat := [80, 80, 65, 71] ++ be x.kind.toNat 1 ++ be x.num.toNat 4 ++ [0, 0, 0] ++ x.body
def putPage (x : Img) : Option (List Nat) := if okImg x then some (frame (pageBytes x)) else none
def okImage (e s : Int) (x : Img) : Bool := okImg x && (inB e 4294967295 && inB s 1099511627775)
def imageBytes (e s : Int) (x : Img) : List Nat := be x.kind.toNat 1 ++ be x.num.toNat 2 ++ be e.toNat 4 ++ be s.toNat 5 ++ x.body
def putImage (e s : Int) (x : Img) : Option (List Nat) := if okImage e s x then some (frame (imageBytes e s x)) else none
theorem okImg_parts {x : Img} (h : okImg x = true) : 1 ≤ x.kind ∧ x.kind ≤ 5 ∧ 0 ≤ x.num ∧ x.num ≤ 1023 ∧ x.body.length = 240 := by
  unfold okImg at h
  simp only [Bool.and_eq_true, decide_eq_true_eq, inB_true] at h
  omega
theorem pageBytes_len (x : Img) : (pageBytes x).length = 12 + x.body.length := by
  unfold pageBytes
  simp only [List.length_append, be_len, List.length_cons, List.length_nil]
theorem imageBytes_len (e s : Int) (x : Img) : (imageBytes e s x).length = 12 + x.body.length := by
  unfold imageBytes
  simp only [List.length_append, be_len]
theorem pageBytes_ok {x : Img} (h : BytesOk x.body) : BytesOk (pageBytes x) := by
  unfold pageBytes
  refine BytesOk.append (BytesOk.append (BytesOk.append (BytesOk.append ?_ (BytesOk.be _ _)) (BytesOk.be _ _)) ?_) h <;> intro y hy <;> simp at hy <;> omega
theorem imageBytes_ok {e s : Int} {x : Img} (h : BytesOk x.body) : BytesOk (imageBytes e s x) := by
  unfold imageBytes
  exact BytesOk.append (BytesOk.append (BytesOk.append (BytesOk.append (BytesOk.be _ _) (BytesOk.be _ _)) (BytesOk.be _ _)) (BytesOk.be _ _)) h

/-- What is read of a sector as an image of a record. -/
def imgOf (l : List Nat) : Img := ⟨numi (seg l 1 2), numi (seg l 0 1), seg l 12 240⟩
def sumL (l : List Nat) : Bool := decide (l.length = 256 ∧ l.drop 252 = le4 (crc (l.take 252)))
/-- As the program reads: epoch, seq, image. -/
def getImage (l : List Nat) : Option (Int × Int × Img) :=
  if sumL l && (decide (1 ≤ (imgOf l).kind ∧ (imgOf l).kind ≤ 5) && inB (imgOf l).num 1023) then some (numi (seg l 3 4), numi (seg l 7 5), imgOf l) else none
/-- As the document reads. -/
def refImage (l : List Nat) : Option (Int × Int × Img) :=
  if decide (l.length = 256) && (okImage (numi (seg l 3 4)) (numi (seg l 7 5)) (imgOf l) && decide (frame (imageBytes (numi (seg l 3 4)) (numi (seg l 7 5)) (imgOf l)) = l)) then some (numi (seg l 3 4), numi (seg l 7 5), imgOf l) else none
theorem seg_nat {l : List Nat} (h : BytesOk l) (a k : Nat) (hk : k ≤ 7) : numi (seg l a k) = (num (seg l a k) : Int) := numi_eq (seg_ok h _ _) (by rw [seg_len]; exact hk)
theorem seg_bound {l : List Nat} (h : BytesOk l) (a k : Nat) : num (seg l a k) < 256 ^ k := by
  have := num_lt (seg_ok h a k)
  rwa [seg_len] at this
theorem seg_be {l : List Nat} (h : BytesOk l) (a k : Nat) (hk : k ≤ 7) : be (numi (seg l a k)).toNat k = seg l a k := by
  rw [seg_nat h a k hk, Int.toNat_natCast]
  have := be_num (seg_ok h a k)
  rwa [seg_len] at this
theorem imageBytes_of {l : List Nat} (h : BytesOk l) (hl : l.length = 256) : imageBytes (numi (seg l 3 4)) (numi (seg l 7 5)) (imgOf l) = l.take 252 := by
  unfold imageBytes imgOf
  rw [seg_be h 0 1 (by decide), seg_be h 1 2 (by decide), seg_be h 3 4 (by decide), seg_be h 7 5 (by decide)]
  rw [seg_eq (by omega), seg_eq (by omega), seg_eq (by omega), seg_eq (by omega), seg_eq (by omega)]
  rw [show (252 : Nat) = 1 + (2 + (4 + (5 + 240))) from rfl]
  simp only [List.take_add, List.drop_drop, List.drop_zero, List.append_assoc]
theorem okImage_of {l : List Nat} (h : BytesOk l) (_hl : l.length = 256) : okImage (numi (seg l 3 4)) (numi (seg l 7 5)) (imgOf l) = (decide (1 ≤ (imgOf l).kind ∧ (imgOf l).kind ≤ 5) && inB (imgOf l).num 1023) := by
  have h1 : inB (numi (seg l 3 4)) 4294967295 = true := by
    rw [inB_true, seg_nat h 3 4 (by decide)]
    have := seg_bound h 3 4
    have e : (256 : Nat) ^ 4 = 4294967296 := by decide
    omega
  have h2 : inB (numi (seg l 7 5)) 1099511627775 = true := by
    rw [inB_true, seg_nat h 7 5 (by decide)]
    have := seg_bound h 7 5
    have e : (256 : Nat) ^ 5 = 1099511627776 := by decide
    omega
  have h3 : decide ((imgOf l).body.length = 240) = true := by unfold imgOf; rw [seg_len]; rfl
  unfold okImage okImg
  rw [h1, h2, h3]
  simp
theorem getImage_ref {l : List Nat} (h : BytesOk l) : getImage l = refImage l := by
  unfold getImage refImage
  by_cases hl : l.length = 256
  · rw [okImage_of h hl, decide_eq_true hl]
    have hm := imageBytes_of h hl
    have hmn : (imageBytes (numi (seg l 3 4)) (numi (seg l 7 5)) (imgOf l)).length = 252 := by rw [hm, List.length_take]; omega
    have hiff := frame_iff (m := imageBytes (numi (seg l 3 4)) (numi (seg l 7 5)) (imgOf l)) (l := l) (by omega)
    have e : sumL l = decide (frame (imageBytes (numi (seg l 3 4)) (numi (seg l 7 5)) (imgOf l)) = l) := by
      rw [Bool.eq_iff_iff]
      unfold sumL
      simp only [decide_eq_true_eq, hiff, hmn]
      have hd : (l.take 252).drop 252 = [] := List.drop_of_length_le (by rw [List.length_take]; omega)
      rw [hm, hd]
      simp [bare]
    rw [e]
    simp only [Bool.true_and]
    rw [Bool.and_comm]
  · unfold sumL
    rw [decide_eq_false hl, decide_eq_false (fun hc => hl hc.1), Bool.false_and, Bool.false_and]
theorem take_app {a b : List Nat} {n : Nat} (h : a.length = n) : (a ++ b).take n = a := List.take_left' h
theorem drop_app {a b : List Nat} {n : Nat} (h : a.length = n) : (a ++ b).drop n = b := List.drop_left' h
theorem numi_be {n : Int} {k : Nat} {m : Int} (h : inB n m = true) (hk : k ≤ 7) (hm : m < ((256 ^ k : Nat) : Int)) : numi (be n.toNat k) = n := by
  have hn := inB_true.1 h
  rw [numi_eq (be_lt _ _) (by rw [be_len]; exact hk), num_be_of_lt (by omega)]
  omega
theorem seg_app {p a q : List Nat} {i k : Nat} (hp : p.length = i) (ha : a.length = k) : seg (p ++ (a ++ q)) i k = a := by
  rw [seg_eq (by simp; omega), drop_app hp, take_app ha]
theorem imgOf_bytes {e s : Int} {x : Img} (ho : okImage e s x = true) (q : List Nat) :
    imgOf (imageBytes e s x ++ q) = x ∧ numi (seg (imageBytes e s x ++ q) 3 4) = e ∧ numi (seg (imageBytes e s x ++ q) 7 5) = s := by
  unfold okImage at ho
  simp only [Bool.and_eq_true] at ho
  obtain ⟨hx, he, hs⟩ := ho
  obtain ⟨h1, h2, h3, h4, h5⟩ := okImg_parts hx
  have e0 : imageBytes e s x ++ q = [] ++ (be x.kind.toNat 1 ++ (be x.num.toNat 2 ++ (be e.toNat 4 ++ (be s.toNat 5 ++ (x.body ++ q))))) := by
    unfold imageBytes; simp only [List.append_assoc, List.nil_append]
  have e1 : imageBytes e s x ++ q = be x.kind.toNat 1 ++ (be x.num.toNat 2 ++ (be e.toNat 4 ++ (be s.toNat 5 ++ (x.body ++ q)))) := by rw [e0]; rfl
  have e2 : imageBytes e s x ++ q = (be x.kind.toNat 1 ++ be x.num.toNat 2) ++ (be e.toNat 4 ++ (be s.toNat 5 ++ (x.body ++ q))) := by rw [e1]; simp only [List.append_assoc]
  have e3 : imageBytes e s x ++ q = (be x.kind.toNat 1 ++ be x.num.toNat 2 ++ be e.toNat 4) ++ (be s.toNat 5 ++ (x.body ++ q)) := by rw [e1]; simp only [List.append_assoc]
  have e4 : imageBytes e s x ++ q = (be x.kind.toNat 1 ++ be x.num.toNat 2 ++ be e.toNat 4 ++ be s.toNat 5) ++ (x.body ++ q) := by rw [e1]; simp only [List.append_assoc]
  have s0 := seg_app (q := be x.num.toNat 2 ++ (be e.toNat 4 ++ (be s.toNat 5 ++ (x.body ++ q)))) (p := []) (i := 0) rfl (be_len x.kind.toNat 1)
  have s1 := seg_app (q := be e.toNat 4 ++ (be s.toNat 5 ++ (x.body ++ q))) (p := be x.kind.toNat 1) (i := 1) (be_len _ _) (be_len x.num.toNat 2)
  have s2 := seg_app (q := be s.toNat 5 ++ (x.body ++ q)) (p := be x.kind.toNat 1 ++ be x.num.toNat 2) (i := 3) (by simp [be_len]) (be_len e.toNat 4)
  have s3 := seg_app (q := x.body ++ q) (p := be x.kind.toNat 1 ++ be x.num.toNat 2 ++ be e.toNat 4) (i := 7) (by simp [be_len]) (be_len s.toNat 5)
  have s4 := seg_app (q := q) (p := be x.kind.toNat 1 ++ be x.num.toNat 2 ++ be e.toNat 4 ++ be s.toNat 5) (i := 12) (by simp [be_len]) h5
  rw [← e0] at s0
  rw [← e1] at s1
  rw [← e2] at s2
  rw [← e3] at s3
  rw [← e4] at s4
  refine ⟨?_, ?_, ?_⟩
  · unfold imgOf
    rw [s0, s1, s4, numi_be (m := 1023) (by rw [inB_true]; omega) (by decide) (by decide), numi_be (m := 5) (by rw [inB_true]; omega) (by decide) (by decide)]
  · rw [s2, numi_be he (by decide) (by decide)]
  · rw [s3, numi_be hs (by decide) (by decide)]
theorem getImage_nil : getImage [] = none := by
  unfold getImage sumL
  rw [if_neg]
  simp
theorem getImage_of_put {e s : Int} {x : Img} (hb : BytesOk x.body) : getImage ((putImage e s x).getD []) = if okImage e s x then some (e, s, x) else none := by
  unfold putImage
  cases ho : okImage e s x
  · exact getImage_nil
  · rw [if_pos rfl, Option.getD_some, if_pos rfl, getImage_ref (frame_ok (imageBytes_ok hb))]
    obtain ⟨q, hq⟩ := frame_split (imageBytes e s x)
    obtain ⟨h1, h2, h3⟩ := imgOf_bytes ho q
    rw [← hq] at h1 h2 h3
    have hl : (frame (imageBytes e s x)).length = 256 := frame_len (by
      have := (okImg_parts (by unfold okImage at ho; simp only [Bool.and_eq_true] at ho; exact ho.1)).2.2.2.2
      rw [imageBytes_len]; omega)
    unfold refImage
    rw [h1, h2, h3, ho, decide_eq_true hl]
    simp
end Go.Proofs.YtkahpkmofeglgaaDoor
