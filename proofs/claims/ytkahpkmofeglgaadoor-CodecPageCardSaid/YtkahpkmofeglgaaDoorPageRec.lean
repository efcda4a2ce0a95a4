/-
  PROVED HERE: plain laws on pages as bytes. Conditions: those that each theorem names; no program's text is used.
-/
import Derived.Test.YtkahpkmofeglgaaDoorImageRec
namespace Go.Proofs.YtkahpkmofeglgaaDoor
open Go.RowKit

def zero256 : List Nat := List.replicate 256 0
def pageImg (l : List Nat) (n : Int) : Img := ⟨n, numi (seg l 4 1), seg l 12 240⟩
def pageTest (l : List Nat) (n : Int) : Bool := decide (1 ≤ numi (seg l 4 1) ∧ numi (seg l 4 1) ≤ 5) && (inB n 1023 && (decide (numi (seg l 5 4) = n) && decide (numi (seg l 9 3) = 0)))
/-- As the program reads: the kind and the body. -/
def getPage (l : List Nat) (n : Int) : Option (Int × List Nat) :=
  if decide (l = zero256) then some (0, []) else if soundL l [80, 80, 65, 71] && pageTest l n then some (numi (seg l 4 1), seg l 12 240) else none
/-- As the document reads. -/
def refPage (l : List Nat) (n : Int) : Option (Int × List Nat) :=
  if decide (l = zero256) then some (0, []) else if decide (l.length = 256) && (okImg (pageImg l n) && decide (frame (pageBytes (pageImg l n)) = l)) then some (numi (seg l 4 1), seg l 12 240) else none
theorem pageBytes_of {l : List Nat} {n : Int} (h : BytesOk l) (hl : l.length = 256) (hw : l.take 4 = [80, 80, 65, 71]) (hn : numi (seg l 5 4) = n) (h0 : numi (seg l 9 3) = 0) : pageBytes (pageImg l n) = l.take 252 := by
  unfold pageBytes pageImg
  have e3 : ([0, 0, 0] : List Nat) = seg l 9 3 := by
    have := seg_be h 9 3 (by decide)
    rw [h0] at this
    rw [← this]; rfl
  simp only
  rw [← hw, ← hn, seg_be h 4 1 (by decide), seg_be h 5 4 (by decide), e3]
  rw [seg_eq (by omega), seg_eq (by omega), seg_eq (by omega), seg_eq (by omega)]
  rw [show (252 : Nat) = 4 + (1 + (4 + (3 + 240))) from rfl]
  simp only [List.take_add, List.drop_drop, List.append_assoc]
theorem pageBytes_seg {x : Img} (ho : okImg x = true) (q : List Nat) :
    (pageBytes x ++ q).take 4 = [80, 80, 65, 71] ∧ numi (seg (pageBytes x ++ q) 4 1) = x.kind ∧ numi (seg (pageBytes x ++ q) 5 4) = x.num ∧ numi (seg (pageBytes x ++ q) 9 3) = 0 ∧ seg (pageBytes x ++ q) 12 240 = x.body := by
  obtain ⟨h1, h2, h3, h4, h5⟩ := okImg_parts ho
  have e0 : pageBytes x ++ q = [80, 80, 65, 71] ++ (be x.kind.toNat 1 ++ (be x.num.toNat 4 ++ ([0, 0, 0] ++ (x.body ++ q)))) := by
    unfold pageBytes; simp only [List.append_assoc]
  have e1 : pageBytes x ++ q = ([80, 80, 65, 71] ++ be x.kind.toNat 1) ++ (be x.num.toNat 4 ++ ([0, 0, 0] ++ (x.body ++ q))) := by rw [e0]; simp only [List.append_assoc]
  have e2 : pageBytes x ++ q = ([80, 80, 65, 71] ++ be x.kind.toNat 1 ++ be x.num.toNat 4) ++ ([0, 0, 0] ++ (x.body ++ q)) := by rw [e0]; simp only [List.append_assoc]
  have e3 : pageBytes x ++ q = ([80, 80, 65, 71] ++ be x.kind.toNat 1 ++ be x.num.toNat 4 ++ [0, 0, 0]) ++ (x.body ++ q) := by rw [e0]; simp only [List.append_assoc]
  have s0 := seg_app (q := be x.num.toNat 4 ++ ([0, 0, 0] ++ (x.body ++ q))) (p := [80, 80, 65, 71]) (i := 4) rfl (be_len x.kind.toNat 1)
  have s1 := seg_app (q := [0, 0, 0] ++ (x.body ++ q)) (p := [80, 80, 65, 71] ++ be x.kind.toNat 1) (i := 5) (by simp [be_len]) (be_len x.num.toNat 4)
  have s2 := seg_app (q := x.body ++ q) (p := [80, 80, 65, 71] ++ be x.kind.toNat 1 ++ be x.num.toNat 4) (a := [0, 0, 0]) (i := 9) (k := 3) (by simp [be_len]) rfl
  have s3 := seg_app (q := q) (p := [80, 80, 65, 71] ++ be x.kind.toNat 1 ++ be x.num.toNat 4 ++ [0, 0, 0]) (a := x.body) (i := 12) (k := 240) (by simp [be_len]) h5
  rw [← e0] at s0
  rw [← e1] at s1
  rw [← e2] at s2
  rw [← e3] at s3
  refine ⟨by rw [e0]; rfl, ?_, ?_, ?_, s3⟩
  · rw [s0, numi_be (m := 5) (by rw [inB_true]; omega) (by decide) (by decide)]
  · rw [s1, numi_be (m := 1023) (by rw [inB_true]; omega) (by decide) (by decide)]
  · rw [s2, numi_eq (fun x hx => by simp at hx; omega) (by decide)]; simp [num]
theorem getPage_ref {l : List Nat} {n : Int} (h : BytesOk l) : getPage l n = refPage l n := by
  unfold getPage refPage
  cases hz : decide (l = zero256)
  · simp only [Bool.false_eq_true, if_false]
    have key : (soundL l [80, 80, 65, 71] && pageTest l n) = (decide (l.length = 256) && (okImg (pageImg l n) && decide (frame (pageBytes (pageImg l n)) = l))) := by
      rw [Bool.eq_iff_iff]
      simp only [Bool.and_eq_true, decide_eq_true_eq, soundL, pageTest]
      constructor
      · rintro ⟨⟨h1, h2, h3⟩, h4, h5, h6, h7⟩
        have hm := pageBytes_of h h1 h3 h6 h7
        refine ⟨h1, ?_, (frame_iff (by rw [hm, List.length_take]; omega)).2 ⟨h1, h2, ?_, ?_⟩⟩
        · unfold okImg pageImg
          simp only [Bool.and_eq_true, decide_eq_true_eq, seg_len]
          exact ⟨h4, h5, trivial⟩
        · rw [hm, List.length_take, Nat.min_eq_left (by omega)]
        · have hd : (l.take 252).drop 252 = [] := List.drop_of_length_le (by rw [List.length_take]; omega)
          rw [hm, List.length_take, Nat.min_eq_left (by omega), hd]; rfl
      · rintro ⟨h1, h2, h3⟩
        have hml : (pageBytes (pageImg l n)).length ≤ 252 := by rw [pageBytes_len]; simp only [pageImg, seg_len]; omega
        obtain ⟨g1, g2, g3, g4⟩ := (frame_iff hml).1 h3
        obtain ⟨q, hq⟩ := frame_split (pageBytes (pageImg l n))
        obtain ⟨s1, s2, s3, s4, s5⟩ := pageBytes_seg h2 q
        rw [← hq, h3] at s1 s2 s3 s4 s5
        obtain ⟨p1, p2, p3, p4, p5⟩ := okImg_parts h2
        exact ⟨⟨g1, g2, s1⟩, ⟨p1, p2⟩, by rw [inB_true]; exact ⟨p3, p4⟩, s3, s4⟩
    rw [key]
  · simp only [if_true]
theorem frame_page_ne (x : Img) : ¬ frame (pageBytes x) = zero256 := by
  intro hc
  obtain ⟨q, hq⟩ := frame_split (pageBytes x)
  have e : (frame (pageBytes x))[0]? = some 80 := by rw [hq]; unfold pageBytes; simp
  rw [hc] at e
  unfold zero256 at e
  rw [List.getElem?_replicate, if_pos (by decide)] at e
  cases e
/-- What was written is read again by its number, and by no other. -/
theorem getPage_put {x : Img} (ho : okImg x = true) (n : Int) : getPage (frame (pageBytes x)) n = if decide (n = x.num) then some (x.kind, x.body) else none := by
  obtain ⟨h1, h2, h3, h4, h5⟩ := okImg_parts ho
  obtain ⟨q, hq⟩ := frame_split (pageBytes x)
  obtain ⟨s1, s2, s3, s4, s5⟩ := pageBytes_seg ho q
  rw [← hq] at s1 s2 s3 s4 s5
  have hml : (pageBytes x).length ≤ 252 := by rw [pageBytes_len]; omega
  obtain ⟨g1, g2, g3, g4⟩ := (frame_iff hml).1 (rfl : frame (pageBytes x) = frame (pageBytes x))
  have hs : soundL (frame (pageBytes x)) [80, 80, 65, 71] = true := by unfold soundL; exact decide_eq_true ⟨g1, g2, s1⟩
  unfold getPage
  rw [decide_eq_false (frame_page_ne x), hs, s2, s5]
  simp only [Bool.false_eq_true, if_false, Bool.true_and]
  unfold pageTest
  rw [s2, s3, s4, decide_eq_true (show 1 ≤ x.kind ∧ x.kind ≤ 5 from ⟨h1, h2⟩), decide_eq_true (rfl : (0 : Int) = 0)]
  by_cases hn : n = x.num
  · subst hn
    rw [show inB x.num 1023 = true by rw [inB_true]; exact ⟨h3, h4⟩, decide_eq_true rfl]
    rfl
  · rw [decide_eq_false hn, decide_eq_false (fun e => hn e.symm)]
    simp
theorem getPage_nil (n : Int) : getPage [] n = none := by
  unfold getPage soundL
  rw [decide_eq_false (by decide), decide_eq_false (by simp)]
  rfl
theorem getPage_zero (n : Int) : getPage zero256 n = some (0, []) := by
  unfold getPage
  rw [decide_eq_true rfl]; rfl
end Go.Proofs.YtkahpkmofeglgaaDoor
