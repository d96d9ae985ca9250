/- The chapter's examples, plainly: known is true. -/
import Derived.Test.YtcoegjdnobiogaaRgX
set_option linter.unusedVariables false
set_option linter.unusedSimpArgs false
namespace Go.Proofs.Ytcoegjdnobiogaa.PG
open Go.RowKit Go.Proofs.YtcoegjdnobiogaaW.PrintWords Go.Proofs.YtcoegjdnobiogaaW.PrintLast Go.Proofs.YtcoegjdnobiogaaW.PrintMore
open Rle

theorem bands_of (kp : KP) (h0 : kp false false = false) (a b : List S58) (B : List (Run (List (Run Bool)))) (h : NormB B) (hf : ∀ x y, bhas B x y = kp (has (a.map toR) x y) (has (b.map toR) x y)) : bandsF kp a b = B :=
  uniqueB (bandsF_spec kp h0 a b).1 h fun x y => ((bandsF_spec kp h0 a b).2 x y).trans (hf x y).symm
def exA : List S58 := [⟨0, 0, 2, 2⟩, ⟨1, 1, 3, 3⟩]
def exB1 : List (Run (List (Run Bool))) := [⟨0, 1, [⟨0, 2, true⟩]⟩, ⟨1, 2, [⟨0, 3, true⟩]⟩, ⟨2, 3, [⟨1, 3, true⟩]⟩]
theorem exB1_norm : NormB exB1 := by
  unfold NormB exB1 Norm
  simp [Norm]
theorem ex1 : bandsF kFirst exA [] = exB1 := by
  refine bands_of kFirst rfl exA [] exB1 exB1_norm fun x y => ?_
  rw [first_eq, Bool.eq_iff_iff]
  unfold bhas exB1 exA
  simp only [at_, has, List.map_cons, List.map_nil, List.any_cons, List.any_nil, R4.inn, toR, Bool.or_false, Bool.or_eq_true, Bool.and_eq_true, decide_eq_true_eq]
  by_cases h1 : 0 ≤ y ∧ y < 1
  · rw [if_pos h1]; simp only [at_]; split <;> simp <;> omega
  · rw [if_neg h1]
    by_cases h2 : 1 ≤ y ∧ y < 2
    · rw [if_pos h2]; simp only [at_]; split <;> simp <;> omega
    · rw [if_neg h2]
      by_cases h3 : 2 ≤ y ∧ y < 3
      · rw [if_pos h3]; simp only [at_]; split <;> simp <;> omega
      · rw [if_neg h3]; simp only [at_]; simp; omega
theorem ex1b : bandsF kFirst ((rects exB1).map ofR) [] = exB1 := by
  refine bands_of kFirst rfl _ [] exB1 exB1_norm fun x y => ?_
  rw [first_eq, map_toR_ofR, has_rects exB1_norm]
def exC : List S58 := [⟨0, 0, 3, 3⟩]
def exD : List S58 := [⟨1, 1, 2, 2⟩]
def exB2 : List (Run (List (Run Bool))) := [⟨0, 1, [⟨0, 3, true⟩]⟩, ⟨1, 2, [⟨0, 1, true⟩, ⟨2, 3, true⟩]⟩, ⟨2, 3, [⟨0, 3, true⟩]⟩]
theorem exB2_norm : NormB exB2 := by
  unfold NormB exB2 Norm
  simp [Norm]
theorem ex2 : bandsF kWithout exC exD = exB2 := by
  refine bands_of kWithout rfl exC exD exB2 exB2_norm fun x y => ?_
  rw [without_eq, Bool.eq_iff_iff]
  unfold bhas exB2 exC exD
  simp only [at_, has, List.map_cons, List.map_nil, List.any_cons, List.any_nil, R4.inn, toR, Bool.or_false, Bool.and_eq_true, Bool.not_eq_true', Bool.and_eq_false_iff, decide_eq_true_eq, decide_eq_false_iff_not]
  by_cases h1 : 0 ≤ y ∧ y < 1
  · rw [if_pos h1]; simp only [at_]; split <;> simp <;> omega
  · rw [if_neg h1]
    by_cases h2 : 1 ≤ y ∧ y < 2
    · rw [if_pos h2]; simp only [at_]
      split
      · simp; omega
      · split <;> simp <;> omega
    · rw [if_neg h2]
      by_cases h3 : 2 ≤ y ∧ y < 3
      · rw [if_pos h3]; simp only [at_]; split <;> simp <;> omega
      · rw [if_neg h3]; simp only [at_]; simp; omega
def exE : List S58 := [⟨0, 0, 1, 1⟩, ⟨1, 0, 2, 1⟩, ⟨0, 1, 2, 2⟩]
/-- A rectangle as bands. -/
def boxB (a b c d : Int) : List (Run (List (Run Bool))) := [⟨b, d, [⟨a, c, true⟩]⟩]
theorem box_norm {a b c d : Int} (h : a < c) (h2 : b < d) : NormB (boxB a b c d) := by
  unfold NormB boxB Norm
  simp [Norm, h, h2]
theorem box_has {a b c d : Int} (x y : Int) : bhas (boxB a b c d) x y = R4.inn ⟨a, b, c, d⟩ x y := by
  unfold bhas boxB R4.inn
  simp only [at_]
  by_cases h1 : b ≤ y ∧ y < d
  · rw [if_pos h1]; simp only [at_]
    by_cases h2 : a ≤ x ∧ x < c
    · rw [if_pos h2]; simp [h1, h2]
    · rw [if_neg h2]; simp [h1, h2]
  · rw [if_neg h1]; simp [h1, at_]
theorem ex3 : bandsF kFirst exE [] = boxB 0 0 2 2 := by
  refine bands_of kFirst rfl exE [] _ (box_norm (by omega) (by omega)) fun x y => ?_
  rw [first_eq, box_has, Bool.eq_iff_iff]
  unfold exE
  simp only [has, List.map_cons, List.map_nil, List.any_cons, List.any_nil, R4.inn, toR, Bool.or_false, Bool.or_eq_true, Bool.and_eq_true, decide_eq_true_eq]
  omega
theorem ex_box (a b c d : Int) (h : a < c) (h2 : b < d) : bandsF kFirst [⟨a, b, c, d⟩] [] = boxB a b c d := by
  refine bands_of kFirst rfl _ [] _ (box_norm h h2) fun x y => ?_
  rw [first_eq, box_has]
  simp [has, toR]
theorem far_small {x : Int} (h : -8192 ≤ x) (h2 : x ≤ 8192) : farB x = false := by unfold farB; simp; omega
theorem right_of {L : List R4} (hl : L.length ≤ 4096) (h : ∀ r ∈ L, -8192 ≤ r.x0 ∧ r.x0 ≤ 8192 ∧ -8192 ≤ r.y0 ∧ r.y0 ≤ 8192 ∧ -8192 ≤ r.x1 ∧ r.x1 ≤ 8192 ∧ -8192 ≤ r.y1 ∧ r.y1 ≤ 8192) : rightS L = 0 := by
  unfold rightS
  rw [if_neg (by omega), if_pos]
  rw [List.all_eq_true]
  intro r hr
  exact (near_of r (h r hr)).2
theorem known_pl : Ev (fun k => halidelaw6_known.f k) true := by
  have r1 : rightS (exA.map toR) = 0 := right_of (by simp [exA]) (by intro r hr; simp [exA, toR] at hr; rcases hr with rfl | rfl <;> simp)
  have r2 : rightS (exC.map toR) = 0 := right_of (by simp [exC]) (by intro r hr; simp [exC, toR] at hr; subst hr; simp)
  have r3 : rightS (exD.map toR) = 0 := right_of (by simp [exD]) (by intro r hr; simp [exD, toR] at hr; subst hr; simp)
  have r4 : rightS (exE.map toR) = 0 := right_of (by simp [exE]) (by intro r hr; simp [exE, toR] at hr; rcases hr with rfl | rfl | rfl <;> simp)
  have r5 : rightS (([⟨0, 0, 1, 1⟩] : List S58).map toR) = 0 := right_of (by simp) (by intro r hr; simp [toR] at hr; subst hr; simp)
  have r0 : rightS (([] : List S58).map toR) = 0 := right_of (by simp) (by simp)
  have o1 : twoS kFirst exA [] = ((rects exB1).map ofR, 0) := by rw [two_ok kFirst rfl exA [] r1 r0 (by simp [exA])]; unfold formF; rw [ex1]
  have o2 : twoS kWithout exC exD = ((rects exB2).map ofR, 0) := by rw [two_ok kWithout rfl exC exD r2 r3 (by simp [exC, exD])]; unfold formF; rw [ex2]
  have o3 : twoS kFirst exE [] = ((rects (boxB 0 0 2 2)).map ofR, 0) := by rw [two_ok kFirst rfl exE [] r4 r0 (by simp [exE])]; unfold formF; rw [ex3]
  have h1 := of_pl exA
  rw [o1] at h1
  have h2 := count_pl ((rects exB1).map ofR)
  rw [map_toR_ofR, if_pos (right_of (by simp [exB1, rects]) (by intro r hr; simp [exB1, rects] at hr; rcases hr with rfl | rfl | rfl <;> simp)), ex1b] at h2
  have h3 := less_pl exC exD
  rw [o2] at h3
  have h4 := of_pl exE
  rw [o3] at h4
  have h5 := grow_pl [⟨0, 0, 1, 1⟩] 1 0 2 1 (by omega) (by omega) (by omega) (by omega) r5
  have e5 : movedS [⟨0, 0, 1, 1⟩] 1 0 2 1 = [⟨-1, 0, 3, 2⟩] := by
    unfold movedS movS
    simp [toR, R4.some]
    refine ⟨wr64 (by omega) (by omega), wr64 (by omega) (by omega), wr64 (by omega) (by omega), wr64 (by omega) (by omega)⟩
  have f5 : toldS (formF kFirst [⟨-1, 0, 3, 2⟩] []) = ((rects (boxB (-1) 0 3 2)).map ofR, 0) := by
    have g := formF_is kFirst rfl [⟨-1, 0, 3, 2⟩] []
    unfold formF at g ⊢
    rw [ex_box (-1) 0 3 2 (by omega) (by omega)] at g ⊢
    unfold toldS boxB rects
    simp [nearR, far_small]
  rw [e5, f5] at h5
  have h6 := shift_pl [⟨0, 0, 1, 1⟩] 8192 0 (by omega) (by omega) r5
  have e6 : movedS [⟨0, 0, 1, 1⟩] (-8192) (-0) 8192 0 = [⟨8192, 0, 8193, 1⟩] := by
    unfold movedS movS
    simp [toR, R4.some]
    refine ⟨wr64 (by omega) (by omega), wr64 (by omega) (by omega), wr64 (by omega) (by omega), wr64 (by omega) (by omega)⟩
  have f6 : toldS (formF kFirst [⟨8192, 0, 8193, 1⟩] []) = ([], 61) := by
    unfold formF
    rw [ex_box 8192 0 8193 1 (by omega) (by omega)]
    unfold toldS boxB rects
    simp [nearR, farB]
  rw [e6, f6, if_pos (by decide)] at h6
  unfold halidelaw6_known.f
  refine Ev.bind h1 ?_
  refine Ev.bind h2 ?_
  refine Ev.bind h3 ?_
  refine Ev.bind h4 ?_
  refine Ev.bind h5 ?_
  refine Ev.bind h6 ?_
  have q1 := equal_pl ((rects exB1).map ofR) [⟨0, 0, 2, 1⟩, ⟨0, 1, 3, 2⟩, ⟨1, 2, 3, 3⟩] (by simp [exB1, rects])
  have q2 := equal_pl ((rects exB2).map ofR) [⟨0, 0, 3, 1⟩, ⟨0, 1, 1, 2⟩, ⟨2, 1, 3, 2⟩, ⟨0, 2, 3, 3⟩] (by simp [exB2, rects])
  have q3 := equal_pl ((rects (boxB 0 0 2 2)).map ofR) [⟨0, 0, 2, 2⟩] (by simp [boxB, rects])
  have q4 := equal_pl ((rects (boxB (-1) 0 3 2)).map ofR) [⟨-1, 0, 3, 2⟩] (by simp [boxB, rects])
  rw [decide_eq_true (by rfl)] at q1 q2 q3 q4
  refine Ev.bind q1 ?_
  simp only [if_true]
  simp only [if_pos (show sumB 0 (exB1.map ofBand) = 7 from by kernel_rfl)]
  refine Ev.bind q2 ?_
  simp only [if_true]
  refine Ev.bind q3 ?_
  simp only [if_true]
  refine Ev.bind q4 ?_
  simp only [if_true]
  exact Ev.now _
end Go.Proofs.Ytcoegjdnobiogaa.PG
