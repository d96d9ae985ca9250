/- The plain helpers of the region laws: Equal, few; known is true. -/
import Derived.Test.YtcoegjdnobiogaaRgV
import Derived.Test.YtcoegjdnobiogaaPHx5
import Derived.Test.YtcoegjdnobiogaaPHx6
set_option linter.unusedVariables false
set_option linter.unusedSimpArgs false
namespace Go.Proofs.Ytcoegjdnobiogaa.PG
open Go.RowKit Go.Proofs.YtcoegjdnobiogaaW.PrintWords Go.Proofs.YtcoegjdnobiogaaW.PrintLast Go.Proofs.YtcoegjdnobiogaaW.PrintMore
open Rle

theorem rect_eq (a b : S58) : (!((a.f0) == (b.f0)) || (!((a.f1) == (b.f1)) || (!((a.f2) == (b.f2)) || (!((a.f3) == (b.f3)))))) = !(decide (toR a = toR b)) := by
  cases a with | mk a0 a1 a2 a3 => cases b with | mk b0 b1 b2 b3 => simp [toR, Bool.beq_eq_decide_eq]
theorem equal_l0 (a b : List S58) (hab : a.length = b.length) (ha : a.length ≤ 1099511627776) : ∀ m i, i + m = a.length → Ev (fun k => halideref6_Equal.l0 k a b (i : Int)) (decide ((a.drop i).map toR = (b.drop i).map toR)) := by
  intro m
  induction m with
  | zero =>
    intro i hi
    rw [show a.drop i = [] from List.drop_eq_nil_of_le (by omega), show b.drop i = [] from List.drop_eq_nil_of_le (by omega)]
    exact Ev.step (f := fun _ => some true) (fun k => by rw [halideref6_Equal.l0, if_neg (by omega)]) (Ev.now _)
  | succ m ih =>
    intro i hi
    have hd := drop_get a z58 i (by omega)
    have he := drop_get b z58 i (by omega)
    have h1 := ih (i + 1) (by omega)
    have e1 := rect_eq (a.getD i z58) (b.getD i z58)
    rw [hd, he, List.map_cons, List.map_cons]
    by_cases hs : toR (a.getD i z58) = toR (b.getD i z58)
    · rw [show decide (toR (a.getD i z58) :: (a.drop (i + 1)).map toR = toR (b.getD i z58) :: (b.drop (i + 1)).map toR) = decide ((a.drop (i + 1)).map toR = (b.drop (i + 1)).map toR) from by rw [decide_eq_decide, List.cons.injEq]; exact ⟨fun h => h.2, fun h => ⟨hs, h⟩⟩]
      refine Ev.step (fun k => ?_) h1
      rw [halideref6_Equal.l0, if_pos (by omega), if_pos (by omega), if_pos (by omega), rd58, rd58, e1, decide_eq_true hs, if_neg (by simp), wr_next (show i < a.length by omega) ha]
    · rw [decide_eq_false (fun h => hs (List.cons.inj h).1)]
      exact Ev.step (f := fun _ => some false) (fun k => by rw [halideref6_Equal.l0, if_pos (by omega), if_pos (by omega), if_pos (by omega), rd58, rd58, e1, decide_eq_false hs, if_pos (by simp)]) (Ev.now _)
theorem equal_pl (a b : List S58) (ha : a.length ≤ 1099511627776) : Ev (fun k => halideref6_Equal.f k a b) (decide (a.map toR = b.map toR)) := by
  unfold halideref6_Equal.f
  by_cases h : a.length = b.length
  · simp only [if_pos (show (a.length : Int) = b.length by omega)]
    have := equal_l0 a b h ha a.length 0 (by omega)
    rwa [List.drop_zero, List.drop_zero] at this
  · simp only [if_neg (show ¬ (a.length : Int) = b.length by omega)]
    rw [decide_eq_false (fun e => h (by have := congrArg List.length e; rwa [List.length_map, List.length_map] at this))]
    exact Ev.now _
theorem near6_pl (x : Int) : halideref6_near.f x = some (!farB x) := by
  unfold halideref6_near.f farB
  by_cases h : x ≥ -8192
  · rw [if_pos h]; congr 1
    by_cases h2 : x ≤ 8192
    · rw [decide_eq_true h2, decide_eq_false (by omega), decide_eq_false (by omega)]; rfl
    · rw [decide_eq_false h2, decide_eq_false (by omega), decide_eq_true (by omega)]; rfl
  · rw [if_neg h, decide_eq_true (by omega)]; rfl
theorem some6_pl (r : S58) : halideref6_some.f r.f0 r.f1 r.f2 r.f3 = some (toR r).some := some_pl r
theorem far6_l0 (l : List S58) (hl : l.length ≤ 1099511627776) : ∀ m i, i + m = l.length → Ev (fun k => halideref6_far.l0 k l (i : Int)) (if ((l.drop i).map toR).all okR then 0 else 61) := by
  intro m
  induction m with
  | zero =>
    intro i hi
    rw [show i = l.length by omega, List.drop_length]
    exact Ev.step (f := fun _ => some 0) (fun k => by rw [halideref6_far.l0, if_neg (by omega)]) (Ev.now _)
  | succ m ih =>
    intro i hi
    have hd := drop_get l z58 i (by omega)
    have hih := ih (i + 1) (by omega)
    rw [hd, List.map_cons, List.all_cons]
    obtain ⟨r, hr⟩ : ∃ r, l.getD i z58 = r := ⟨_, rfl⟩
    rw [hr]
    by_cases hs : (toR r).some = true
    · have e0 : okR (toR r) = !(farB r.f0 || (farB r.f1 || (farB r.f2 || (farB r.f3 || false)))) := by unfold okR; rw [hs]; rfl
      by_cases h0 : farB r.f0 = true
      · rw [show okR (toR r) = false by rw [e0, h0]; rfl, Bool.false_and, if_neg (by simp)]
        exact Ev.step (f := fun _ => some 61) (fun k => by rw [halideref6_far.l0, if_pos (by omega), if_pos (by omega), rd58, hr, some6_pl, Option.bind_some, if_pos hs, near6_pl, Option.bind_some, h0, if_neg (by simp)]) (Ev.now _)
      · by_cases h1 : farB r.f1 = true
        · rw [show okR (toR r) = false by rw [e0, h1]; simp, Bool.false_and, if_neg (by simp)]
          exact Ev.step (f := fun _ => some 61) (fun k => by rw [halideref6_far.l0, if_pos (by omega), if_pos (by omega), rd58, hr, some6_pl, Option.bind_some, if_pos hs, near6_pl, Option.bind_some, if_pos (by simpa using h0), near6_pl, Option.bind_some, h1, if_neg (by simp)]) (Ev.now _)
        · by_cases h2 : farB r.f2 = true
          · rw [show okR (toR r) = false by rw [e0, h2]; simp, Bool.false_and, if_neg (by simp)]
            exact Ev.step (f := fun _ => some 61) (fun k => by rw [halideref6_far.l0, if_pos (by omega), if_pos (by omega), rd58, hr, some6_pl, Option.bind_some, if_pos hs, near6_pl, Option.bind_some, if_pos (by simpa using h0), near6_pl, Option.bind_some, if_pos (by simpa using h1), near6_pl, Option.bind_some, h2, if_neg (by simp)]) (Ev.now _)
          · by_cases h3 : farB r.f3 = true
            · rw [show okR (toR r) = false by rw [e0, h3]; simp, Bool.false_and, if_neg (by simp)]
              exact Ev.step (f := fun _ => some 61) (fun k => by rw [halideref6_far.l0, if_pos (by omega), if_pos (by omega), rd58, hr, some6_pl, Option.bind_some, if_pos hs, near6_pl, Option.bind_some, if_pos (by simpa using h0), near6_pl, Option.bind_some, if_pos (by simpa using h1), near6_pl, Option.bind_some, if_pos (by simpa using h2), near6_pl, Option.bind_some, h3, if_neg (by simp)]) (Ev.now _)
            · rw [show okR (toR r) = true by rw [e0, Bool.eq_false_iff.2 h0, Bool.eq_false_iff.2 h1, Bool.eq_false_iff.2 h2, Bool.eq_false_iff.2 h3]; rfl, Bool.true_and]
              exact Ev.step (fun k => by rw [halideref6_far.l0, if_pos (by omega), if_pos (by omega), rd58, hr, some6_pl, Option.bind_some, if_pos hs, near6_pl, Option.bind_some, if_pos (by simpa using h0), near6_pl, Option.bind_some, if_pos (by simpa using h1), near6_pl, Option.bind_some, if_pos (by simpa using h2), near6_pl, Option.bind_some, if_pos (by simpa using h3), wr_next (show i < l.length by omega) hl]) hih
    · rw [show okR (toR r) = true by unfold okR; rw [Bool.eq_false_iff.2 hs]; rfl, Bool.true_and]
      exact Ev.step (fun k => by rw [halideref6_far.l0, if_pos (by omega), if_pos (by omega), rd58, hr, some6_pl, Option.bind_some, if_neg hs, wr_next (show i < l.length by omega) hl]) hih
theorem right6_pl (l : List S58) (hl : l.length ≤ 1099511627776) : Ev (fun k => halideref6_Right.f k l) (rightS (l.map toR)) := by
  unfold halideref6_Right.f rightS
  rw [List.length_map]
  by_cases h : (l.length : Int) > 4096
  · rw [if_pos h]
    simp only [if_pos h]
    exact Ev.now _
  · rw [if_neg h]
    simp only [if_neg h]
    have := far6_l0 l hl l.length 0 (by omega)
    rw [List.drop_zero] at this
    exact Ev.bind this (Ev.now _)
/-- Are lists few? -/
def fewS (ls : List (List S58)) : Bool := ls.all fun l => decide (l.length ≤ 30) && decide (rightS (l.map toR) = 0)
theorem few_l0 (ls : List (List S58)) (hl : ls.length ≤ 10) : ∀ m i, i + m = ls.length → Ev (fun k => halidelaw6_few.l0 k ls (i : Int)) (fewS (ls.drop i)) := by
  intro m
  induction m with
  | zero =>
    intro i hi
    rw [show i = ls.length by omega, List.drop_length]
    exact Ev.step (f := fun _ => some true) (fun k => by rw [halidelaw6_few.l0, if_neg (by omega)]) (Ev.now _)
  | succ m ih =>
    intro i hi
    have hd := drop_get ls [] i (by omega)
    have hih := ih (i + 1) (by omega)
    rw [hd]
    unfold fewS at *
    rw [List.all_cons]
    obtain ⟨l, hr⟩ : ∃ l, ls.getD i [] = l := ⟨_, rfl⟩
    rw [hr]
    by_cases h30 : l.length ≤ 30
    · rw [decide_eq_true h30, Bool.true_and]
      refine Ev.step (f := fun k => (halideref6_Right.f k l).bind fun t775 => (if t775 = 0 then (halidelaw6_few.l0 k ls ((i + 1 : Nat) : Int)) else (some false)))
        (fun k => by rw [halidelaw6_few.l0, if_pos (by omega), if_pos (by omega), rdL3, hr, if_neg (by omega), wr_next (show i < ls.length by omega) (by omega)]) ?_
      refine Ev.bind (right6_pl l (by omega)) ?_
      by_cases h0 : rightS (l.map toR) = 0
      · rw [decide_eq_true h0, Bool.true_and]
        simp only [if_pos h0]
        exact hih
      · rw [decide_eq_false h0, Bool.false_and]
        simp only [if_neg h0]
        exact Ev.now _
    · rw [decide_eq_false h30, Bool.false_and, Bool.false_and]
      exact Ev.step (f := fun _ => some false) (fun k => by rw [halidelaw6_few.l0, if_pos (by omega), if_pos (by omega), rdL3, hr, if_pos (by omega)]) (Ev.now _)
theorem few_pl (ls : List (List S58)) (hl : ls.length ≤ 10) : Ev (fun k => halidelaw6_few.f k ls) (fewS ls) := by
  have := few_l0 ls hl ls.length 0 (by omega)
  rwa [List.drop_zero] at this
theorem two_ok (kp : KP) (h0 : kp false false = false) (a b : List S58) (ha : rightS (a.map toR) = 0) (hb : rightS (b.map toR) = 0) (hn : a.length + b.length ≤ 64) : twoS kp a b = ((formF kp a b).map ofR, 0) := by
  unfold twoS
  rw [if_pos ha, if_pos hb]
  refine told_ok (formF_is kp h0 a b) (within_or (within_right (right_all ha).2) (within_right (right_all hb).2) kp h0) ?_
  have := bandsF_many kp a b
  have h2 := Nat.mul_le_mul hn hn
  unfold formF
  omega
theorem two_right (kp : KP) (h0 : kp false false = false) (a b : List S58) (ha : rightS (a.map toR) = 0) (hb : rightS (b.map toR) = 0) : twoS kp a b = if (formF kp a b).length ≤ 4096 then ((formF kp a b).map ofR, 0) else ([], 60) := by
  unfold twoS
  rw [if_pos ha, if_pos hb]
  exact told_near (formF_is kp h0 a b) (within_or (within_right (right_all ha).2) (within_right (right_all hb).2) kp h0)
theorem first_eq (a b : Bool) : kFirst a b = a := by cases a <;> cases b <;> rfl
theorem without_eq (a b : Bool) : kWithout a b = (a && !b) := by cases a <;> cases b <;> rfl
end Go.Proofs.Ytcoegjdnobiogaa.PG
