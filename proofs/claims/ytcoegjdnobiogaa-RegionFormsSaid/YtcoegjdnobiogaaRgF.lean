/- The plain law of RegionForms: one region, one form. -/
import Derived.Test.YtcoegjdnobiogaaRgY
import Derived.Test.YtcoegjdnobiogaaPHx10
import Derived.Test.YtcoegjdnobiogaaPHx11
set_option linter.unusedVariables false
set_option linter.unusedSimpArgs false
namespace Go.Proofs.Ytcoegjdnobiogaa.PG
open Go.RowKit Go.Proofs.YtcoegjdnobiogaaW.PrintWords Go.Proofs.YtcoegjdnobiogaaW.PrintLast Go.Proofs.YtcoegjdnobiogaaW.PrintMore
open Rle

def kUnlike : KP := fun a b => (region_unlike.f a b).getD false
theorem unlike_eq (a b : Bool) : kUnlike a b = (a != b) := by cases a <;> cases b <;> rfl
theorem none87_pl (a b : List S58) (ha : rightS (a.map toR) = 0) (hb : rightS (b.map toR) = 0) : Ev (fun k => region_none_k87.f k a b ()) ((((bandsF kUnlike a b).map ofBand).length : Int) == 0, 0) := by
  have h := two_gen (fun k ls n i => region_none_k87.l0 k a b () ls n i) (fun k => (region_sweep_k87.f k a b ()).bind fun t => some (((t.length : Int) == 0), (0 : Int))) (fun t => (false, t)) ((((bandsF kUnlike a b).map ofBand).length : Int) == 0, (0 : Int)) a b (fun k ls n i => by rw [region_none_k87.l0])
    (fun ha hb => Ev.bind (f := fun k (t : List S112) => some (((t.length : Int) == 0), (0 : Int))) (sweep_pl (fun a b => (region_unlike.f a b).getD false) rfl a b (right_len ha) (right_len hb)) (Ev.now _))
  rw [if_pos ha, if_pos hb] at h
  exact h
theorem same_pl (a b : List S58) (ha : rightS (a.map toR) = 0) (hb : rightS (b.map toR) = 0) : Ev (fun k => region_Same.f k a b) ((((bandsF kUnlike a b).map ofBand).length : Int) == 0, 0) := pair_eta (none87_pl a b ha hb)
theorem bands_nil (kp : KP) (h0 : kp false false = false) (a b : List S58) (h : ∀ x y, kp (has (a.map toR) x y) (has (b.map toR) x y) = false) : bandsF kp a b = [] :=
  bands_of kp h0 a b [] ⟨trivial, by simp⟩ fun x y => (h x y).symm
def cutX (at_ : Int) (r : S58) : List S58 := if r.f0 < at_ ∧ at_ < r.f2 then [⟨at_, r.f1, r.f2, r.f3⟩, ⟨r.f0, r.f1, at_, r.f3⟩] else []
def cutY (by_ : Int) (r : S58) : List S58 := if r.f1 < by_ ∧ by_ < r.f3 then [⟨r.f0, by_, r.f2, r.f3⟩, ⟨r.f0, r.f1, r.f2, by_⟩] else [r]
def cutR (at_ by_ : Int) (r : S58) : List S58 := cutX at_ r ++ cutY by_ r
theorem cutR_length (at_ by_ : Int) (r : S58) : (cutR at_ by_ r).length ≤ 4 := by
  unfold cutR cutX cutY
  rw [List.length_append]
  split <;> split <;> simp
theorem cutR_has (at_ by_ : Int) (r : S58) (x y : Int) : has ((cutR at_ by_ r).map toR) x y = (toR r).inn x y := by
  show _ = (decide (r.f0 ≤ x ∧ x < r.f2) && decide (r.f1 ≤ y ∧ y < r.f3))
  unfold cutR cutX cutY has
  rw [Bool.eq_iff_iff]
  split <;> split <;> simp only [List.append_nil, List.nil_append, List.cons_append, List.map_append, List.map_cons, List.map_nil, List.any_append, List.any_cons, List.any_nil, R4.inn, toR, Bool.or_false, Bool.false_or, Bool.or_eq_true, Bool.and_eq_true, decide_eq_true_eq] <;> omega
theorem cutR_ok (at_ by_ : Int) (r : S58) (h : okR (toR r) = true) : ∀ q ∈ cutR at_ by_ r, okR (toR q) = true := by
  intro q hq
  have key : ∀ q : S58, ((toR q).some = true → (toR r).some = true ∧ r.f0 ≤ q.f0 ∧ q.f0 ≤ r.f2 ∧ r.f1 ≤ q.f1 ∧ q.f1 ≤ r.f3 ∧ r.f0 ≤ q.f2 ∧ q.f2 ≤ r.f2 ∧ r.f1 ≤ q.f3 ∧ q.f3 ≤ r.f3) → okR (toR q) = true := by
    intro q H
    by_cases hs : (toR q).some = true
    · obtain ⟨h1, h2⟩ := H hs
      unfold okR at h ⊢
      rw [h1] at h
      rw [hs]
      simp only [toR, farB, Bool.not_true, Bool.false_or, List.any_cons, List.any_nil, Bool.or_false, Bool.not_eq_true', Bool.or_eq_false_iff, decide_eq_false_iff_not] at h ⊢
      omega
    · unfold okR; rw [Bool.eq_false_iff.2 hs]; rfl
  refine key q fun hs => ?_
  unfold R4.some toR at hs ⊢
  simp only [Bool.and_eq_true, decide_eq_true_eq] at hs ⊢
  unfold cutR cutX cutY at hq
  rcases List.mem_append.1 hq with hq | hq
  · split at hq
    · simp at hq; rcases hq with rfl | rfl <;> simp only at hs ⊢ <;> omega
    · simp at hq
  · split at hq
    · simp at hq; rcases hq with rfl | rfl <;> simp only at hs ⊢ <;> omega
    · simp at hq; subst hq; omega
def cutL (at_ by_ : Int) (l : List S58) : List S58 := l.reverse.flatMap (cutR at_ by_)
theorem cutL_length (at_ by_ : Int) (l : List S58) : (cutL at_ by_ l).length ≤ 4 * l.length := by
  unfold cutL
  have e : l.reverse.length = l.length := List.length_reverse
  rw [← e]
  generalize l.reverse = m
  induction m with
  | nil => simp
  | cons r m ih =>
    have := cutR_length at_ by_ r
    rw [List.flatMap_cons, List.length_append, List.length_cons]
    omega
theorem cutL_has (at_ by_ : Int) (l : List S58) (x y : Int) : has ((cutL at_ by_ l).map toR) x y = has (l.map toR) x y := by
  unfold cutL
  have e : ∀ m : List S58, has ((m.flatMap (cutR at_ by_)).map toR) x y = has (m.map toR) x y := by
    intro m
    induction m with
    | nil => rfl
    | cons r m ih =>
      rw [List.flatMap_cons, List.map_append, has_append, ih, cutR_has]
      rfl
  rw [e]
  unfold has
  rw [List.map_reverse, List.any_reverse]
theorem cutL_right (at_ by_ : Int) (l : List S58) (h : rightS (l.map toR) = 0) (hl : l.length ≤ 1000) : rightS ((cutL at_ by_ l).map toR) = 0 := by
  have h1 := (right_all h).2
  have h2 := cutL_length at_ by_ l
  unfold rightS
  rw [List.length_map, if_neg (by omega), if_pos]
  rw [List.all_eq_true] at h1 ⊢
  intro q hq
  obtain ⟨p, hp, rfl⟩ := List.mem_map.1 hq
  unfold cutL at hp
  rw [List.mem_flatMap] at hp
  obtain ⟨r, hr, hp⟩ := hp
  exact cutR_ok at_ by_ r (h1 (toR r) (List.mem_map.2 ⟨r, by simpa using hr, rfl⟩)) p hp
theorem take_reverse_cut (at_ by_ : Int) (l : List S58) (n : Nat) (h : n < l.length) : (l.take (n + 1)).reverse.flatMap (cutR at_ by_) = cutR at_ by_ (l.getD n z58) ++ (l.take n).reverse.flatMap (cutR at_ by_) := by
  rw [List.take_succ_eq_append_getElem h, List.reverse_append]
  simp [h, List.getD_eq_getElem?_getD]
/-- What follows behind the cuts. -/
def formsTail (k : Nat) (x0 x7 x9 : List S58) : Option Bool := (region_Of.f k x9).bind fun bt994 => ((region_Of.f k x7).bind fun bt998 => ((region_Same.f k x0 x9).bind fun bt1002 => ((halidelaw6_num.f bt994.2).bind fun t1004 => ((halidelaw6_num.f bt998.2).bind fun t1005 => ((halidelaw6_num.f bt1002.2).bind fun t1006 => (if (wrap64 ((wrap64 (t1004 + t1005)) + t1006)) = 0 then (if bt1002.1 = true then ((halideref6_Equal.f k x7 bt994.1).bind fun t1007 => (if t1007 = true then ((halideref6_Equal.f k x7 bt998.1).bind fun t1008 => (some t1008)) else (none))) else (none)) else (none)))))))
theorem forms_l0 (l : List S58) (hl : l.length ≤ 1000) (at_ by_ : Int) (a : List S58) (R : Bool) : ∀ (n : Nat) (acc : List S58), n ≤ l.length → acc.length + 4 * n ≤ 4000 →
    Ev (fun k => formsTail k l a (acc ++ (l.take n).reverse.flatMap (cutR at_ by_))) R → Ev (fun k => halidelaw6_RegionForms.l0 k l at_ by_ a acc ((n : Int) - 1)) R := by
  intro n
  induction n with
  | zero =>
    intro acc hn ha H
    rw [List.take_zero, List.reverse_nil, List.flatMap_nil, List.append_nil] at H
    exact Ev.step (fun k => by rw [halidelaw6_RegionForms.l0, if_neg (by omega)]; rfl) H
  | succ n ih =>
    intro acc hn ha H
    rw [take_reverse_cut at_ by_ l n (by omega), ← List.append_assoc] at H
    have h4 := cutR_length at_ by_ (l.getD n z58)
    have h1 := ih (acc ++ cutR at_ by_ (l.getD n z58)) (by omega) (by rw [List.length_append]; omega) H
    have e0 : (((n + 1 : Nat) : Int) - 1) = (n : Int) := by omega
    rw [e0]
    obtain ⟨r, hr⟩ : ∃ r, l.getD n z58 = r := ⟨_, rfl⟩
    rw [hr] at h1
    refine Ev.step (f := fun k => halidelaw6_RegionForms.j2 k l at_ by_ a acc (n : Int) (decide (r.f0 < at_ ∧ at_ < r.f2)) r.f0 r.f1 r.f2 r.f3) (fun k => ?_) ?_
    · rw [halidelaw6_RegionForms.l0, if_pos (by omega), if_pos (by omega), if_pos (by omega), rd58, hr]
      by_cases c1 : r.f0 < at_
      · rw [if_pos c1]; congr 1; simp [c1]
      · rw [if_neg c1]; congr 1; simp [c1]
    · have hw : wrap64 ((n : Int) - 1) = (n : Int) - 1 := wr64 (by omega) (by omega)
      refine Ev.step (fun k => ?_) h1
      rw [halidelaw6_RegionForms.j2]
      unfold cutR cutX cutY
      by_cases c1 : r.f0 < at_ ∧ at_ < r.f2
      · rw [decide_eq_true c1, if_pos rfl, if_pos c1, Option.bind_some, if_pos (by simp; omega), Option.bind_some]
        by_cases c2 : r.f1 < by_
        · rw [if_pos c2]
          by_cases c3 : by_ < r.f3
          · rw [if_pos c3, if_pos ⟨c2, c3⟩, Option.bind_some, if_pos (by simp; omega), hw, List.append_assoc]
          · rw [if_neg c3, if_neg (show ¬ (r.f1 < by_ ∧ by_ < r.f3) from fun h => c3 h.2), if_pos (by simp; omega), hw, List.append_assoc]
        · rw [if_neg c2, if_neg (show ¬ (r.f1 < by_ ∧ by_ < r.f3) from fun h => c2 h.1), if_pos (by simp; omega), hw, List.append_assoc]
      · rw [decide_eq_false c1, if_neg (by simp), if_neg c1, List.nil_append]
        by_cases c2 : r.f1 < by_
        · rw [if_pos c2]
          by_cases c3 : by_ < r.f3
          · rw [if_pos c3, if_pos ⟨c2, c3⟩, Option.bind_some, if_pos (by simp; omega), hw]
          · rw [if_neg c3, if_neg (show ¬ (r.f1 < by_ ∧ by_ < r.f3) from fun h => c3 h.2), if_pos (by omega), hw]
        · rw [if_neg c2, if_neg (show ¬ (r.f1 < by_ ∧ by_ < r.f3) from fun h => c2 h.1), if_pos (by omega), hw]
theorem right_nil : rightS (([] : List S58).map toR) = 0 := right_of (by simp) (by simp)
/-- The form of a form. -/
theorem of_form (kp : KP) (h0 : kp false false = false) (a b : List S58) (ha : rightS (a.map toR) = 0) (hb : rightS (b.map toR) = 0) (hl : (formF kp a b).length ≤ 4096) :
    twoS kFirst ((formF kp a b).map ofR) [] = ((formF kp a b).map ofR, 0) ∧ rightS (((formF kp a b).map ofR).map toR) = 0 := by
  have hw := within_or (within_right (right_all ha).2) (within_right (right_all hb).2) kp h0
  have hr : rightS (((formF kp a b).map ofR).map toR) = 0 := by rw [map_toR_ofR]; exact form_right (formF_is kp h0 a b) hw hl
  refine ⟨?_, hr⟩
  have e : formF kFirst ((formF kp a b).map ofR) [] = formF kp a b := by
    refine IsForm.unique (formF_is kFirst rfl _ _) (IsForm.congr (formF_is kp h0 a b) fun x y => ?_)
    rw [first_eq, map_toR_ofR, (formF_is kp h0 a b).has]
  rw [two_right kFirst rfl _ _ hr right_nil, e, if_pos hl]
theorem formF_many (kp : KP) (a b : List S58) (hn : a.length + b.length ≤ 64) : (formF kp a b).length ≤ 4096 := by
  have := bandsF_many kp a b
  have h2 := Nat.mul_le_mul hn hn
  unfold formF
  omega
theorem forms_pl (l : List S58) (at_ by_ : Int) : Ev (fun k => halidelaw6_RegionForms.f k l at_ by_) true := by
  unfold halidelaw6_RegionForms.f
  refine Ev.bind known_pl ?_
  simp only [if_true]
  refine Ev.bind (few_pl [l] (by simp)) ?_
  by_cases hf : fewS [l] = true
  · rw [hf]
    simp only [if_true]
    unfold fewS at hf
    simp only [List.all_cons, List.all_nil, Bool.and_true, Bool.and_eq_true, decide_eq_true_eq] at hf
    obtain ⟨h30, hr⟩ := hf
    by_cases h12 : (l.length : Int) > 12
    · rw [decide_eq_true h12]
      exact Ev.step (f := fun _ => some true) (fun k => by rw [halidelaw6_RegionForms.j0, if_pos rfl]) (Ev.now _)
    · rw [decide_eq_false h12]
      have hmany := formF_many kFirst l [] (by simp; omega)
      have o1 := two_ok kFirst rfl l [] hr right_nil (by simp; omega)
      have g1 := of_pl l
      rw [o1] at g1
      have hcl := cutL_length at_ by_ l
      have hcr := cutL_right at_ by_ l hr (by omega)
      have o2 := two_ok kFirst rfl (cutL at_ by_ l) [] hcr right_nil (by simp; omega)
      have g2 := of_pl (cutL at_ by_ l)
      rw [o2] at g2
      have e2 : formF kFirst (cutL at_ by_ l) [] = formF kFirst l [] := by
        refine IsForm.unique (formF_is kFirst rfl _ _) (IsForm.congr (formF_is kFirst rfl l []) fun x y => ?_)
        rw [first_eq, first_eq, cutL_has]
      rw [e2] at g2
      obtain ⟨o3, r3⟩ := of_form kFirst rfl l [] hr right_nil hmany
      have g3 := of_pl ((formF kFirst l []).map ofR)
      rw [o3] at g3
      have g4 := same_pl l (cutL at_ by_ l) hr hcr
      rw [bands_nil kUnlike rfl l (cutL at_ by_ l) (fun x y => by rw [unlike_eq, cutL_has]; simp)] at g4
      have g5 := equal_pl ((formF kFirst l []).map ofR) ((formF kFirst l []).map ofR) (by rw [List.length_map]; omega)
      rw [decide_eq_true rfl] at g5
      have htail : Ev (fun k => formsTail k l ((formF kFirst l []).map ofR) (cutL at_ by_ l)) true := by
        unfold formsTail
        refine Ev.bind g2 ?_
        refine Ev.bind g3 ?_
        refine Ev.bind g4 ?_
        simp only [halidelaw6_num.f, Option.bind_some]
        rw [show wrap64 (0 + 0) = 0 from wr64 (by omega) (by omega), show wrap64 (0 + 0) = 0 from wr64 (by omega) (by omega)]
        simp only [List.map_nil, List.length_nil, if_true]
        refine Ev.bind g5 ?_
        simp only [if_true]
        exact Ev.bind g5 (Ev.now _)
      have hloop := forms_l0 l (by omega) at_ by_ ((formF kFirst l []).map ofR) true l.length [] (Nat.le_refl _) (by simp; omega) (by rw [List.nil_append, List.take_length]; exact htail)
      refine Ev.step (fun k => by rw [halidelaw6_RegionForms.j0, if_neg (by simp)]) ?_
      refine Ev.bind g1 ?_
      simp only [halidelaw6_num.f, Option.bind_some, if_true]
      rw [wr64 (x := (l.length : Int) - 1) (by omega) (by omega)]
      exact hloop
  · rw [Bool.eq_false_iff.2 hf]
    exact Ev.step (f := fun _ => some true) (fun k => by rw [if_neg (by simp), halidelaw6_RegionForms.j0, if_pos rfl]) (Ev.now _)
end Go.Proofs.Ytcoegjdnobiogaa.PG
