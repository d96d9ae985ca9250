/- What region's functions answer, plainly: right, cuts, told, row. -/
import Derived.Test.YtcoegjdnobiogaaReg
import Derived.Test.YtcoegjdnobiogaaPHx2
set_option linter.unusedVariables false
set_option linter.unusedSimpArgs false
namespace Go.Proofs.Ytcoegjdnobiogaa.PG
open Go.RowKit Go.Proofs.YtcoegjdnobiogaaW.PrintWords Go.Proofs.YtcoegjdnobiogaaW.PrintLast Go.Proofs.YtcoegjdnobiogaaW.PrintMore
open Rle

theorem wr64 {x : Int} (h : -9223372036854775808 ≤ x) (h2 : x < 9223372036854775808) : wrap64 x = x := by unfold wrap64; omega
theorem wr_next {i n : Nat} (h : i < n) (hn : n ≤ 1099511627776) : wrap64 ((i : Int) + 1) = ((i + 1 : Nat) : Int) := by unfold wrap64; omega
theorem drop_get {α : Type} (l : List α) (d : α) (i : Nat) (h : i < l.length) : l.drop i = l.getD i d :: l.drop (i + 1) := by
  rw [List.drop_eq_getElem_cons h]
  simp [h, List.getD_eq_getElem?_getD]
def toR (r : S58) : R4 := ⟨r.f0, r.f1, r.f2, r.f3⟩
def ofR (r : R4) : S58 := ⟨r.x0, r.y0, r.x1, r.y1⟩
def toRun (s : S114) : Run Bool := ⟨s.f0, s.f1, true⟩
def ofRun (r : Run Bool) : S114 := ⟨r.a, r.b⟩
def ofBand (b : (Run (List (Run Bool)))) : S112 := ⟨b.a, b.b, b.v.map ofRun⟩
def farB (x : Int) : Bool := decide (x < -8192) || decide (x > 8192)
theorem some_pl (r : S58) : region_some.f r.f0 r.f1 r.f2 r.f3 = some (toR r).some := by
  unfold region_some.f R4.some toR
  by_cases h : r.f0 < r.f2 <;> simp [h]
theorem near1_pl (x : Int) : region_near_1.f x = some (farB x) := by
  unfold region_near_1.f farB
  by_cases h : x < -8192 <;> simp [h]
theorem index_pl (l : List Int) (hl : l.length ≤ 1099511627776) : ∀ m i, i + m = l.length → ∃ r : Int, Ev (fun k => slices_IndexFunc_int_int_k159.l0 k l l.length (i : Int)) r ∧ decide (r ≥ 0) = (l.drop i).any farB := by
  intro m
  induction m with
  | zero =>
    intro i hi
    refine ⟨-1, Ev.step (f := fun _ => some (-1)) (fun k => by rw [slices_IndexFunc_int_int_k159.l0, if_neg (by omega)]) (Ev.now _), ?_⟩
    rw [show i = l.length by omega, List.drop_length]
    rfl
  | succ m ih =>
    intro i hi
    have hd := drop_get l 0 i (by omega)
    have hrd : rd l (i : Int) = l.getD i 0 := by unfold rd; rw [Int.toNat_natCast]
    by_cases hf : farB (l.getD i 0) = true
    · refine ⟨i, Ev.step (f := fun _ => some (i : Int)) (fun k => ?_) (Ev.now _), ?_⟩
      · rw [slices_IndexFunc_int_int_k159.l0, if_pos (by omega), if_pos (by omega), if_pos (by omega), near1_pl, Option.bind_some, hrd, if_pos hf]
      · rw [hd, List.any_cons, hf]
        simp
    · obtain ⟨r, h1, h2⟩ := ih (i + 1) (by omega)
      refine ⟨r, Ev.step (fun k => ?_) h1, ?_⟩
      · rw [slices_IndexFunc_int_int_k159.l0, if_pos (by omega), if_pos (by omega), if_pos (by omega), near1_pl, Option.bind_some, hrd, if_neg hf, wr_next (show i < l.length by omega) hl]
      · rw [hd, List.any_cons, ← h2, Bool.eq_false_iff.2 hf, Bool.false_or]
theorem near_pl (l : List Int) (hl : l.length ≤ 1099511627776) : Ev (fun k => region_near.f k l) (!(l.any farB)) := by
  obtain ⟨r, h1, h2⟩ := index_pl l hl l.length 0 (by omega)
  unfold region_near.f slices_ContainsFunc_int_int_k159.f slices_IndexFunc_int_int_k159.f
  rw [List.drop_zero] at h2
  refine Ev.bind (a := l.any farB) (Ev.bind (a := r) h1 ?_) (Ev.now _)
  rw [← h2]
  exact Ev.now _
/-- May a rectangle be in a list? -/
def okR (r : R4) : Bool := !r.some || !([r.x0, r.y0, r.x1, r.y1].any farB)
def rightS (l : List R4) : Int := if (l.length : Int) > 4096 then 60 else if l.all okR then 0 else 61
theorem rd58 (l : List S58) (i : Nat) : rd_T58 l (i : Int) = l.getD i z58 := by unfold rd_T58; rw [Int.toNat_natCast]
theorem right_l0 (l : List S58) (hl : l.length ≤ 4096) : ∀ m i, i + m = l.length → Ev (fun k => region_right.l0 k l l.length (i : Int)) (if ((l.drop i).map toR).all okR then 0 else 61) := by
  intro m
  induction m with
  | zero =>
    intro i hi
    rw [show i = l.length by omega, List.drop_length]
    exact Ev.step (f := fun _ => some 0) (fun k => by rw [region_right.l0, if_neg (by omega)]) (Ev.now _)
  | succ m ih =>
    intro i hi
    have hd := drop_get l z58 i (by omega)
    have hih := ih (i + 1) (by omega)
    rw [hd, List.map_cons, List.all_cons]
    have hn := near_pl [(l.getD i z58).f0, (l.getD i z58).f1, (l.getD i z58).f2, (l.getD i z58).f3] (by simp)
    by_cases hs : (toR (l.getD i z58)).some = true
    · refine Ev.step (f := fun k => (region_near.f k [(l.getD i z58).f0, (l.getD i z58).f1, (l.getD i z58).f2, (l.getD i z58).f3]).bind fun t => if t = true then region_right.l0 k l l.length ((i + 1 : Nat) : Int) else some 61)
        (fun k => by rw [region_right.l0, if_pos (by omega), if_pos (by omega), if_pos (by omega), rd58, some_pl, Option.bind_some, if_pos hs, wr_next (show i < l.length by omega) (by omega)]) ?_
      refine Ev.bind hn ?_
      by_cases hf : ([(l.getD i z58).f0, (l.getD i z58).f1, (l.getD i z58).f2, (l.getD i z58).f3].any farB) = true
      · have e : okR (toR (l.getD i z58)) = false := by (show (!(toR (l.getD i z58)).some || !([(l.getD i z58).f0, (l.getD i z58).f1, (l.getD i z58).f2, (l.getD i z58).f3].any farB)) = false; rw [hs, hf]; rfl)
        rw [e, hf]
        exact Ev.now _
      · have e : okR (toR (l.getD i z58)) = true := by (show (!(toR (l.getD i z58)).some || !([(l.getD i z58).f0, (l.getD i z58).f1, (l.getD i z58).f2, (l.getD i z58).f3].any farB)) = true; rw [hs, Bool.eq_false_iff.2 hf]; rfl)
        rw [e, Bool.eq_false_iff.2 hf]
        simpa using hih
    · have e : okR (toR (l.getD i z58)) = true := by unfold okR; rw [Bool.eq_false_iff.2 hs]; rfl
      rw [e, Bool.true_and]
      exact Ev.step (fun k => by rw [region_right.l0, if_pos (by omega), if_pos (by omega), if_pos (by omega), rd58, some_pl, Option.bind_some, if_neg hs, wr_next (show i < l.length by omega) (by omega)]) hih
theorem right_pl (l : List S58) : Ev (fun k => region_right.f k l) (rightS (l.map toR)) := by
  unfold region_right.f rightS
  rw [List.length_map]
  by_cases h : (l.length : Int) > 4096
  · rw [if_pos h]
    simp only [if_pos h]
    exact Ev.now _
  · rw [if_neg h]
    simp only [if_neg h]
    have := right_l0 l (by omega) l.length 0 (by omega)
    rwa [List.drop_zero] at this
theorem rdL3 (l : List (List S58)) (i : Nat) : rd_L3 l (i : Int) = l.getD i [] := by unfold rd_L3; rw [Int.toNat_natCast]
def cutsS (l : List S58) : List Int := cutsF (l.map toR)
theorem cutsS_cons (r : S58) (l : List S58) : cutsS (r :: l) = (if (toR r).some then [r.f1, r.f3] else []) ++ cutsS l := by
  unfold cutsS cutsF
  rw [List.map_cons, List.filter_cons]
  by_cases h : (toR r).some = true
  · rw [if_pos h, if_pos h]; rfl
  · rw [if_neg h, if_neg h]; rfl
theorem cutsS_length (l : List S58) : (cutsS l).length ≤ 2 * l.length := by
  induction l with
  | nil => simp [cutsS, cutsF]
  | cons r l ih =>
    rw [cutsS_cons, List.length_append, List.length_cons]
    split <;> simp <;> omega
theorem cuts_l1 (ls : List (List S58)) (n i : Int) (row : List S58) (hr : row.length ≤ 1099511627776) (R : List Int) : ∀ m j (acc : List Int), j + m = row.length → acc.length + 2 * m ≤ 8796093022208 →
    Ev (fun k => region_cuts.l0 k (acc ++ cutsS (row.drop j)) ls n (wrap64 (i + 1))) R → Ev (fun k => region_cuts.l1 k acc ls n i row row.length (j : Int)) R := by
  intro m
  induction m with
  | zero =>
    intro j acc hj hb H
    rw [show j = row.length by omega, List.drop_length] at H
    rw [show cutsS [] = [] from rfl, List.append_nil] at H
    exact Ev.step (fun k => by rw [region_cuts.l1, if_neg (by omega)]) H
  | succ m ih =>
    intro j acc hj hb H
    have hd := drop_get row z58 j (by omega)
    rw [hd, cutsS_cons, ← List.append_assoc] at H
    by_cases hs : (toR (row.getD j z58)).some = true
    · rw [if_pos hs] at H
      have h1 := ih (j + 1) (acc ++ [(row.getD j z58).f1, (row.getD j z58).f3]) (by omega) (by simp; omega) H
      exact Ev.step (fun k => by
        rw [region_cuts.l1, if_pos (by omega), if_pos (by omega), if_pos (by omega), rd58, some_pl, Option.bind_some, if_pos hs, Option.bind_some, if_pos (by simp; omega), wr_next (show j < row.length by omega) hr]) h1
    · rw [if_neg hs, List.append_nil] at H
      have h1 := ih (j + 1) acc (by omega) (by omega) H
      exact Ev.step (fun k => by
        rw [region_cuts.l1, if_pos (by omega), if_pos (by omega), if_pos (by omega), rd58, some_pl, Option.bind_some, if_neg hs, wr_next (show j < row.length by omega) hr]) h1
theorem cuts_l0 (ls : List (List S58)) (hl : ls.length ≤ 4) (hr : ∀ r ∈ ls, r.length ≤ 274877906944) : ∀ m i (acc : List Int), i + m = ls.length → acc.length + 549755813888 * m ≤ 8796093022208 →
    Ev (fun k => region_cuts.l0 k acc ls ls.length (i : Int)) (distinctL (acc ++ (ls.drop i).flatMap cutsS)) := by
  intro m
  induction m with
  | zero =>
    intro i acc hi hb
    rw [show i = ls.length by omega, List.drop_length, List.flatMap_nil, List.append_nil]
    refine Ev.step (f := fun _ => some (distinctL acc)) (fun k => ?_) (Ev.now _)
    rw [region_cuts.l0, if_neg (by omega)]
    unfold E_distinct.f
    rw [if_pos (by omega)]
    rfl
  | succ m ih =>
    intro i acc hi hb
    have hd := drop_get ls [] i (by omega)
    have hmem : ls.getD i [] ∈ ls := by
      rw [List.getD_eq_getElem?_getD, List.getElem?_eq_getElem (show i < ls.length by omega)]
      exact List.getElem_mem _
    have hlen := hr _ hmem
    have hcl := cutsS_length (ls.getD i [])
    rw [hd, List.flatMap_cons, ← List.append_assoc]
    have h1 := ih (i + 1) (acc ++ cutsS (ls.getD i [])) (by omega) (by rw [List.length_append]; omega)
    have h2 := cuts_l1 ls ls.length (i : Int) (ls.getD i []) (by omega) (distinctL ((acc ++ cutsS (ls.getD i [])) ++ (ls.drop (i + 1)).flatMap cutsS)) (ls.getD i []).length 0 acc (by omega) (by omega)
    rw [List.drop_zero, wr_next (show i < ls.length by omega) (by omega)] at h2
    exact Ev.step (fun k => by rw [region_cuts.l0, if_pos (by omega), if_pos (by omega), if_pos (by omega), rdL3]; rfl) (h2 h1)
theorem cuts_pl (ls : List (List S58)) (hl : ls.length ≤ 4) (hr : ∀ r ∈ ls, r.length ≤ 274877906944) : Ev (fun k => region_cuts.f k ls) (distinctL (ls.flatMap cutsS)) := by
  have := cuts_l0 ls hl hr ls.length 0 [] (by omega) (by simp; omega)
  rwa [List.drop_zero, List.nil_append] at this
end Go.Proofs.Ytcoegjdnobiogaa.PG
