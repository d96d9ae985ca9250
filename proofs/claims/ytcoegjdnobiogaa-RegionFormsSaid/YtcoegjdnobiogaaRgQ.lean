/- What region's functions answer, plainly: told, row, equal spans, moved. -/
import Derived.Test.YtcoegjdnobiogaaRgP
set_option linter.unusedVariables false
set_option linter.unusedSimpArgs false
namespace Go.Proofs.Ytcoegjdnobiogaa.PG
open Go.RowKit Go.Proofs.YtcoegjdnobiogaaW.PrintWords Go.Proofs.YtcoegjdnobiogaaW.PrintLast Go.Proofs.YtcoegjdnobiogaaW.PrintMore
open Rle

theorem rd114 (l : List S114) (i : Nat) : rd_T114 l (i : Int) = l.getD i z114 := by unfold rd_T114; rw [Int.toNat_natCast]
theorem rd112 (l : List S112) (i : Nat) : rd_T112 l (i : Int) = l.getD i z112 := by unfold rd_T112; rw [Int.toNat_natCast]
/-- Is a rectangle near? -/
def nearR (r : R4) : Bool := !([r.x0, r.x1, r.y0, r.y1].any farB)
/-- The rectangles of a band. -/
def bandR (x y : Int) (S : List S114) : List R4 := S.map fun s => ⟨s.f0, x, s.f1, y⟩
def toldS (L : List R4) : List S58 × Int := if L.all nearR then (if L.length ≤ 4096 then (L.map ofR, 0) else ([], 60)) else ([], 61)
/-- What is told by now: the first rectangles, and whether there are more. -/
def outOf (P : List R4) : List S58 := (P.take 4096).map ofR
theorem told_l1 (Bs : List S112) (n i : Int) (S : List S114) (hS : S.length ≤ 1099511627776) (x y : Int) (w : List S114) (R : List S58 × Int) : ∀ m j (P : List R4), j + m = S.length →
    ((bandR x y (S.drop j)).all nearR = true → Ev (fun k => region_told.l0 k (outOf (P ++ bandR x y (S.drop j))) (decide ((P ++ bandR x y (S.drop j)).length > 4096)) Bs n (wrap64 (i + 1))) R) →
    ((bandR x y (S.drop j)).all nearR = false → R = ([], 61)) →
    Ev (fun k => region_told.l1 k (outOf P) (decide (P.length > 4096)) Bs n i S S.length (j : Int) x y w) R := by
  intro m
  induction m with
  | zero =>
    intro j P hj H G
    rw [show j = S.length by omega, List.drop_length] at H
    have h1 := H rfl
    rw [show bandR x y [] = [] from rfl, List.append_nil] at h1
    exact Ev.step (fun k => by rw [region_told.l1, if_neg (by omega)]) h1
  | succ m ih =>
    intro j P hj H G
    have hd := drop_get S z114 j (by omega)
    have hb : bandR x y (S.drop j) = ⟨(S.getD j z114).f0, x, (S.getD j z114).f1, y⟩ :: bandR x y (S.drop (j + 1)) := by rw [hd]; rfl
    have hn := near_pl [(S.getD j z114).f0, (S.getD j z114).f1, x, y] (by simp)
    rw [hb] at H G
    refine Ev.step (f := fun k => (region_near.f k [(S.getD j z114).f0, (S.getD j z114).f1, x, y]).bind fun t133 => (if t133 = true then (if ((outOf P).length : Int) = 4096 then (region_told.l1 k (outOf P) true Bs n i S S.length ((j + 1 : Nat) : Int) x y w) else (if (outOf P).length < 4398046511104 then (region_told.l1 k (outOf P ++ [(⟨(S.getD j z114).f0, x, (S.getD j z114).f1, y⟩ : S58)]) (decide (P.length > 4096)) Bs n i S S.length ((j + 1 : Nat) : Int) x y w) else (none))) else (some (([] : List (S58)), 61))))
      (fun k => by rw [region_told.l1, if_pos (by omega), if_pos (by omega), if_pos (by omega), rd114, wr_next (show j < S.length by omega) hS]) ?_
    refine Ev.bind hn ?_
    by_cases hf : ([(S.getD j z114).f0, (S.getD j z114).f1, x, y].any farB) = true
    · rw [hf]
      have := G (by rw [List.all_cons]; show (!([(S.getD j z114).f0, (S.getD j z114).f1, x, y].any farB) && _) = false; rw [hf]; rfl)
      rw [this]
      exact Ev.now _
    · have hf' := Bool.eq_false_iff.2 hf
      have e1 : ∀ L, (⟨(S.getD j z114).f0, x, (S.getD j z114).f1, y⟩ :: L : List R4).all nearR = L.all nearR := fun L => by
        rw [List.all_cons]; show (!([(S.getD j z114).f0, (S.getD j z114).f1, x, y].any farB) && _) = _; rw [hf']; rfl
      rw [e1] at H G
      rw [hf']
      show Ev (fun k => if (!false) = true then _ else _) R
      simp only [Bool.not_false, if_true]
      have hlen : (outOf P).length = min 4096 P.length := by unfold outOf; rw [List.length_map, List.length_take]
      have h1 := ih (j + 1) (P ++ [⟨(S.getD j z114).f0, x, (S.getD j z114).f1, y⟩]) (by omega) (by rw [List.append_assoc]; exact H) G
      by_cases h4 : 4096 ≤ P.length
      · have e2 : ((outOf P).length : Int) = 4096 := by omega
        simp only [if_pos e2]
        have e3 : outOf (P ++ [⟨(S.getD j z114).f0, x, (S.getD j z114).f1, y⟩]) = outOf P := by
          unfold outOf
          rw [List.take_append_of_le_length h4]
        rw [e3, decide_eq_true (show (P ++ [(⟨(S.getD j z114).f0, x, (S.getD j z114).f1, y⟩ : R4)]).length > 4096 by rw [List.length_append, List.length_cons, List.length_nil]; omega)] at h1
        exact h1
      · have e2 : ¬ ((outOf P).length : Int) = 4096 := by omega
        simp only [if_neg e2, if_pos (show (outOf P).length < 4398046511104 by omega)]
        have e3 : outOf (P ++ [⟨(S.getD j z114).f0, x, (S.getD j z114).f1, y⟩]) = outOf P ++ [(⟨(S.getD j z114).f0, x, (S.getD j z114).f1, y⟩ : S58)] := by
          unfold outOf
          rw [List.take_of_length_le (show P.length ≤ 4096 by omega), List.take_of_length_le (by rw [List.length_append, List.length_cons, List.length_nil]; omega), List.map_append]
          rfl
        rw [e3, decide_eq_false (show ¬ (P ++ [(⟨(S.getD j z114).f0, x, (S.getD j z114).f1, y⟩ : R4)]).length > 4096 by rw [List.length_append, List.length_cons, List.length_nil]; omega)] at h1
        rw [decide_eq_false (show ¬ P.length > 4096 by omega)]
        exact h1
def bandsR (B : List S112) : List R4 := B.flatMap fun b => bandR b.f0 b.f1 b.f2
theorem told_l0 (Bs : List S112) (hB : Bs.length ≤ 1099511627776) (hS : ∀ b ∈ Bs, b.f2.length ≤ 1099511627776) : ∀ m i (P : List R4), i + m = Bs.length → P.all nearR = true →
    Ev (fun k => region_told.l0 k (outOf P) (decide (P.length > 4096)) Bs Bs.length (i : Int)) (toldS (P ++ bandsR (Bs.drop i))) := by
  intro m
  induction m with
  | zero =>
    intro i P hi hP
    rw [show i = Bs.length by omega, List.drop_length, show bandsR [] = [] from rfl, List.append_nil]
    unfold toldS
    rw [if_pos hP]
    by_cases h4 : P.length > 4096
    · rw [if_neg (by omega), decide_eq_true h4]
      exact Ev.step (f := fun _ => some (([] : List S58), (60 : Int))) (fun k => by rw [region_told.l0, if_neg (by omega), if_pos rfl]) (Ev.now _)
    · rw [if_pos (by omega), decide_eq_false h4]
      refine Ev.step (f := fun _ => some (outOf P, (0 : Int))) (fun k => by rw [region_told.l0, if_neg (by omega), if_neg (by simp)]) ?_
      unfold outOf
      rw [List.take_of_length_le (by omega)]
      exact Ev.now _
  | succ m ih =>
    intro i P hi hP
    have hd := drop_get Bs z112 i (by omega)
    have hmem : Bs.getD i z112 ∈ Bs := by
      rw [List.getD_eq_getElem?_getD, List.getElem?_eq_getElem (show i < Bs.length by omega)]
      exact List.getElem_mem _
    have e1 : bandsR (Bs.drop i) = bandR (Bs.getD i z112).f0 (Bs.getD i z112).f1 (Bs.getD i z112).f2 ++ bandsR (Bs.drop (i + 1)) := by
      rw [hd]; unfold bandsR; rw [List.flatMap_cons]
    rw [e1, ← List.append_assoc]
    have h2 := told_l1 Bs Bs.length (i : Int) (Bs.getD i z112).f2 (hS _ hmem) (Bs.getD i z112).f0 (Bs.getD i z112).f1 (Bs.getD i z112).f2
      (toldS (P ++ bandR (Bs.getD i z112).f0 (Bs.getD i z112).f1 (Bs.getD i z112).f2 ++ bandsR (Bs.drop (i + 1)))) (Bs.getD i z112).f2.length 0 P (by omega)
    rw [List.drop_zero, wr_next (show i < Bs.length by omega) (by omega)] at h2
    refine Ev.step (fun k => by rw [region_told.l0, if_pos (by omega), if_pos (by omega), if_pos (by omega), rd112]; rfl) (h2 ?_ ?_)
    · intro hn
      exact ih (i + 1) _ (by omega) (by rw [List.all_append, hP, hn]; rfl)
    · intro hn
      unfold toldS
      rw [List.all_append, List.all_append, hn]
      simp
theorem told_pl (Bs : List S112) (hB : Bs.length ≤ 1099511627776) (hS : ∀ b ∈ Bs, b.f2.length ≤ 1099511627776) : Ev (fun k => region_told.f k Bs) (toldS (bandsR Bs)) := by
  have := told_l0 Bs hB hS Bs.length 0 [] (by omega) rfl
  rwa [List.drop_zero, List.nil_append] at this
def rowL (l : List S58) (y : Int) : List S114 := (l.filter fun r => (toR r).some && decide (r.f1 ≤ y ∧ y < r.f3)).map fun r => ⟨r.f0, r.f2⟩
theorem rowL_cons (r : S58) (l : List S58) (y : Int) : rowL (r :: l) y = (if (toR r).some = true ∧ r.f1 ≤ y ∧ y < r.f3 then [⟨r.f0, r.f2⟩] else []) ++ rowL l y := by
  unfold rowL
  rw [List.filter_cons]
  by_cases h : (toR r).some = true ∧ r.f1 ≤ y ∧ y < r.f3
  · rw [if_pos (by simp [h]), if_pos h]; rfl
  · rw [if_neg (by simpa using h), if_neg h]; rfl
theorem rowL_run (l : List S58) (y : Int) : (rowL l y).map toRun = rowS (l.map toR) y := by
  unfold rowL rowS
  rw [List.map_map, List.filter_map, List.map_map]
  rfl
theorem rowL_length (l : List S58) (y : Int) : (rowL l y).length ≤ l.length := by
  unfold rowL
  rw [List.length_map]
  exact List.length_filter_le _ _
def joinS (out : List S114) (s : S114) : List S114 := (Rle.join (out.map toRun) (toRun s)).map ofRun
theorem map_of_to (l : List S114) : (l.map toRun).map ofRun = l := by
  rw [List.map_map]
  exact List.map_id _
theorem joinS_run (out : List S114) (s : S114) : (joinS out s).map toRun = Rle.join (out.map toRun) (toRun s) := by
  unfold joinS Rle.join
  rcases List.eq_nil_or_concat out with rfl | ⟨m, t, rfl⟩
  · rfl
  · simp only [List.concat_eq_append, List.map_append, List.map_cons, List.map_nil, List.getLast?_concat]
    by_cases hj : (toRun s).a ≤ (toRun t).b
    · rw [if_pos hj, List.dropLast_concat, List.map_append, List.map_append, map_of_to]
      rfl
    · rw [if_neg hj, List.map_append, List.map_append, List.map_append, List.map_append, map_of_to]
      rfl
theorem last_get (m : List S114) (t : S114) (h : m.length ≤ 1099511627776) : wrap64 (((m ++ [t]).length : Int) - 1) = (m.length : Int) ∧ rd_T114 (m ++ [t]) (m.length : Int) = t ∧ ∀ v, (m ++ [t]).set ((m.length : Int)).toNat v = m ++ [v] := by
  refine ⟨by rw [List.length_append, List.length_cons, List.length_nil]; unfold wrap64; omega, by rw [rd114]; simp [List.getD_eq_getElem?_getD], fun v => ?_⟩
  rw [Int.toNat_natCast, List.set_append_right _ _ (Nat.le_refl _)]
  simp
theorem mx_max (a b : Int) : mx a b = max a b := by unfold mx; omega
theorem row_l1 (s : List S114) (hs : s.length ≤ 549755813888) : ∀ m i (out : List S114), i + m = s.length → out.length ≤ i → Ev (fun k => region_row.l1 k out s s.length (i : Int)) ((s.drop i).foldl joinS out) := by
  intro m
  induction m with
  | zero =>
    intro i out hi ho
    rw [show i = s.length by omega, List.drop_length]
    exact Ev.step (f := fun _ => some out) (fun k => by rw [region_row.l1, if_neg (by omega)]) (Ev.now _)
  | succ m ih =>
    intro i out hi ho
    have hd := drop_get s z114 i (by omega)
    rw [hd, List.foldl_cons]
    have hl : (joinS out (s.getD i z114)).length ≤ i + 1 := by
      unfold joinS Rle.join
      rcases List.eq_nil_or_concat out with rfl | ⟨q, t, rfl⟩
      · simp
      · simp only [List.concat_eq_append, List.map_append, List.map_cons, List.map_nil, List.getLast?_concat] at *
        split <;> simp at * <;> omega
    have h1 := ih (i + 1) (joinS out (s.getD i z114)) (by omega) hl
    refine Ev.step (fun k => ?_) h1
    rw [region_row.l1, if_pos (by omega), if_pos (by omega), if_pos (by omega), rd114, wr_next (show i < s.length by omega) (by omega)]
    unfold joinS Rle.join
    rcases List.eq_nil_or_concat out with rfl | ⟨q, t, rfl⟩
    · rw [if_neg (by simp), if_pos (by simp)]
      rfl
    · simp only [List.concat_eq_append] at *
      obtain ⟨g1, g2, g3⟩ := last_get q t (by simp at ho; omega)
      rw [if_pos (by simp), g1, if_pos (by omega), if_pos (by simp; omega), g2, g3]
      simp only [List.map_append, List.map_cons, List.map_nil, List.getLast?_concat]
      have hlt : (q ++ [t]).length < 8796093022208 := by simp at ho ⊢; omega
      by_cases hj : (s.getD i z114).f0 ≤ t.f1
      · rw [if_pos hj]
        rw [if_pos (show (toRun (s.getD i z114)).a ≤ (toRun t).b from hj), List.dropLast_concat, List.map_append, map_of_to, mx_max]
        rfl
      · rw [if_neg hj, if_pos hlt]
        rw [if_neg (show ¬ (toRun (s.getD i z114)).a ≤ (toRun t).b from hj), List.map_append, List.map_append, map_of_to]
        rfl
theorem row_l0 (l : List S58) (hl : l.length ≤ 549755813888) (y : Int) : ∀ m i (acc : List S114), i + m = l.length → acc.length ≤ i →
    Ev (fun k => region_row.l0 k y acc l l.length (i : Int)) ((Rg.sortS (acc ++ rowL (l.drop i) y)).foldl joinS []) := by
  intro m
  induction m with
  | zero =>
    intro i acc hi ha
    rw [show i = l.length by omega, List.drop_length, show rowL [] y = [] from rfl, List.append_nil]
    refine Ev.step (f := fun k => region_row.l1 k ([] : List S114) (Rg.sortS acc) (acc.length : Int) 0) (fun k => ?_) ?_
    · rw [region_row.l0, if_neg (by omega)]
      unfold E_sortSpans.f
      rw [if_pos (by omega)]
      rfl
    · have := row_l1 (Rg.sortS acc) (by rw [Rg.sortS_length]; omega) (Rg.sortS acc).length 0 [] (by omega) (by simp)
      rw [List.drop_zero, Rg.sortS_length] at this
      exact this
  | succ m ih =>
    intro i acc hi ha
    have hd := drop_get l z58 i (by omega)
    rw [hd, rowL_cons, ← List.append_assoc]
    have h1 := ih (i + 1) (acc ++ if (toR (l.getD i z58)).some = true ∧ (l.getD i z58).f1 ≤ y ∧ y < (l.getD i z58).f3 then [⟨(l.getD i z58).f0, (l.getD i z58).f2⟩] else []) (by omega) (by rw [List.length_append]; split <;> simp <;> omega)
    refine Ev.step (fun k => ?_) h1
    rw [region_row.l0, if_pos (by omega), if_pos (by omega), if_pos (by omega), rd58, some_pl, Option.bind_some, wr_next (show i < l.length by omega) (by omega)]
    by_cases c1 : (toR (l.getD i z58)).some = true
    · rw [if_pos c1]
      by_cases c2 : (l.getD i z58).f1 ≤ y
      · rw [if_pos c2]
        by_cases c3 : y < (l.getD i z58).f3
        · rw [if_pos c3, if_pos (by omega), if_pos ⟨c1, c2, c3⟩]
        · rw [if_neg c3, if_neg (fun h => c3 h.2.2), List.append_nil]
      · rw [if_neg c2, if_neg (fun h => c2 h.2.1), List.append_nil]
    · rw [if_neg c1, if_neg (fun h => c1 h.1), List.append_nil]
def rowP (l : List S58) (y : Int) : List S114 := (Rg.sortS (rowL l y)).foldl joinS []
theorem row_pl (l : List S58) (hl : l.length ≤ 549755813888) (y : Int) : Ev (fun k => region_row.f k l y) (rowP l y) := by
  have := row_l0 l hl y l.length 0 [] (by omega) (by simp)
  rwa [List.drop_zero, List.nil_append] at this
theorem foldl_run (s : List S114) : ∀ out : List S114, (s.foldl joinS out).map toRun = (s.map toRun).foldl Rle.join (out.map toRun) := by
  induction s with
  | nil => intro out; rfl
  | cons a s ih => intro out; rw [List.foldl_cons, ih, joinS_run, List.map_cons, List.foldl_cons]
theorem rowP_is (l : List S58) (y : Int) : IsRow (l.map toR) y ((rowP l y).map toRun) ∧ ((rowP l y).map toRun).length ≤ (rowS (l.map toR) y).length := by
  unfold rowP
  rw [foldl_run]
  obtain ⟨h1, h2⟩ := Rg.sortS_spec (rowL l y)
  refine row_joins (l.map toR) y ((Rg.sortS (rowL l y)).map toRun) ?_ ?_
  · rw [← rowL_run]; exact h1.map _
  · rw [List.pairwise_map]; exact h2
instance : DecidableEq S114 := fun a b => by
  cases a with | mk a1 a2 => cases b with | mk b1 b2 =>
    exact if h : a1 = b1 ∧ a2 = b2 then isTrue (by obtain ⟨rfl, rfl⟩ := h; rfl) else isFalse (fun e => by cases e; exact h ⟨rfl, rfl⟩)
theorem eq_l0 (a b : List S114) (hab : a.length = b.length) (ha : a.length ≤ 1099511627776) : ∀ m i, i + m = a.length → Ev (fun k => region_span_129.l0 k a b a.length (i : Int)) (decide (a.drop i = b.drop i)) := by
  intro m
  induction m with
  | zero =>
    intro i hi
    rw [show a.drop i = [] from List.drop_eq_nil_of_le (by omega), show b.drop i = [] from List.drop_eq_nil_of_le (by omega)]
    exact Ev.step (f := fun _ => some true) (fun k => by rw [region_span_129.l0, if_neg (by omega)]) (Ev.now _)
  | succ m ih =>
    intro i hi
    have hd := drop_get a z114 i (by omega)
    have he := drop_get b z114 i (by omega)
    have h1 := ih (i + 1) (by omega)
    have e1 : (!((a.getD i z114).f0 == (b.getD i z114).f0) || (!((a.getD i z114).f1 == (b.getD i z114).f1))) = !(decide (a.getD i z114 = b.getD i z114)) := by
      cases a.getD i z114 with | mk a1 a2 => cases b.getD i z114 with | mk b1 b2 => simp [Bool.beq_eq_decide_eq]
    rw [hd, he]
    by_cases hs : a.getD i z114 = b.getD i z114
    · rw [show decide (a.getD i z114 :: a.drop (i + 1) = b.getD i z114 :: b.drop (i + 1)) = decide (a.drop (i + 1) = b.drop (i + 1)) from by rw [decide_eq_decide, List.cons.injEq]; exact ⟨fun h => h.2, fun h => ⟨hs, h⟩⟩]
      refine Ev.step (fun k => ?_) h1
      rw [region_span_129.l0, if_pos (by omega), if_pos (by omega), if_pos (by omega), if_pos (by omega), rd114, rd114, e1, decide_eq_true hs, if_neg (by simp), wr_next (show i < a.length by omega) ha]
    · rw [decide_eq_false (fun h => hs (List.cons.inj h).1)]
      exact Ev.step (f := fun _ => some false) (fun k => by rw [region_span_129.l0, if_pos (by omega), if_pos (by omega), if_pos (by omega), if_pos (by omega), rd114, rd114, e1, decide_eq_false hs, if_pos (by simp)]) (Ev.now _)
theorem eq_pl (a b : List S114) (ha : a.length ≤ 1099511627776) : Ev (fun k => region_span_129.f k a b) (decide (a = b)) := by
  unfold region_span_129.f
  by_cases h : a.length = b.length
  · simp only [if_pos (show (a.length : Int) = b.length by omega)]
    have := eq_l0 a b h ha a.length 0 (by omega)
    rwa [List.drop_zero, List.drop_zero] at this
  · simp only [if_neg (show ¬ (a.length : Int) = b.length by omega)]
    rw [decide_eq_false (fun e => h (by rw [e]))]
    exact Ev.now _
def movS (l t r b : Int) (q : S58) : S58 := ⟨wrap64 (q.f0 - l), wrap64 (q.f1 - t), wrap64 (q.f2 + r), wrap64 (q.f3 + b)⟩
def movedS (a : List S58) (l t r b : Int) : List S58 := (a.filter fun q => (toR q).some).map (movS l t r b)
theorem moved_l0 (a : List S58) (ha : a.length ≤ 549755813888) (l t r b : Int) : ∀ m i (acc : List S58), i + m = a.length → acc.length ≤ i → Ev (fun k => region_moved.l0 k l t r b acc a a.length (i : Int)) (acc ++ movedS (a.drop i) l t r b) := by
  intro m
  induction m with
  | zero =>
    intro i acc hi hc
    rw [show i = a.length by omega, List.drop_length, show movedS [] l t r b = [] from rfl, List.append_nil]
    exact Ev.step (f := fun _ => some acc) (fun k => by rw [region_moved.l0, if_neg (by omega)]) (Ev.now _)
  | succ m ih =>
    intro i acc hi hc
    have hd := drop_get a z58 i (by omega)
    by_cases c1 : (toR (a.getD i z58)).some = true
    · have e1 : movedS (a.drop i) l t r b = movS l t r b (a.getD i z58) :: movedS (a.drop (i + 1)) l t r b := by
        rw [hd]; unfold movedS; rw [List.filter_cons, if_pos c1, List.map_cons]
      have h1 := ih (i + 1) (acc ++ [movS l t r b (a.getD i z58)]) (by omega) (by simp; omega)
      rw [e1]
      rw [List.append_assoc] at h1
      exact Ev.step (fun k => by rw [region_moved.l0, if_pos (by omega), if_pos (by omega), if_pos (by omega), rd58, some_pl, Option.bind_some, if_pos c1, if_pos (by omega), wr_next (show i < a.length by omega) (by omega)]; rfl) h1
    · have e1 : movedS (a.drop i) l t r b = movedS (a.drop (i + 1)) l t r b := by
        rw [hd]; unfold movedS; rw [List.filter_cons, if_neg c1]
      have h1 := ih (i + 1) acc (by omega) (by omega)
      rw [e1]
      exact Ev.step (fun k => by rw [region_moved.l0, if_pos (by omega), if_pos (by omega), if_pos (by omega), rd58, some_pl, Option.bind_some, if_neg c1, wr_next (show i < a.length by omega) (by omega)]) h1
theorem moved_pl (a : List S58) (ha : a.length ≤ 549755813888) (l t r b : Int) : Ev (fun k => region_moved.f k a l t r b) (movedS a l t r b) := by
  have := moved_l0 a ha l t r b a.length 0 [] (by omega) (by simp)
  rwa [List.drop_zero, List.nil_append] at this
end Go.Proofs.Ytcoegjdnobiogaa.PG
