/- What region's functions answer, plainly: merge, sweep. -/
import Derived.Test.YtcoegjdnobiogaaRgQ
import Derived.Test.YtcoegjdnobiogaaRgN
set_option linter.unusedVariables false
set_option linter.unusedSimpArgs false
namespace Go.Proofs.Ytcoegjdnobiogaa.PG
open Go.RowKit Go.Proofs.YtcoegjdnobiogaaW.PrintWords Go.Proofs.YtcoegjdnobiogaaW.PrintLast Go.Proofs.YtcoegjdnobiogaaW.PrintMore
open Rle

theorem rdI (l : List Int) (i : Nat) : rd l (i : Int) = l.getD i 0 := by unfold rd; rw [Int.toNat_natCast]
def endsS (s : List S114) : List Int := s.flatMap fun r => [r.f0, r.f1]
theorem endsS_run (s : List S114) : endsS s = ends (s.map toRun) := by
  unfold endsS ends
  rw [List.flatMap_map]
  rfl
theorem in_pl (s : List S114) (hs : s.length ≤ 1099511627776) (x : Int) : E_in.f s x = some (at_ false (s.map toRun) x) := by
  unfold E_in.f
  rw [if_pos (by omega)]
  congr 1
  induction s with
  | nil => rfl
  | cons r s ih =>
    have ih' := ih (by simp at hs; omega)
    rw [List.any_cons, ih', List.map_cons, at_]
    by_cases hx : r.f0 ≤ x ∧ x < r.f1
    · rw [decide_eq_true hx, if_pos (show (toRun r).a ≤ x ∧ x < (toRun r).b from hx)]; rfl
    · rw [decide_eq_false hx, if_neg (show ¬ ((toRun r).a ≤ x ∧ x < (toRun r).b) from hx)]; rfl
/-- The last one of a printed list of spans. -/
theorem last_get2 (m : List (Run Bool)) (t : Run Bool) (h : m.length ≤ 1099511627776) : (((m ++ [t]).map ofRun).length : Int) > 0 ∧ wrap64 ((((m ++ [t]).map ofRun).length : Int) - 1) = (m.length : Int) ∧ ((m.length : Int) < (((m ++ [t]).map ofRun).length : Int)) ∧ rd_T114 ((m ++ [t]).map ofRun) (m.length : Int) = ofRun t ∧
    ∀ v, ((m ++ [t]).map ofRun).set ((m.length : Int)).toNat (ofRun v) = (m ++ [v]).map ofRun := by
  refine ⟨by simp, by simp; unfold wrap64; omega, by simp; omega, by rw [rd114]; simp [List.getD_eq_getElem?_getD], fun v => ?_⟩
  rw [Int.toNat_natCast, List.map_append, List.map_append, List.set_append_right _ _ (by simp)]
  simp
theorem push_length {α : Type} [DecidableEq α] (O : List (Run α)) (r : Run α) : (push O r).length ≤ O.length + 1 := by
  unfold push
  rcases List.eq_nil_or_concat O with rfl | ⟨m, s, rfl⟩
  · simp
  · simp only [List.concat_eq_append]
    rw [List.getLast?_concat]
    by_cases hj : s.b = r.a ∧ s.v = r.v
    · simp only [if_pos hj]; simp
    · simp only [if_neg hj]; simp
theorem push_true (O : List (Run Bool)) (r : Run Bool) (hO : ∀ s ∈ O, s.v = true) (hr : r.v = true) : ∀ s ∈ push O r, s.v = true := by
  unfold push
  rcases List.eq_nil_or_concat O with rfl | ⟨m, t, rfl⟩
  · simp [hr]
  · simp only [List.concat_eq_append] at *
    rw [List.getLast?_concat]
    intro s hs
    by_cases hj : t.b = r.a ∧ t.v = r.v
    · simp only [if_pos hj, List.dropLast_concat] at hs
      rcases List.mem_append.1 hs with hs | hs
      · exact hO s (by simp [hs])
      · simp at hs; rw [hs]; exact hO t (by simp)
    · simp only [if_neg hj] at hs
      rcases List.mem_append.1 hs with hs | hs
      · exact hO s hs
      · simp at hs; rw [hs]; exact hr
theorem drop_two (cs : List Int) (i : Nat) (h : i + 1 < cs.length) : cs.drop i = cs.getD i 0 :: cs.getD (i + 1) 0 :: cs.drop (i + 2) := by
  rw [drop_get cs 0 i (by omega), drop_get cs 0 (i + 1) (by omega)]
theorem merge_l1 (kp : KP) (a b : List S114) (ha : a.length ≤ 1099511627776) (hb : b.length ≤ 1099511627776) (cs : List Int) (hc : cs.length ≤ 1099511627776) : ∀ m i (O : List (Run Bool)), i + m = cs.length → O.length ≤ i → (∀ s ∈ O, s.v = true) →
    Ev (fun k => region_mergeG.l1 kp k a b cs (O.map ofRun) (i : Int)) ((go false (fun x => kp (at_ false (a.map toRun) x) (at_ false (b.map toRun) x)) O (cs.drop i)).map ofRun) := by
  intro m
  induction m with
  | zero =>
    intro i O hi hO ht
    rw [show cs.drop i = [] from List.drop_eq_nil_of_le (by omega)]
    refine Ev.step (f := fun _ => some (O.map ofRun)) (fun k => ?_) (Ev.now _)
    rw [region_mergeG.l1, if_neg (by unfold wrap64; omega)]
  | succ m ih =>
    intro i O hi hO ht
    have hw := wr_next (show i < cs.length by omega) hc
    by_cases hm : m = 0
    · have e : cs.drop i = [cs.getD i 0] := by rw [drop_get cs 0 i (by omega), List.drop_eq_nil_of_le (by omega)]
      rw [e, show go false (fun x => kp (at_ false (a.map toRun) x) (at_ false (b.map toRun) x)) O [cs.getD i 0] = O from rfl]
      refine Ev.step (f := fun _ => some (O.map ofRun)) (fun k => ?_) (Ev.now _)
      rw [region_mergeG.l1, hw, if_neg (by omega)]
    · rw [drop_two cs i (by omega), go]
      have e2 : cs.getD (i + 1) 0 :: cs.drop (i + 2) = cs.drop (i + 1) := (drop_get cs 0 (i + 1) (by omega)).symm
      rw [e2]
      have hrd1 : rd cs (((i + 1 : Nat) : Int)) = cs.getD (i + 1) 0 := rdI cs (i + 1)
      by_cases hk : kp (at_ false (a.map toRun) (cs.getD i 0)) (at_ false (b.map toRun) (cs.getD i 0)) = true
      · have hk' : ¬ kp (at_ false (a.map toRun) (cs.getD i 0)) (at_ false (b.map toRun) (cs.getD i 0)) = false := by rw [hk]; decide
        rw [if_neg hk']
        have h1 := ih (i + 1) (push O ⟨cs.getD i 0, cs.getD (i + 1) 0, true⟩) (by omega) (Nat.le_trans (push_length _ _) (by omega)) (push_true _ _ ht rfl)
        rw [hk]
        refine Ev.step (fun k => ?_) h1
        rw [region_mergeG.l1, hw, if_pos (by omega), if_pos (by omega), if_pos (by omega), rdI, in_pl a ha, Option.bind_some, in_pl b hb, Option.bind_some, keepF.f, Option.bind_some, if_pos hk, hrd1]
        rcases List.eq_nil_or_concat O with rfl | ⟨q, t, rfl⟩
        · rw [if_neg (by simp), if_pos (by omega), if_pos (by simp)]
          rfl
        · simp only [List.concat_eq_append] at *
          obtain ⟨g0, g1, g2, g3, g4⟩ := last_get2 q t (by simp at hO; omega)
          have htt := ht t (by simp)
          rw [if_pos g0, g1, if_pos (by omega), if_pos g2, g3]
          have e3 : push (q ++ [t]) (⟨cs.getD i 0, cs.getD (i + 1) 0, true⟩ : Run Bool) = if t.b = cs.getD i 0 then q ++ [⟨t.a, cs.getD (i + 1) 0, true⟩] else q ++ [t] ++ [⟨cs.getD i 0, cs.getD (i + 1) 0, true⟩] := by
            unfold push
            rw [List.getLast?_concat]
            by_cases hj : t.b = cs.getD i 0
            · rw [if_pos hj]
              simp only [if_pos (⟨hj, htt⟩ : t.b = cs.getD i 0 ∧ t.v = true), List.dropLast_concat]
              rw [htt]
            · rw [if_neg hj]
              simp only [if_neg (fun h => hj h.1 : ¬ (t.b = cs.getD i 0 ∧ t.v = true))]
          rw [e3]
          by_cases hj : t.b = cs.getD i 0
          · rw [if_pos (show (ofRun t).f1 = cs.getD i 0 from hj), if_pos hj, if_pos (by omega)]
            rw [show (⟨(ofRun t).f0, cs.getD (i + 1) 0⟩ : S114) = ofRun ⟨t.a, cs.getD (i + 1) 0, true⟩ from rfl, g4]
          · rw [if_neg (show ¬ (ofRun t).f1 = cs.getD i 0 from hj), if_neg hj, if_pos (by omega), if_pos (by simp at hO ⊢; omega), List.map_append (l₁ := q ++ [t])]
            rfl
      · rw [if_pos (Bool.eq_false_iff.2 hk)]
        have h1 := ih (i + 1) O (by omega) (by omega) ht
        refine Ev.step (fun k => ?_) h1
        rw [region_mergeG.l1, hw, if_pos (by omega), if_pos (by omega), if_pos (by omega), rdI, in_pl a ha, Option.bind_some, in_pl b hb, Option.bind_some, keepF.f, Option.bind_some, if_neg hk]
theorem merge_l0 (kp : KP) (a b : List S114) (ha : a.length ≤ 1099511627776) (hb : b.length ≤ 1099511627776) (S : List S114) (hS : S.length ≤ 274877906944) : ∀ m i (acc : List Int), i + m = S.length → acc.length ≤ 2 * i →
    Ev (fun k => region_mergeG.l0 kp k a b acc S S.length (i : Int)) ((go false (fun x => kp (at_ false (a.map toRun) x) (at_ false (b.map toRun) x)) [] (distinctL (acc ++ endsS (S.drop i)))).map ofRun) := by
  intro m
  induction m with
  | zero =>
    intro i acc hi hc
    rw [show i = S.length by omega, List.drop_length, show endsS [] = [] from rfl, List.append_nil]
    have hd := distinctL_length acc
    have h1 := merge_l1 kp a b ha hb (distinctL acc) (by omega) (distinctL acc).length 0 [] (by omega) (by simp) (by simp)
    rw [List.drop_zero] at h1
    refine Ev.step (fun k => ?_) h1
    rw [region_mergeG.l0, if_neg (by omega)]
    unfold E_distinct.f
    rw [if_pos (by omega)]
    rfl
  | succ m ih =>
    intro i acc hi hc
    have hd := drop_get S z114 i (by omega)
    have e : endsS (S.drop i) = [(S.getD i z114).f0, (S.getD i z114).f1] ++ endsS (S.drop (i + 1)) := by rw [hd]; unfold endsS; rw [List.flatMap_cons]
    rw [e, ← List.append_assoc]
    have h1 := ih (i + 1) (acc ++ [(S.getD i z114).f0, (S.getD i z114).f1]) (by omega) (by simp; omega)
    refine Ev.step (fun k => ?_) h1
    rw [region_mergeG.l0, if_pos (by omega), if_pos (by omega), if_pos (by omega), rd114, Option.bind_some, if_pos (by simp; omega), wr_next (show i < S.length by omega) (by omega)]
theorem total2 (a b : List S114) : Rg.total [a, b] = a.length + b.length := by simp [Rg.total]
theorem merge_pl (kp : KP) (a b : List S114) (ha : a.length ≤ 137438953472) (hb : b.length ≤ 137438953472) : Ev (fun k => region_mergeG.f k a b kp) ((mergeF kp (a.map toRun) (b.map toRun)).map ofRun) := by
  have h1 := merge_l0 kp a b (by omega) (by omega) (a ++ b) (by rw [List.length_append]; omega) (a ++ b).length 0 [] (by omega) (by simp)
  rw [List.drop_zero, List.nil_append] at h1
  have e : endsS (a ++ b) = ends (a.map toRun) ++ ends (b.map toRun) := by
    unfold endsS
    rw [List.flatMap_append]
    exact congr (congrArg _ (endsS_run a)) (endsS_run b)
  rw [e] at h1
  unfold region_mergeG.f E_concat.f
  rw [total2]
  simp only [if_pos (show a.length + b.length < 8796093022208 ∧ ([a, b] : List (List S114)).length ≤ 4611686018427387904 from ⟨by omega, by simp⟩), Option.bind_some]
  rw [show ([a, b] : List (List S114)).flatten = a ++ b by simp]
  exact h1
theorem last_get3 (m : List (Run (List (Run Bool)))) (t : (Run (List (Run Bool)))) (h : m.length ≤ 1099511627776) : (((m ++ [t]).map ofBand).length : Int) > 0 ∧ wrap64 ((((m ++ [t]).map ofBand).length : Int) - 1) = (m.length : Int) ∧ ((m.length : Int) < (((m ++ [t]).map ofBand).length : Int)) ∧ rd_T112 ((m ++ [t]).map ofBand) (m.length : Int) = ofBand t ∧
    ∀ v, ((m ++ [t]).map ofBand).set ((m.length : Int)).toNat (ofBand v) = (m ++ [v]).map ofBand := by
  refine ⟨by simp, by simp; unfold wrap64; omega, by simp; omega, by rw [rd112]; simp [List.getD_eq_getElem?_getD], fun v => ?_⟩
  rw [Int.toNat_natCast, List.map_append, List.map_append, List.set_append_right _ _ (by simp)]
  simp
theorem ofRun_inj : ∀ (a b : List (Run Bool)), (∀ s ∈ a, s.v = true) → (∀ s ∈ b, s.v = true) → a.map ofRun = b.map ofRun → a = b
  | [], [], _, _, _ => rfl
  | [], _ :: _, _, _, h => by simp at h
  | _ :: _, [], _, _, h => by simp at h
  | x :: a, y :: b, ha, hb, h => by
    simp only [List.map_cons, List.cons.injEq] at h
    have h1 := ha x (by simp)
    have h2 := hb y (by simp)
    have h3 : x = y := by
      cases x; cases y; simp only [ofRun, S114.mk.injEq] at h; simp_all
    rw [h3, ofRun_inj a b (fun s hs => ha s (by simp [hs])) (fun s hs => hb s (by simp [hs])) h.2]
def okBands (O : List (Run (List (Run Bool)))) : Prop := ∀ b ∈ O, (∀ s ∈ b.v, s.v = true) ∧ b.v.length ≤ 1099511627776
theorem push_ok (O : List (Run (List (Run Bool)))) (r : (Run (List (Run Bool)))) (hO : okBands O) (hr : (∀ s ∈ r.v, s.v = true) ∧ r.v.length ≤ 1099511627776) : okBands (push O r) := by
  unfold push
  rcases List.eq_nil_or_concat O with rfl | ⟨m, t, rfl⟩
  · intro s hs; simp at hs; rw [hs]; exact hr
  · simp only [List.concat_eq_append] at *
    rw [List.getLast?_concat]
    intro s hs
    by_cases hj : t.b = r.a ∧ t.v = r.v
    · simp only [if_pos hj, List.dropLast_concat] at hs
      rcases List.mem_append.1 hs with hs | hs
      · exact hO s (by simp [hs])
      · simp at hs; rw [hs]; exact hO t (by simp)
    · simp only [if_neg hj] at hs
      rcases List.mem_append.1 hs with hs | hs
      · exact hO s hs
      · simp at hs; rw [hs]; exact hr
/-- The rows that the printed text tells, as runs. -/
def rowR (l : List S58) (y : Int) : List (Run Bool) := (rowP l y).map toRun
theorem rowP_length (l : List S58) (y : Int) : (rowP l y).length ≤ l.length := by
  have h1 := (rowP_is l y).2
  rw [List.length_map, ← rowL_run, List.length_map] at h1
  exact Nat.le_trans h1 (rowL_length l y)
theorem sweep_l0 (kp : KP) (h0 : kp false false = false) (a b : List S58) (ha : a.length ≤ 34359738368) (hb : b.length ≤ 34359738368) (cs : List Int) (hc : cs.length ≤ 1099511627776) : ∀ m i (O : List (Run (List (Run Bool)))), i + m = cs.length → O.length ≤ i → okBands O →
    Ev (fun k => region_sweepG.l0 k a b kp cs (O.map ofBand) (i : Int)) ((go [] (fun y => mergeF kp (rowR a y) (rowR b y)) O (cs.drop i)).map ofBand) := by
  intro m
  induction m with
  | zero =>
    intro i O hi hO ht
    rw [show cs.drop i = [] from List.drop_eq_nil_of_le (by omega)]
    refine Ev.step (f := fun _ => some (O.map ofBand)) (fun k => ?_) (Ev.now _)
    rw [region_sweepG.l0, if_neg (by unfold wrap64; omega)]
  | succ m ih =>
    intro i O hi hO ht
    have hw := wr_next (show i < cs.length by omega) hc
    by_cases hm : m = 0
    · have e : cs.drop i = [cs.getD i 0] := by rw [drop_get cs 0 i (by omega), List.drop_eq_nil_of_le (by omega)]
      rw [e, show go [] (fun y => mergeF kp (rowR a y) (rowR b y)) O [cs.getD i 0] = O from rfl]
      refine Ev.step (f := fun _ => some (O.map ofBand)) (fun k => ?_) (Ev.now _)
      rw [region_sweepG.l0, hw, if_neg (by omega)]
    · rw [drop_two cs i (by omega), go]
      have e2 : cs.getD (i + 1) 0 :: cs.drop (i + 2) = cs.drop (i + 1) := (drop_get cs 0 (i + 1) (by omega)).symm
      rw [e2]
      have hrd1 : rd cs (((i + 1 : Nat) : Int)) = cs.getD (i + 1) 0 := rdI cs (i + 1)
      obtain ⟨c, hcc⟩ : ∃ c, cs.getD i 0 = c := ⟨_, rfl⟩
      obtain ⟨d, hdd⟩ : ∃ d, cs.getD (i + 1) 0 = d := ⟨_, rfl⟩
      have hA := row_pl a (by omega) c
      have hB := row_pl b (by omega) c
      have la := rowP_length a c
      have lb := rowP_length b c
      have hM := merge_pl kp (rowP a c) (rowP b c) (by omega) (by omega)
      have hMn := mergeF_spec kp h0 (rowR a c) (rowR b c)
      have hMt := norm_true hMn.1
      have hMl := mergeF_length kp (rowR a c) (rowR b c)
      obtain ⟨F, hF⟩ : ∃ F, mergeF kp (rowR a c) (rowR b c) = F := ⟨_, rfl⟩
      rw [show mergeF kp ((rowP a c).map toRun) ((rowP b c).map toRun) = F from hF] at hM
      rw [hF] at hMt hMl
      have hFl : F.length ≤ 1099511627776 := by
        unfold rowR at hMl
        rw [List.length_map, List.length_map] at hMl
        omega
      rw [hcc, hdd, hF]
      let BODY : Nat → List S114 → Option (List S112) := fun k t214 => (if ((t214.length : Nat) : Int) = 0 then (region_sweepG.l0 k a b kp cs (O.map ofBand) ((i + 1 : Nat) : Int)) else (if ((O.map ofBand).length : Int) > 0 then (if 0 ≤ (wrap64 (((O.map ofBand).length : Int) - 1)) then (if (wrap64 (((O.map ofBand).length : Int) - 1)) < ((O.map ofBand).length : Int) then (if ((rd_T112 (O.map ofBand) (wrap64 (((O.map ofBand).length : Int) - 1))).f1) = c then ((region_span_129.f k ((rd_T112 (O.map ofBand) (wrap64 (((O.map ofBand).length : Int) - 1))).f2) t214).bind fun t220 => (if t220 = true then (if 0 ≤ ((i + 1 : Nat) : Int) then (region_sweepG.l0 k a b kp cs ((O.map ofBand).set ((wrap64 (((O.map ofBand).length : Int) - 1)) : Int).toNat (⟨(rd_T112 (O.map ofBand) (wrap64 (((O.map ofBand).length : Int) - 1))).f0, d, (rd_T112 (O.map ofBand) (wrap64 (((O.map ofBand).length : Int) - 1))).f2⟩ : S112)) ((i + 1 : Nat) : Int)) else (none)) else (if 0 ≤ ((i + 1 : Nat) : Int) then (if (O.map ofBand).length < 3518437208883 then (region_sweepG.l0 k a b kp cs ((O.map ofBand) ++ [(⟨c, d, t214⟩ : S112)]) ((i + 1 : Nat) : Int)) else (none)) else (none)))) else (if 0 ≤ ((i + 1 : Nat) : Int) then (if (O.map ofBand).length < 3518437208883 then (region_sweepG.l0 k a b kp cs ((O.map ofBand) ++ [(⟨c, d, t214⟩ : S112)]) ((i + 1 : Nat) : Int)) else (none)) else (none))) else (none)) else (none)) else (if 0 ≤ ((i + 1 : Nat) : Int) then (if (O.map ofBand).length < 3518437208883 then (region_sweepG.l0 k a b kp cs ((O.map ofBand) ++ [(⟨c, d, t214⟩ : S112)]) ((i + 1 : Nat) : Int)) else (none)) else (none))))
      have hpre : ∀ R, Ev (fun k => BODY k (F.map ofRun)) R →
          Ev (fun k => region_sweepG.l0 k a b kp cs (O.map ofBand) (i : Int)) R := by
        intro R hR
        refine Ev.step (f := fun k => (region_row.f k a c).bind fun t207 => (region_row.f k b c).bind fun t211 => (region_mergeG.f k t207 t211 kp).bind fun t214 => BODY k t214) (fun k => ?_) ?_
        · rw [region_sweepG.l0, hw, if_pos (by omega), if_pos (by omega), if_pos (by omega), rdI, hcc, hrd1, hdd]
        · refine Ev.bind hA ?_
          refine Ev.bind hB ?_
          refine Ev.bind hM ?_
          exact hR
      refine hpre _ ?_
      show Ev (fun k => (if (((F.map ofRun).length : Nat) : Int) = 0 then (region_sweepG.l0 k a b kp cs (O.map ofBand) ((i + 1 : Nat) : Int)) else (if ((O.map ofBand).length : Int) > 0 then (if 0 ≤ (wrap64 (((O.map ofBand).length : Int) - 1)) then (if (wrap64 (((O.map ofBand).length : Int) - 1)) < ((O.map ofBand).length : Int) then (if ((rd_T112 (O.map ofBand) (wrap64 (((O.map ofBand).length : Int) - 1))).f1) = c then ((region_span_129.f k ((rd_T112 (O.map ofBand) (wrap64 (((O.map ofBand).length : Int) - 1))).f2) (F.map ofRun)).bind fun t220 => (if t220 = true then (if 0 ≤ ((i + 1 : Nat) : Int) then (region_sweepG.l0 k a b kp cs ((O.map ofBand).set ((wrap64 (((O.map ofBand).length : Int) - 1)) : Int).toNat (⟨(rd_T112 (O.map ofBand) (wrap64 (((O.map ofBand).length : Int) - 1))).f0, d, (rd_T112 (O.map ofBand) (wrap64 (((O.map ofBand).length : Int) - 1))).f2⟩ : S112)) ((i + 1 : Nat) : Int)) else (none)) else (if 0 ≤ ((i + 1 : Nat) : Int) then (if (O.map ofBand).length < 3518437208883 then (region_sweepG.l0 k a b kp cs ((O.map ofBand) ++ [(⟨c, d, F.map ofRun⟩ : S112)]) ((i + 1 : Nat) : Int)) else (none)) else (none)))) else (if 0 ≤ ((i + 1 : Nat) : Int) then (if (O.map ofBand).length < 3518437208883 then (region_sweepG.l0 k a b kp cs ((O.map ofBand) ++ [(⟨c, d, F.map ofRun⟩ : S112)]) ((i + 1 : Nat) : Int)) else (none)) else (none))) else (none)) else (none)) else (if 0 ≤ ((i + 1 : Nat) : Int) then (if (O.map ofBand).length < 3518437208883 then (region_sweepG.l0 k a b kp cs ((O.map ofBand) ++ [(⟨c, d, F.map ofRun⟩ : S112)]) ((i + 1 : Nat) : Int)) else (none)) else (none))))) _
      by_cases hn : F = []
      · have h1 := ih (i + 1) O (by omega) (by omega) ht
        rw [if_pos hn]
        simp only [hn, List.map_nil, List.length_nil]
        simpa using h1
      · rw [if_neg hn]
        have hne : ¬ ((F.length : Nat) : Int) = 0 := by
          have : F.length ≠ 0 := fun e => hn (List.eq_nil_of_length_eq_zero e)
          omega
        simp only [List.length_map, if_neg hne, if_pos (show 0 ≤ ((i + 1 : Nat) : Int) by omega), if_pos (show O.length < 3518437208883 by omega)]
        have h1 := ih (i + 1) (push O ⟨c, d, F⟩) (by omega) (Nat.le_trans (push_length _ _) (by omega)) (push_ok _ _ ht ⟨hMt, hFl⟩)
        rcases List.eq_nil_or_concat O with rfl | ⟨q, t, rfl⟩
        · have e : push ([] : List (Run (List (Run Bool)))) (⟨c, d, F⟩ : (Run (List (Run Bool)))) = [⟨c, d, F⟩] := rfl
          rw [e] at h1 ⊢
          simpa [ofBand] using h1
        · simp only [List.concat_eq_append] at *
          obtain ⟨g0, g1, g2, g3, g4⟩ := last_get3 q t (by simp at hO; omega)
          rw [List.length_map] at g0 g1 g2
          have htt := ht t (by simp)
          simp only [g0, if_true, g1, if_pos (show (0 : Int) ≤ (q.length : Int) by omega), g2, g3]
          have e3 : push (q ++ [t]) (⟨c, d, F⟩ : (Run (List (Run Bool)))) = if t.b = c ∧ t.v = F then q ++ [⟨t.a, d, t.v⟩] else q ++ [t] ++ [⟨c, d, F⟩] := by
            unfold push
            rw [List.getLast?_concat]
            by_cases hj : t.b = c ∧ t.v = F
            · rw [if_pos hj]; simp only [if_pos hj, List.dropLast_concat]
            · rw [if_neg hj]; simp only [if_neg hj]
          rw [e3] at h1
          have happ : (q ++ [t]).map ofBand ++ [(⟨c, d, F.map ofRun⟩ : S112)] = (q ++ [t] ++ [(⟨c, d, F⟩ : (Run (List (Run Bool))))]).map ofBand := by rw [List.map_append (l₁ := q ++ [t])]; rfl
          rw [happ]
          by_cases hj : t.b = c
          · simp only [if_pos (show (ofBand t).f1 = c from hj)]
            have hE := eq_pl (ofBand t).f2 (F.map ofRun) (by show (t.v.map ofRun).length ≤ _; rw [List.length_map]; exact htt.2)
            refine Ev.bind hE ?_
            by_cases hv : t.v = F
            · rw [decide_eq_true (show (ofBand t).f2 = F.map ofRun by rw [← hv]; rfl)]
              rw [if_pos ⟨hj, hv⟩] at h1
              simp only [if_true]
              rw [show (⟨(ofBand t).f0, d, (ofBand t).f2⟩ : S112) = ofBand ⟨t.a, d, t.v⟩ from rfl, g4]
              rw [e3, if_pos ⟨hj, hv⟩]
              exact h1
            · rw [decide_eq_false (show ¬ (ofBand t).f2 = F.map ofRun from fun e => hv (ofRun_inj t.v F htt.1 hMt e))]
              rw [if_neg (fun h => hv h.2)] at h1
              rw [e3, if_neg (fun h => hv h.2)]
              simpa using h1
          · simp only [if_neg (show ¬ (ofBand t).f1 = c from hj)]
            rw [if_neg (fun h => hj h.1)] at h1
            rw [e3, if_neg (fun h => hj h.1)]
            exact h1
/-- The bands of two regions put together. -/
def bandsF (kp : KP) (a b : List S58) : List (Run (List (Run Bool))) := sweepF kp (rowR a) (rowR b) (distinctL (cutsS a ++ cutsS b))
theorem sweep_pl (kp : KP) (h0 : kp false false = false) (a b : List S58) (ha : a.length ≤ 34359738368) (hb : b.length ≤ 34359738368) : Ev (fun k => region_sweepG.f k a b kp) ((bandsF kp a b).map ofBand) := by
  have hC := cuts_pl [a, b] (by simp) (by intro r hr; simp at hr; rcases hr with rfl | rfl <;> omega)
  have e : ([a, b] : List (List S58)).flatMap cutsS = cutsS a ++ cutsS b := by simp
  rw [e] at hC
  have hl := distinctL_length (cutsS a ++ cutsS b)
  have l1 := cutsS_length a
  have l2 := cutsS_length b
  rw [List.length_append] at hl
  have h1 := sweep_l0 kp h0 a b ha hb (distinctL (cutsS a ++ cutsS b)) (by omega) (distinctL (cutsS a ++ cutsS b)).length 0 [] (by omega) (by simp) (by intro b hb; simp at hb)
  rw [List.drop_zero] at h1
  unfold region_sweepG.f
  exact Ev.bind hC h1
theorem bandsF_spec (kp : KP) (h0 : kp false false = false) (a b : List S58) : NormB (bandsF kp a b) ∧ ∀ x y, bhas (bandsF kp a b) x y = kp (has (a.map toR) x y) (has (b.map toR) x y) :=
  sweepF_spec kp h0 (a.map toR) (b.map toR) (rowR a) (rowR b) (fun y => (rowP_is a y).1) (fun y => (rowP_is b y).1)
theorem bandsF_many (kp : KP) (a b : List S58) : (rects (bandsF kp a b)).length ≤ (a.length + b.length) * (a.length + b.length) := by
  have := sweep_many kp (a.map toR) (b.map toR) (rowR a) (rowR b) (fun y => (rowP_is a y).2) (fun y => (rowP_is b y).2)
  rwa [List.length_map, List.length_map] at this
end Go.Proofs.Ytcoegjdnobiogaa.PG
