/- What region's functions answer, plainly: Of, Union, Meet, Less, Same, Within, Shift, Grow, Count; forms. -/
import Derived.Test.YtcoegjdnobiogaaRgU
import Derived.Test.YtcoegjdnobiogaaRgK
import Derived.Test.YtcoegjdnobiogaaPHx4
set_option linter.unusedVariables false
set_option linter.unusedSimpArgs false
namespace Go.Proofs.Ytcoegjdnobiogaa.PG
open Go.RowKit Go.Proofs.YtcoegjdnobiogaaW.PrintWords Go.Proofs.YtcoegjdnobiogaaW.PrintLast Go.Proofs.YtcoegjdnobiogaaW.PrintMore
open Rle

/-- The form of a set of places. -/
def IsForm (f : Int → Int → Bool) (L : List R4) : Prop := ∃ B, NormB B ∧ L = rects B ∧ ∀ x y, bhas B x y = f x y
theorem IsForm.unique {f : Int → Int → Bool} {L M : List R4} (h : IsForm f L) (g : IsForm f M) : L = M := by
  obtain ⟨B, h1, rfl, h2⟩ := h
  obtain ⟨C, g1, rfl, g2⟩ := g
  rw [uniqueB h1 g1 fun x y => (h2 x y).trans (g2 x y).symm]
theorem IsForm.congr {f g : Int → Int → Bool} {L : List R4} (h : IsForm f L) (e : ∀ x y, f x y = g x y) : IsForm g L := by
  obtain ⟨B, h1, h2, h3⟩ := h
  exact ⟨B, h1, h2, fun x y => (h3 x y).trans (e x y)⟩
theorem IsForm.has {f : Int → Int → Bool} {L : List R4} (h : IsForm f L) (x y : Int) : has L x y = f x y := by
  obtain ⟨B, h1, rfl, h3⟩ := h
  rw [has_rects h1, h3]
theorem IsForm.mem {f : Int → Int → Bool} {L : List R4} (h : IsForm f L) {r : R4} (hr : r ∈ L) : r.some = true ∧ ∀ x y, r.inn x y = true → f x y = true := by
  obtain ⟨B, h1, rfl, h3⟩ := h
  obtain ⟨q1, q2⟩ := rects_mem h1 hr
  exact ⟨q1, fun x y hx => (h3 x y).symm.trans (q2 x y hx)⟩
theorem bandsR_of (B : List (Run (List (Run Bool)))) : bandsR (B.map ofBand) = rects B := by
  unfold bandsR rects
  rw [List.flatMap_map]
  congr 1
  funext b
  unfold bandR ofBand
  rw [List.map_map]
  rfl
/-- The form of two regions put together. -/
def formF (kp : KP) (a b : List S58) : List R4 := rects (bandsF kp a b)
theorem formF_is (kp : KP) (h0 : kp false false = false) (a b : List S58) : IsForm (fun x y => kp (has (a.map toR) x y) (has (b.map toR) x y)) (formF kp a b) :=
  ⟨bandsF kp a b, (bandsF_spec kp h0 a b).1, rfl, (bandsF_spec kp h0 a b).2⟩
/-- Is a set of places within so much of the middle? -/
def Within (n : Int) (f : Int → Int → Bool) : Prop := ∀ x y, f x y = true → -n ≤ x ∧ x < n ∧ -n ≤ y ∧ y < n
theorem form_near {f : Int → Int → Bool} {L : List R4} (h : IsForm f L) {n : Int} (hw : Within n f) : ∀ r ∈ L, -n ≤ r.x0 ∧ r.x0 < r.x1 ∧ r.x1 ≤ n ∧ -n ≤ r.y0 ∧ r.y0 < r.y1 ∧ r.y1 ≤ n := by
  intro r hr
  obtain ⟨h1, h2⟩ := h.mem hr
  unfold R4.some at h1
  simp only [Bool.and_eq_true, decide_eq_true_eq] at h1
  have a1 := hw r.x0 r.y0 (h2 _ _ (by unfold R4.inn; simp; omega))
  have a2 := hw (r.x1 - 1) (r.y1 - 1) (h2 _ _ (by unfold R4.inn; simp; omega))
  omega
theorem near_of (r : R4) (h : -8192 ≤ r.x0 ∧ r.x0 ≤ 8192 ∧ -8192 ≤ r.y0 ∧ r.y0 ≤ 8192 ∧ -8192 ≤ r.x1 ∧ r.x1 ≤ 8192 ∧ -8192 ≤ r.y1 ∧ r.y1 ≤ 8192) : nearR r = true ∧ okR r = true := by
  have e : ∀ x : Int, -8192 ≤ x → x ≤ 8192 → farB x = false := by intro x h1 h2; unfold farB; simp; omega
  unfold nearR okR
  simp [e r.x0 (by omega) (by omega), e r.x1 (by omega) (by omega), e r.y0 (by omega) (by omega), e r.y1 (by omega) (by omega)]
theorem within_or {n : Int} {f g : Int → Int → Bool} (h : Within n f) (k : Within n g) (kp : KP) (h0 : kp false false = false) : Within n fun x y => kp (f x y) (g x y) := by
  intro x y hx
  by_cases h1 : f x y = true
  · exact h x y h1
  · by_cases h2 : g x y = true
    · exact k x y h2
    · have hx : kp (f x y) (g x y) = true := hx
      rw [Bool.eq_false_iff.2 h1, Bool.eq_false_iff.2 h2, h0] at hx
      cases hx
theorem within_right {L : List R4} (h : L.all okR = true) : Within 8192 (has L) := by
  intro x y hx
  unfold has at hx
  rw [List.any_eq_true] at hx
  obtain ⟨r, hr, hi⟩ := hx
  have h1 := List.all_eq_true.1 h r hr
  unfold R4.inn at hi
  simp only [Bool.and_eq_true, decide_eq_true_eq] at hi
  have hs : r.some = true := by unfold R4.some; simp; omega
  unfold okR farB at h1
  rw [hs] at h1
  simp at h1
  omega
theorem told_ok {f : Int → Int → Bool} {L : List R4} (h : IsForm f L) (hw : Within 8192 f) (hl : L.length ≤ 4096) : toldS L = (L.map ofR, 0) := by
  unfold toldS
  rw [if_pos, if_pos hl]
  rw [List.all_eq_true]
  intro r hr
  have := form_near h hw r hr
  exact (near_of r (by omega)).1
theorem told_near {f : Int → Int → Bool} {L : List R4} (h : IsForm f L) (hw : Within 8192 f) : toldS L = if L.length ≤ 4096 then (L.map ofR, 0) else ([], 60) := by
  unfold toldS
  rw [if_pos]
  rw [List.all_eq_true]
  intro r hr
  have := form_near h hw r hr
  exact (near_of r (by omega)).1
theorem map_toR_ofR (L : List R4) : (L.map ofR).map toR = L := by
  rw [List.map_map]
  exact List.map_id L
theorem form_right {f : Int → Int → Bool} {L : List R4} (h : IsForm f L) (hw : Within 8192 f) (hl : L.length ≤ 4096) : rightS L = 0 := by
  unfold rightS
  rw [if_neg (by omega), if_pos]
  rw [List.all_eq_true]
  intro r hr
  have := form_near h hw r hr
  exact (near_of r (by omega)).2
theorem right_all {L : List R4} (h : rightS L = 0) : L.length ≤ 4096 ∧ L.all okR = true := by
  unfold rightS at h
  split at h
  · cases h
  · split at h
    · rename_i h1 h2; exact ⟨by omega, h2⟩
    · cases h
/-- What told tells of bands of a form. -/
theorem told_bands (kp : KP) (h0 : kp false false = false) (a b : List S58) (ha : a.length ≤ 34359738368) (hb : b.length ≤ 34359738368) : Ev (fun k => region_told.f k ((bandsF kp a b).map ofBand)) (toldS (formF kp a b)) := by
  have hl : (bandsF kp a b).length ≤ 137438953472 := by
    have h1 := go_length [] (fun y => mergeF kp (rowR a y) (rowR b y)) (distinctL (cutsS a ++ cutsS b)) []
    have h2 := distinctL_length (cutsS a ++ cutsS b)
    have l1 := cutsS_length a
    have l2 := cutsS_length b
    rw [List.length_append] at h2
    unfold bandsF sweepF
    simp at h1
    omega
  have hS : ∀ c ∈ (bandsF kp a b).map ofBand, c.f2.length ≤ 1099511627776 := by
    intro c hc
    obtain ⟨d, hd, rfl⟩ := List.mem_map.1 hc
    have hn := (bandsF_spec kp h0 a b).1
    have hp := norm_pos hn.1 d hd
    have he : d.v = mergeF kp (rowR a d.a) (rowR b d.a) := by
      have h1 := at_mem hn.1 hd (Int.le_refl _) hp.1
      refine unique (hn.2 d hd) (mergeF_spec kp h0 _ _).1 fun x => ?_
      rw [(mergeF_spec kp h0 _ _).2]
      have h2 := (bandsF_spec kp h0 a b).2 x d.a
      unfold bhas at h2
      rw [h1] at h2
      rw [h2, show at_ false (rowR a d.a) x = has (a.map toR) x d.a from (rowP_is a d.a).1.2 x, show at_ false (rowR b d.a) x = has (b.map toR) x d.a from (rowP_is b d.a).1.2 x]
    have h3 := mergeF_length kp (rowR a d.a) (rowR b d.a)
    have h4 := rowP_length a d.a
    have h5 := rowP_length b d.a
    show (d.v.map ofRun).length ≤ _
    rw [List.length_map, he]
    unfold rowR at h3 ⊢
    rw [List.length_map, List.length_map] at h3
    omega
  have := told_pl ((bandsF kp a b).map ofBand) (by rw [List.length_map]; omega) hS
  rwa [bandsR_of] at this
/-- What two tells. -/
def twoS (kp : KP) (a b : List S58) : List S58 × Int :=
  if rightS (a.map toR) = 0 then (if rightS (b.map toR) = 0 then toldS (formF kp a b) else ([], rightS (b.map toR))) else ([], rightS (a.map toR))
theorem right_len {a : List S58} (h : rightS (a.map toR) = 0) : a.length ≤ 34359738368 := by
  have := (right_all h).1
  rw [List.length_map] at this
  omega
/-- Both lists are looked at first. -/
theorem two_gen {β : Type} (T : Nat → List (List S58) → Int → Int → Option β) (BODY : Nat → Option β) (bad : Int → β) (R : β) (a b : List S58)
    (hT : ∀ k ls n i, T (k + 1) ls n i = if i < n then (if 0 ≤ i then (if i < (ls.length : Int) then ((region_right.f k (rd_L3 ls i)).bind fun t => (if t = 0 then T k ls n (wrap64 (i + 1)) else some (bad t))) else none) else none) else BODY k)
    (hB : rightS (a.map toR) = 0 → rightS (b.map toR) = 0 → Ev BODY R) :
    Ev (fun k => T k [a, b] 2 0) (if rightS (a.map toR) = 0 then (if rightS (b.map toR) = 0 then R else bad (rightS (b.map toR))) else bad (rightS (a.map toR))) := by
  have hl : (([a, b] : List (List S58)).length : Int) = 2 := rfl
  refine Ev.step (f := fun k => (region_right.f k a).bind fun t => (if t = 0 then T k [a, b] 2 1 else some (bad t))) (fun k => by rw [hT, if_pos (by omega), if_pos (by omega), hl, if_pos (by omega), show wrap64 (0 + 1) = 1 from wr64 (by omega) (by omega)]; rfl) ?_
  refine Ev.bind (right_pl a) ?_
  by_cases ha : rightS (a.map toR) = 0
  · simp only [if_pos ha]
    refine Ev.step (f := fun k => (region_right.f k b).bind fun t => (if t = 0 then T k [a, b] 2 2 else some (bad t))) (fun k => by rw [hT, if_pos (by omega), if_pos (by omega), hl, if_pos (by omega), show wrap64 (1 + 1) = 2 from wr64 (by omega) (by omega)]; rfl) ?_
    refine Ev.bind (right_pl b) ?_
    by_cases hb : rightS (b.map toR) = 0
    · simp only [if_pos hb]
      exact Ev.step (fun k => by rw [hT, if_neg (by omega)]) (hB ha hb)
    · simp only [if_neg hb]
      exact Ev.now _
  · simp only [if_neg ha]
    exact Ev.now _
theorem pair_eta {α β : Type} {g : Nat → Option (α × β)} {p : α × β} (h : Ev g p) : Ev (fun k => (g k).bind fun bt => some (bt.1, bt.2)) p := Ev.bind h (Ev.now _)
theorem two75_pl (a b : List S58) : Ev (fun k => region_two_k75.f k a b ()) (twoS (fun a b => (region_first.f a b).getD false) a b) :=
  two_gen (fun k ls n i => region_two_k75.l0 k a b () ls n i) (fun k => (region_sweep_k75.f k a b ()).bind fun t => (region_told.f k t).bind fun bt => some (bt.1, bt.2)) (fun t => (([] : List S58), t)) _ a b (fun k ls n i => by rw [region_two_k75.l0])
    (fun ha hb => Ev.bind (f := fun k t => (region_told.f k t).bind fun bt => some (bt.1, bt.2)) (sweep_pl (fun a b => (region_first.f a b).getD false) rfl a b (right_len ha) (right_len hb)) (pair_eta (told_bands _ rfl a b (right_len ha) (right_len hb))))
theorem two85_pl (a b : List S58) : Ev (fun k => region_two_k85.f k a b ()) (twoS (fun a b => (region_without.f a b).getD false) a b) :=
  two_gen (fun k ls n i => region_two_k85.l0 k a b () ls n i) (fun k => (region_sweep_k85.f k a b ()).bind fun t => (region_told.f k t).bind fun bt => some (bt.1, bt.2)) (fun t => (([] : List S58), t)) _ a b (fun k ls n i => by rw [region_two_k85.l0])
    (fun ha hb => Ev.bind (f := fun k t => (region_told.f k t).bind fun bt => some (bt.1, bt.2)) (sweep_pl (fun a b => (region_without.f a b).getD false) rfl a b (right_len ha) (right_len hb)) (pair_eta (told_bands _ rfl a b (right_len ha) (right_len hb))))
def kFirst : KP := fun a b => (region_first.f a b).getD false
def kWithout : KP := fun a b => (region_without.f a b).getD false
theorem of_pl (a : List S58) : Ev (fun k => region_Of.f k a) (twoS kFirst a []) := pair_eta (two75_pl a [])
theorem less_pl (a b : List S58) : Ev (fun k => region_Less.f k a b) (twoS kWithout a b) := pair_eta (two85_pl a b)
theorem count_pl (a : List S58) : Ev (fun k => E_count.f k a) (if rightS (a.map toR) = 0 then (sumB 0 ((bandsF kFirst a []).map ofBand), 0) else (0, rightS (a.map toR))) := by
  unfold E_count.f
  refine Ev.bind (right_pl a) ?_
  by_cases ha : rightS (a.map toR) = 0
  · simp only [if_pos ha]
    exact Ev.bind (sweep_pl _ rfl a [] (right_len ha) (by simp)) (Ev.now _)
  · simp only [if_neg ha]
    exact Ev.now _
theorem told_moved (g : List S58) (hg : g.length ≤ 34359738368) : Ev (fun k => (region_sweep_k75.f k g ([] : List S58) ()).bind fun t => (region_told.f k t).bind fun bt => some (bt.1, bt.2)) (toldS (formF kFirst g [])) :=
  Ev.bind (sweep_pl _ rfl g [] hg (by simp)) (pair_eta (told_bands _ rfl g [] hg (by simp)))
theorem movedS_length (a : List S58) (l t r b : Int) : (movedS a l t r b).length ≤ a.length := by
  unfold movedS
  rw [List.length_map]
  exact List.length_filter_le _ _
theorem grow_l0 (a : List S58) (ha : a.length ≤ 34359738368) (l t r b : Int) (S : List Int) (hS : S.length ≤ 4) (hb : ∀ x ∈ S, 0 ≤ x ∧ x ≤ 16384) : ∀ m i, i + m = S.length →
    Ev (fun k => region_Grow.l0 k a l t r b S S.length (i : Int)) (toldS (formF kFirst (movedS a l t r b) [])) := by
  intro m
  induction m with
  | zero =>
    intro i hi
    have h2 := moved_pl a (by omega) l t r b
    have h3 := told_moved (movedS a l t r b) (Nat.le_trans (movedS_length a l t r b) ha)
    exact Ev.step (fun k => by rw [region_Grow.l0, if_neg (by omega)]) (Ev.bind h2 h3)
  | succ m ih =>
    intro i hi
    have hm : S.getD i 0 ∈ S := by
      rw [List.getD_eq_getElem?_getD, List.getElem?_eq_getElem (show i < S.length by omega)]
      exact List.getElem_mem _
    have hx := hb _ hm
    refine Ev.step (fun k => ?_) (ih (i + 1) (by omega))
    rw [region_Grow.l0, if_pos (by omega), if_pos (by omega), if_pos (by omega), rdI, if_neg (by omega), if_neg (by omega), wr_next (show i < S.length by omega) (by omega)]
theorem grow_pl (a : List S58) (l t r b : Int) (hl : 0 ≤ l ∧ l ≤ 16384) (ht : 0 ≤ t ∧ t ≤ 16384) (hr : 0 ≤ r ∧ r ≤ 16384) (hb : 0 ≤ b ∧ b ≤ 16384) (ha : rightS (a.map toR) = 0) :
    Ev (fun k => region_Grow.f k a l t r b) (toldS (formF kFirst (movedS a l t r b) [])) := by
  unfold region_Grow.f
  refine Ev.bind (right_pl a) ?_
  simp only [if_pos ha, Option.bind_some]
  exact grow_l0 a (right_len ha) l t r b [l, t, r, b] (by simp) (by intro x hx; simp at hx; omega) 4 0 (by simp)
theorem far71_pl (x : Int) : region_Shift_1.f x = some (decide (x > 32768) || decide (x < -32768)) := by
  unfold region_Shift_1.f
  by_cases h : x > 32768 <;> simp [h]
theorem index71_pl (x y : Int) : Ev (fun k => slices_ContainsFunc_int_int_k71.f k [x, y] ()) (decide (x > 32768 ∨ x < -32768) || decide (y > 32768 ∨ y < -32768)) := by
  refine Ev.of (k := 3) (fun k => slices_ContainsFunc_int_int_k71.mono _ _ k) ?_
  unfold slices_ContainsFunc_int_int_k71.f slices_IndexFunc_int_int_k71.f
  have e1 : rd [x, y] 0 = x := rfl
  have e2 : rd [x, y] (wrap64 (0 + 1)) = y := by rw [wr64 (by omega) (by omega)]; rfl
  have e3 : wrap64 (0 + 1) = 1 := by rw [wr64 (by omega) (by omega)]; rfl
  have e4 : wrap64 (1 + 1) = 2 := by rw [wr64 (by omega) (by omega)]; rfl
  by_cases hx : x > 32768 ∨ x < -32768
  · rw [slices_IndexFunc_int_int_k71.l0]
    rw [if_pos (by simp), if_pos (by omega), if_pos (by simp), e1, far71_pl, Option.bind_some, if_pos (by simpa using hx)]
    simp [hx]
  · rw [slices_IndexFunc_int_int_k71.l0]
    rw [if_pos (by simp), if_pos (by omega), if_pos (by simp), e1, far71_pl, Option.bind_some, if_neg (by simpa using hx), slices_IndexFunc_int_int_k71.l0, e3]
    rw [if_pos (by simp), if_pos (by omega), if_pos (by simp), show rd [x, y] 1 = y from rfl, far71_pl, Option.bind_some]
    by_cases hy : y > 32768 ∨ y < -32768
    · rw [if_pos (by simpa using hy)]
      simp [hx, hy]
    · rw [if_neg (by simpa using hy), slices_IndexFunc_int_int_k71.l0, e4, if_neg (by simp)]
      simp [hx, hy]
theorem shift_pl (a : List S58) (dx dy : Int) (hx : -32768 ≤ dx ∧ dx ≤ 32768) (hy : -32768 ≤ dy ∧ dy ≤ 32768) (ha : rightS (a.map toR) = 0) :
    Ev (fun k => region_Shift.f k a dx dy) (if (distinctL (cutsS a)).length > 0 then toldS (formF kFirst (movedS a (-dx) (-dy) dx dy) []) else ([], 0)) := by
  unfold region_Shift.f
  refine Ev.bind (right_pl a) ?_
  simp only [if_pos ha]
  have hC := cuts_pl [a] (by simp) (by intro r hr; simp at hr; subst hr; have := right_len ha; omega)
  rw [show ([a] : List (List S58)).flatMap cutsS = cutsS a by simp] at hC
  refine Ev.bind hC ?_
  by_cases hc : (distinctL (cutsS a)).length > 0
  · simp only [if_pos (show ((distinctL (cutsS a)).length : Int) > 0 by omega), if_pos hc]
    refine Ev.bind (index71_pl dx dy) ?_
    rw [decide_eq_false (show ¬ (dx > 32768 ∨ dx < -32768) by omega), decide_eq_false (show ¬ (dy > 32768 ∨ dy < -32768) by omega)]
    have h2 := moved_pl a (by have := right_len ha; omega) (-dx) (-dy) dx dy
    have h3 := told_moved (movedS a (-dx) (-dy) dx dy) (Nat.le_trans (movedS_length a (-dx) (-dy) dx dy) (right_len ha))
    refine Ev.step (fun k => ?_) (Ev.bind (f := fun k g => (region_sweep_k75.f k g ([] : List S58) ()).bind fun t => (region_told.f k t).bind fun bt => some (bt.1, bt.2)) h2 h3)
    show region_Shift.j0 (k + 1) a dx dy (!(false || false)) = _
    rw [region_Shift.j0, show (!(false || false)) = true from rfl, if_pos rfl, wr64 (x := -dx) (by omega) (by omega), wr64 (x := -dy) (by omega) (by omega)]
  · simp only [if_neg (show ¬ ((distinctL (cutsS a)).length : Int) > 0 by omega), if_neg hc]
    refine Ev.step (f := fun k => (region_cuts.f k [a]).bind fun t262 => (if (t262.length : Int) > 0 then (some (([] : List (S58)), 61)) else (some (([] : List (S58)), 0)))) (fun k => by rw [region_Shift.j0, if_neg (by simp)]) ?_
    refine Ev.bind hC ?_
    simp only [if_neg (show ¬ ((distinctL (cutsS a)).length : Int) > 0 by omega)]
    exact Ev.now _
end Go.Proofs.Ytcoegjdnobiogaa.PG
