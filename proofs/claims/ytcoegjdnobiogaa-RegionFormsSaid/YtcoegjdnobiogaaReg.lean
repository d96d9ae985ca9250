/- Regions, plainly: rectangles, rows, bands; one region, one form; how many rectangles, how many places. -/
import Derived.Test.YtcoegjdnobiogaaRle
namespace Go.Proofs.Ytcoegjdnobiogaa.Rle
structure R4 where
  x0 : Int
  y0 : Int
  x1 : Int
  y1 : Int
instance : DecidableEq R4 := fun a b => by
  cases a with | mk a1 a2 a3 a4 => cases b with | mk b1 b2 b3 b4 =>
    exact if h : a1 = b1 ∧ a2 = b2 ∧ a3 = b3 ∧ a4 = b4 then isTrue (by obtain ⟨rfl, rfl, rfl, rfl⟩ := h; rfl) else isFalse (fun e => by cases e; exact h ⟨rfl, rfl, rfl, rfl⟩)
def R4.some (r : R4) : Bool := decide (r.x0 < r.x1) && decide (r.y0 < r.y1)
def R4.inn (r : R4) (x y : Int) : Bool := decide (r.x0 ≤ x ∧ x < r.x1) && decide (r.y0 ≤ y ∧ y < r.y1)
def has (l : List R4) (x y : Int) : Bool := l.any fun r => r.inn x y
/-- The spans of a row, in whatever order. -/
def rowS (l : List R4) (y : Int) : List (Run Bool) := (l.filter fun r => r.some && decide (r.y0 ≤ y ∧ y < r.y1)).map fun r => ⟨r.x0, r.x1, true⟩
/-- Spans apart: whatever normal form of a row. -/
def IsRow (l : List R4) (y : Int) (s : List (Run Bool)) : Prop := Norm false s ∧ (∀ x, at_ false s x = has l x y)
def ends (s : List (Run Bool)) : List Int := s.flatMap fun r => [r.a, r.b]
def mergeF (keep : Bool → Bool → Bool) (a b : List (Run Bool)) : List (Run Bool) := go false (fun x => keep (at_ false a x) (at_ false b x)) [] (distinctL (ends a ++ ends b))
theorem mem_ends {s : List (Run Bool)} {r : Run Bool} (h : r ∈ s) : r.a ∈ ends s ∧ r.b ∈ ends s := by
  unfold ends
  constructor <;> rw [List.mem_flatMap] <;> exact ⟨r, h, by simp⟩
theorem at_const {s : List (Run Bool)} {x y : Int} (hxy : x ≤ y) : (∀ e ∈ ends s, ¬ (x < e ∧ e ≤ y)) → at_ false s x = at_ false s y := by
  induction s with
  | nil => intro _; rfl
  | cons r s ih =>
    intro h
    have h1 := h r.a (mem_ends (List.mem_cons_self ..)).1
    have h2 := h r.b (mem_ends (List.mem_cons_self ..)).2
    have ih' := ih fun e he => h e (by unfold ends at *; simp at *; exact Or.inr (Or.inr he))
    rw [at_, at_, ih']
    by_cases hc : r.a ≤ x ∧ x < r.b
    · rw [if_pos hc, if_pos (by omega)]
    · rw [if_neg hc, if_neg (by omega)]
theorem at_out {s : List (Run Bool)} {x : Int} (h : (∀ e ∈ ends s, x < e) ∨ (∀ e ∈ ends s, e ≤ x)) : at_ false s x = false := by
  rcases h with h | h
  · exact at_below _ _ _ fun r hr => h _ (mem_ends hr).1
  · exact at_behind _ _ _ fun r hr => h _ (mem_ends hr).2
theorem mergeF_spec (keep : Bool → Bool → Bool) (h0 : keep false false = false) (a b : List (Run Bool)) :
    Norm false (mergeF keep a b) ∧ ∀ x, at_ false (mergeF keep a b) x = keep (at_ false a x) (at_ false b x) := by
  have hm : ∀ e, e ∈ distinctL (ends a ++ ends b) ↔ e ∈ ends a ∨ e ∈ ends b := fun e => by rw [mem_distinctL, List.mem_append]
  refine runs_spec (f := fun x => keep (at_ false a x) (at_ false b x)) _ (distinctL_lt _) ?_ ?_ ?_
  · intro x hx
    show keep _ _ = _
    rw [at_out (.inr fun e he => hx e ((hm e).2 (.inl he))), at_out (.inr fun e he => hx e ((hm e).2 (.inr he))), h0]
  · intro x hx
    show keep _ _ = _
    rw [at_out (.inl fun e he => hx e ((hm e).2 (.inl he))), at_out (.inl fun e he => hx e ((hm e).2 (.inr he))), h0]
  · intro x y hxy h
    show keep _ _ = keep _ _
    rw [at_const hxy fun e he => h e ((hm e).2 (.inl he)), at_const hxy fun e he => h e ((hm e).2 (.inr he))]
theorem mergeF_length (keep : Bool → Bool → Bool) (a b : List (Run Bool)) : (mergeF keep a b).length ≤ a.length + b.length := by
  have h1 := runs_length2 (fun x => keep (at_ false a x) (at_ false b x)) _ (distinctL_lt (ends a ++ ends b))
  have h2 := distinctL_length (ends a ++ ends b)
  have h3 : ∀ s : List (Run Bool), (ends s).length = 2 * s.length := by
    intro s
    induction s with
    | nil => rfl
    | cons r s ih => unfold ends at *; simp [ih]; omega
  unfold mergeF
  simp only [List.length_append, h3] at h2
  omega
theorem norm_true : ∀ {s : List (Run Bool)}, Norm false s → ∀ r ∈ s, r.v = true := fun h r hr => by
  have := (norm_pos h r hr).2
  cases hv : r.v <;> simp_all
/-- The rows at which something may change. -/
def cutsF (l : List R4) : List Int := (l.filter R4.some).flatMap fun r => [r.y0, r.y1]
theorem has_const {l : List R4} {y z : Int} (h : y ≤ z) (hc : ∀ e ∈ cutsF l, ¬ (y < e ∧ e ≤ z)) (x : Int) : has l x y = has l x z := by
  unfold has
  have : ∀ r ∈ l, r.inn x y = r.inn x z := by
    intro r hr
    unfold R4.inn
    by_cases hs : r.some = true
    · have h1 := hc r.y0 (by unfold cutsF; rw [List.mem_flatMap]; exact ⟨r, by simp [hr, hs], by simp⟩)
      have h2 := hc r.y1 (by unfold cutsF; rw [List.mem_flatMap]; exact ⟨r, by simp [hr, hs], by simp⟩)
      congr 1
      rw [decide_eq_decide]
      omega
    · unfold R4.some at hs
      simp only [Bool.and_eq_true, decide_eq_true_eq] at hs
      by_cases hx : r.x0 ≤ x ∧ x < r.x1
      · have : ¬ (r.y0 ≤ y ∧ y < r.y1) := by omega
        have : ¬ (r.y0 ≤ z ∧ z < r.y1) := by omega
        simp [*]
      · simp [hx]
  induction l with
  | nil => rfl
  | cons r l ih =>
    rw [List.any_cons, List.any_cons, this r (by simp), ih (fun e he => hc e (by
      unfold cutsF at *
      rw [List.mem_flatMap] at *
      obtain ⟨q, hq, he⟩ := he
      exact ⟨q, by simp at *; exact ⟨Or.inr hq.1, hq.2⟩, he⟩)) fun q hq => this q (by simp [hq])]
theorem has_out {l : List R4} {y : Int} (h : (∀ e ∈ cutsF l, y < e) ∨ (∀ e ∈ cutsF l, e ≤ y)) (x : Int) : has l x y = false := by
  unfold has
  rw [List.any_eq_false]
  intro r hr
  unfold R4.inn
  by_cases hs : r.some = true
  · have m1 : r.y0 ∈ cutsF l := by unfold cutsF; rw [List.mem_flatMap]; exact ⟨r, by simp [hr, hs], by simp⟩
    have m2 : r.y1 ∈ cutsF l := by unfold cutsF; rw [List.mem_flatMap]; exact ⟨r, by simp [hr, hs], by simp⟩
    have : ¬ (r.y0 ≤ y ∧ y < r.y1) := by
      rcases h with h | h
      · have := h _ m1; omega
      · have := h _ m2; omega
    simp [this]
  · unfold R4.some at hs
    simp only [Bool.and_eq_true, decide_eq_true_eq] at hs
    simp only [Bool.and_eq_true, decide_eq_true_eq]
    omega
instance : DecidableEq (Run Bool) := fun a b => by
  cases a with | mk a1 a2 a3 => cases b with | mk b1 b2 b3 =>
    exact if h : a1 = b1 ∧ a2 = b2 ∧ a3 = b3 then isTrue (by obtain ⟨rfl, rfl, rfl⟩ := h; rfl) else isFalse (fun e => by cases e; exact h ⟨rfl, rfl, rfl⟩)
/-- Is a place in bands? -/
def bhas (l : List (Run (List (Run Bool)))) (x y : Int) : Bool := at_ false (at_ [] l y) x
/-- The normal form of a region, as bands. -/
def NormB (l : List (Run (List (Run Bool)))) : Prop := Norm [] l ∧ ∀ b ∈ l, Norm false b.v
theorem at_norm {l : List (Run (List (Run Bool)))} (h : NormB l) (y : Int) : Norm false (at_ [] l y) := by
  by_cases hy : at_ [] l y = []
  · rw [hy]; trivial
  · obtain ⟨r, hr, _, _, he⟩ := at_some hy
    rw [he]
    exact h.2 r hr
/-- One region, one form. -/
theorem uniqueB {l m : List (Run (List (Run Bool)))} (hl : NormB l) (hm : NormB m) (h : ∀ x y, bhas l x y = bhas m x y) : l = m :=
  unique hl.1 hm.1 fun y => unique (at_norm hl y) (at_norm hm y) fun x => h x y
/-- Two regions put together, out of rows. -/
def sweepF (keep : Bool → Bool → Bool) (ra rb : Int → List (Run Bool)) (cs : List Int) : List (Run (List (Run Bool))) := go [] (fun y => mergeF keep (ra y) (rb y)) [] cs
theorem sweepF_spec (keep : Bool → Bool → Bool) (h0 : keep false false = false) (a b : List R4) (ra rb : Int → List (Run Bool)) (ha : ∀ y, IsRow a y (ra y)) (hb : ∀ y, IsRow b y (rb y)) :
    NormB (sweepF keep ra rb (distinctL (cutsF a ++ cutsF b))) ∧ ∀ x y, bhas (sweepF keep ra rb (distinctL (cutsF a ++ cutsF b))) x y = keep (has a x y) (has b x y) := by
  have hm : ∀ e, e ∈ distinctL (cutsF a ++ cutsF b) ↔ e ∈ cutsF a ∨ e ∈ cutsF b := fun e => by rw [mem_distinctL, List.mem_append]
  have hf : ∀ y x, at_ false (mergeF keep (ra y) (rb y)) x = keep (has a x y) (has b x y) := fun y x => by
    rw [(mergeF_spec keep h0 _ _).2, (ha y).2, (hb y).2]
  have hnil : ∀ y, (∀ x, keep (has a x y) (has b x y) = false) → mergeF keep (ra y) (rb y) = [] := fun y h =>
    unique (d := false) (mergeF_spec keep h0 _ _).1 trivial fun x => by rw [hf y x, h x]; rfl
  have key := runs_spec (d := []) (f := fun y => mergeF keep (ra y) (rb y)) _ (distinctL_lt (cutsF a ++ cutsF b))
    (fun y hy => hnil y fun x => by rw [has_out (.inr fun e he => hy e ((hm e).2 (.inl he))), has_out (.inr fun e he => hy e ((hm e).2 (.inr he))), h0])
    (fun y hy => hnil y fun x => by rw [has_out (.inl fun e he => hy e ((hm e).2 (.inl he))), has_out (.inl fun e he => hy e ((hm e).2 (.inr he))), h0])
    (fun y z hyz h => unique (mergeF_spec keep h0 _ _).1 (mergeF_spec keep h0 _ _).1 fun x => by
      rw [hf y x, hf z x, has_const hyz (fun e he => h e ((hm e).2 (.inl he))), has_const hyz (fun e he => h e ((hm e).2 (.inr he)))])
  refine ⟨⟨key.1, fun r hr => ?_⟩, fun x y => ?_⟩
  · have h1 := at_mem key.1 hr (Int.le_refl _) (norm_pos key.1 r hr).1
    rw [← h1]
    show Norm false (at_ [] (go [] (fun y => mergeF keep (ra y) (rb y)) [] _) r.a)
    rw [key.2]
    exact (mergeF_spec keep h0 _ _).1
  · unfold bhas sweepF
    rw [key.2]
    exact hf y x
/-- Bands as rectangles. -/
def rects (l : List (Run (List (Run Bool)))) : List R4 := l.flatMap fun b => b.v.map fun s => ⟨s.a, b.a, s.b, b.b⟩
theorem has_append (l m : List R4) (x y : Int) : has (l ++ m) x y = (has l x y || has m x y) := by simp [has]
theorem has_band (b : (Run (List (Run Bool)))) (x y : Int) (h : Norm false b.v) : has (b.v.map fun s => (⟨s.a, b.a, s.b, b.b⟩ : R4)) x y = (decide (b.a ≤ y ∧ y < b.b) && at_ false b.v x) := by
  obtain ⟨a, c, v⟩ := b
  dsimp only at *
  induction v with
  | nil => simp [has, at_]
  | cons s v ih =>
    have ht := norm_true h s (by simp)
    have ih' := ih h.2.2.2.2
    unfold has at *
    rw [List.map_cons, List.any_cons, ih', at_, ht]
    unfold R4.inn
    by_cases h1 : a ≤ y ∧ y < c <;> by_cases h2 : s.a ≤ x ∧ x < s.b <;> simp [h1, h2]
theorem has_rects {l : List (Run (List (Run Bool)))} (h : NormB l) (x y : Int) : has (rects l) x y = bhas l x y := by
  obtain ⟨h1, h2⟩ := h
  induction l with
  | nil => rfl
  | cons b l ih =>
    have ih' := ih h1.2.2.2.2 fun c hc => h2 c (by simp [hc])
    have e : rects (b :: l) = (b.v.map fun s => (⟨s.a, b.a, s.b, b.b⟩ : R4)) ++ rects l := by simp [rects]
    rw [e, has_append, has_band b x y (h2 b (by simp)), ih']
    unfold bhas
    rw [at_]
    by_cases hy : b.a ≤ y ∧ y < b.b
    · rw [if_pos hy]
      have : at_ [] l y = [] := at_below _ _ _ fun s hs => by have := h1.2.2.1 s hs; omega
      simp [hy, this, at_]
    · rw [if_neg hy]
      simp [hy]
theorem has_rowS (l : List R4) (x y : Int) : ((rowS l y).any fun r => decide (r.a ≤ x ∧ x < r.b)) = has l x y := by
  unfold rowS has
  induction l with
  | nil => rfl
  | cons r l ih =>
    by_cases hs : (r.some && decide (r.y0 ≤ y ∧ y < r.y1)) = true
    · rw [List.filter_cons, if_pos hs, List.map_cons, List.any_cons, List.any_cons, ih]
      simp only [Bool.and_eq_true, decide_eq_true_eq] at hs
      unfold R4.inn
      simp [hs.2]
    · rw [List.filter_cons, if_neg hs, List.any_cons, ih]
      have : r.inn x y = false := by
        unfold R4.inn
        unfold R4.some at hs
        simp only [Bool.and_eq_true, decide_eq_true_eq] at hs
        simp only [Bool.and_eq_false_iff, decide_eq_false_iff_not]
        omega
      rw [this, Bool.false_or]
theorem row_joins (l : List R4) (y : Int) (s : List (Run Bool)) (hp : s.Perm (rowS l y)) (hs : s.Pairwise fun r t => r.a ≤ t.a) : IsRow l y (s.foldl join []) ∧ (s.foldl join []).length ≤ (rowS l y).length := by
  have h1 : ∀ r ∈ s, r.a < r.b ∧ r.v = true := by
    intro r hr
    have := (hp.mem_iff).1 hr
    unfold rowS at this
    rw [List.mem_map] at this
    obtain ⟨q, hq, rfl⟩ := this
    have h2 := (List.mem_filter.1 hq).2
    unfold R4.some at h2
    simp only [Bool.and_eq_true, decide_eq_true_eq] at h2
    exact ⟨h2.1.1, rfl⟩
  obtain ⟨q1, q2, q3⟩ := joins_spec s [] trivial h1 hs (by simp)
  refine ⟨⟨q1, fun x => ?_⟩, by rw [← hp.length_eq]; simpa using q3⟩
  rw [q2, ← has_rowS]
  have : ∀ p : Run Bool → Bool, s.any p = (rowS l y).any p := by
    intro p
    rw [Bool.eq_iff_iff, List.any_eq_true, List.any_eq_true]
    constructor
    · rintro ⟨r, hr, h⟩; exact ⟨r, hp.mem_iff.1 hr, h⟩
    · rintro ⟨r, hr, h⟩; exact ⟨r, hp.mem_iff.2 hr, h⟩
  rw [this]
  simp [at_]
theorem rects_length (l : List (Run (List (Run Bool)))) : (rects l).length = weigh List.length l := by
  induction l with
  | nil => rfl
  | cons b l ih =>
    have e : rects (b :: l) = (b.v.map fun s => (⟨s.a, b.a, s.b, b.b⟩ : R4)) ++ rects l := by simp [rects]
    rw [e, List.length_append, ih, weigh, List.length_map]
theorem rowS_length (l : List R4) (y : Int) : (rowS l y).length = ((l.filter R4.some).map fun r => (r.y0, r.y1)).countP fun p => decide (p.1 ≤ y ∧ y < p.2) := by
  unfold rowS
  rw [List.length_map, List.countP_map, List.countP_filter, ← List.countP_eq_length_filter]
  congr 1
  funext r
  rw [Bool.and_comm]
  rfl
theorem sweep_many (keep : Bool → Bool → Bool) (a b : List R4) (ra rb : Int → List (Run Bool)) (ha : ∀ y, (ra y).length ≤ (rowS a y).length) (hb : ∀ y, (rb y).length ≤ (rowS b y).length) :
    (rects (sweepF keep ra rb (distinctL (cutsF a ++ cutsF b)))).length ≤ (a.length + b.length) * (a.length + b.length) := by
  rw [rects_length]
  refine Nat.le_trans (weigh_go [] List.length _ _ []) ?_
  simp only [weigh, Nat.zero_add]
  have h1 := slabs (((a ++ b).filter R4.some).map fun r => (r.y0, r.y1)) (by
      intro p hp
      obtain ⟨r, hr, rfl⟩ := List.mem_map.1 hp
      have := (List.mem_filter.1 hr).2
      unfold R4.some at this
      simp only [Bool.and_eq_true, decide_eq_true_eq] at this
      exact this.2) (distinctL (cutsF a ++ cutsF b)) (distinctL_lt _) (by
      intro p
      refine Nat.le_trans (count_distinctL p _) ?_
      have e : cutsF a ++ cutsF b = ((a ++ b).filter R4.some).flatMap fun r => [r.y0, r.y1] := by simp [cutsF]
      rw [e]
      generalize (a ++ b).filter R4.some = m
      induction m with
      | nil => simp [sumOf]
      | cons r m ih =>
        simp only [List.flatMap_cons, List.countP_append, List.map_cons, sumOf, List.countP_cons, List.countP_nil] at *
        omega)
  refine Nat.le_trans (sumOf_le _ (fun c => (((a ++ b).filter R4.some).map fun r => (r.y0, r.y1)).countP fun r => decide (r.1 ≤ c ∧ c < r.2)) _ fun c _ => ?_) (Nat.le_trans h1 ?_)
  · have h2 := mergeF_length keep (ra c) (rb c)
    have h3 := ha c
    have h4 := hb c
    rw [rowS_length] at h3 h4
    rw [List.filter_append, List.map_append, List.countP_append]
    omega
  · have h5 : (((a ++ b).filter R4.some).map fun r => (r.y0, r.y1)).length ≤ a.length + b.length := by
      rw [List.length_map]
      have := List.length_filter_le R4.some (a ++ b)
      rwa [List.length_append] at this
    exact Nat.mul_le_mul h5 h5
theorem rects_mem {l : List (Run (List (Run Bool)))} (h : NormB l) {r : R4} (hr : r ∈ rects l) : r.some = true ∧ ∀ x y, r.inn x y = true → bhas l x y = true := by
  constructor
  · unfold rects at hr
    rw [List.mem_flatMap] at hr
    obtain ⟨b, hb, hr⟩ := hr
    obtain ⟨s, hs, rfl⟩ := List.mem_map.1 hr
    have h1 := (norm_pos h.1 b hb).1
    have h2 := (norm_pos (h.2 b hb) s hs).1
    simp [R4.some, h1, h2]
  · intro x y hx
    rw [← has_rects h, has, List.any_eq_true]
    exact ⟨r, hr, hx⟩
/-- Have two rectangles no place in common? -/
def Apart (r s : R4) : Prop := ¬ (max r.x0 s.x0 < min r.x1 s.x1 ∧ max r.y0 s.y0 < min r.y1 s.y1)
theorem Apart.symm {r s : R4} (h : Apart r s) : Apart s r := by unfold Apart at *; omega
/-- How many places a form has. -/
def one (b : Bool) : Int := if b then 1 else 0
end Go.Proofs.Ytcoegjdnobiogaa.Rle
