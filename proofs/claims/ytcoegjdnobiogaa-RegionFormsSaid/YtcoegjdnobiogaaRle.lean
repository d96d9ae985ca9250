/- Runs of one value in normal form; cuts, and how many runs there are: plain lists. -/
namespace Go.Proofs.Ytcoegjdnobiogaa.Rle
/-- A run: from a place to another one, less 1, a value. -/
structure Run (α : Type) where
  a : Int
  b : Int
  v : α
/-- The value at a place. -/
def at_ {α : Type} (d : α) : List (Run α) → Int → α
  | [], _ => d
  | r :: l, x => if r.a ≤ x ∧ x < r.b then r.v else at_ d l x
/-- Normal: runs of places, no default, each behind the one ahead, and joined where they may be. -/
def Norm {α : Type} (d : α) : List (Run α) → Prop
  | [] => True
  | r :: l => r.a < r.b ∧ r.v ≠ d ∧ (∀ s ∈ l, r.b ≤ s.a) ∧ (∀ s ∈ l, s.a = r.b → s.v ≠ r.v) ∧ Norm d l
theorem at_below {α : Type} (d : α) (l : List (Run α)) (x : Int) (h : ∀ s ∈ l, x < s.a) : at_ d l x = d := by
  induction l with
  | nil => rfl
  | cons r l ih =>
    have := h r (by simp)
    rw [at_, if_neg (by omega)]
    exact ih fun s hs => h s (by simp [hs])
theorem at_mem {α : Type} {d : α} : ∀ {l : List (Run α)}, Norm d l → ∀ {x : Int} {r : Run α}, r ∈ l → r.a ≤ x → x < r.b → at_ d l x = r.v
  | [], _, _, _, h, _, _ => by simp at h
  | s :: l, hn, x, r, h, h1, h2 => by
    rcases List.mem_cons.1 h with rfl | h
    · rw [at_, if_pos ⟨h1, h2⟩]
    · have := hn.2.2.1 r h
      rw [at_, if_neg (by omega)]
      exact at_mem hn.2.2.2.2 h h1 h2
theorem at_some {α : Type} {d : α} : ∀ {l : List (Run α)} {x : Int}, at_ d l x ≠ d → ∃ r ∈ l, r.a ≤ x ∧ x < r.b ∧ at_ d l x = r.v
  | [], _, h => absurd rfl h
  | s :: l, x, h => by
    by_cases hx : s.a ≤ x ∧ x < s.b
    · exact ⟨s, by simp, hx.1, hx.2, by rw [at_, if_pos hx]⟩
    · rw [at_, if_neg hx] at h ⊢
      obtain ⟨r, hr, h1⟩ := at_some h
      exact ⟨r, by simp [hr], h1⟩
theorem norm_pos {α : Type} {d : α} : ∀ {l : List (Run α)}, Norm d l → ∀ r ∈ l, r.a < r.b ∧ r.v ≠ d
  | s :: l, hn, r, h => by
    rcases List.mem_cons.1 h with rfl | h
    · exact ⟨hn.1, hn.2.1⟩
    · exact norm_pos hn.2.2.2.2 r h
theorem at_end {α : Type} {d : α} {r : Run α} {l : List (Run α)} (hn : Norm d (r :: l)) : at_ d (r :: l) r.b ≠ r.v := by
  rw [at_, if_neg (by omega)]
  intro h
  have hd : at_ d l r.b ≠ d := by rw [h]; exact hn.2.1
  obtain ⟨s, hs, h1, h2, h3⟩ := at_some hd
  have := hn.2.2.1 s hs
  exact hn.2.2.2.1 s hs (by omega) (by rw [← h3, h])
/-- One function, one normal form. -/
theorem unique {α : Type} {d : α} : ∀ {l m : List (Run α)}, Norm d l → Norm d m → (∀ x, at_ d l x = at_ d m x) → l = m
  | [], [], _, _, _ => rfl
  | [], s :: m, _, hm, h => by
    have h1 := h s.a
    have h2 := hm.1
    rw [at_mem hm (List.mem_cons_self ..) (Int.le_refl _) h2] at h1
    exact absurd h1.symm hm.2.1
  | r :: l, [], hl, _, h => by
    have h1 := h r.a
    have h2 := hl.1
    rw [at_mem hl (List.mem_cons_self ..) (Int.le_refl _) h2] at h1
    exact absurd h1 hl.2.1
  | r :: l, s :: m, hl, hm, h => by
    have rp := hl.1
    have sp := hm.1
    have e1 : r.a = s.a := by
      rcases Int.lt_trichotomy r.a s.a with h0 | h0 | h0
      · exfalso
        have h1 := h r.a
        rw [at_mem hl (List.mem_cons_self ..) (Int.le_refl _) rp, at_below d (s :: m) r.a (by
          intro t ht
          rcases List.mem_cons.1 ht with rfl | ht
          · exact h0
          · have := hm.2.2.1 t ht; omega)] at h1
        exact hl.2.1 h1
      · exact h0
      · exfalso
        have h1 := h s.a
        rw [at_mem hm (List.mem_cons_self ..) (Int.le_refl _) sp, at_below d (r :: l) s.a (by
          intro t ht
          rcases List.mem_cons.1 ht with rfl | ht
          · exact h0
          · have := hl.2.2.1 t ht; omega)] at h1
        exact hm.2.1 h1.symm
    have e2 : r.v = s.v := by
      have h1 := h r.a
      rw [at_mem hl (List.mem_cons_self ..) (Int.le_refl _) rp, at_mem hm (List.mem_cons_self ..) (by omega) (by omega)] at h1
      exact h1
    have e3 : r.b = s.b := by
      rcases Int.lt_trichotomy r.b s.b with h0 | h0 | h0
      · exfalso
        have h1 := h r.b
        rw [at_mem hm (List.mem_cons_self ..) (by omega) h0] at h1
        exact at_end hl (h1.trans e2.symm)
      · exact h0
      · exfalso
        have h1 := h s.b
        rw [at_mem hl (List.mem_cons_self ..) (by omega) h0] at h1
        exact at_end hm (h1.symm.trans e2)
    have e : r = s := by cases r; cases s; simp_all
    subst e
    rw [unique hl.2.2.2.2 hm.2.2.2.2 fun x => ?_]
    have h1 := h x
    by_cases hx : r.a ≤ x ∧ x < r.b
    · rw [at_below d l x fun t ht => by have := hl.2.2.1 t ht; omega, at_below d m x fun t ht => by have := hm.2.2.1 t ht; omega]
    · rwa [at_, if_neg hx, at_, if_neg hx] at h1
/-- A value put behind runs: joined with the last one, if it goes on there. -/
def push {α : Type} [DecidableEq α] (l : List (Run α)) (r : Run α) : List (Run α) :=
  match l.getLast? with
  | some s => if s.b = r.a ∧ s.v = r.v then l.dropLast ++ [⟨s.a, r.b, s.v⟩] else l ++ [r]
  | none => l ++ [r]
/-- The runs of a function that changes at cuts alone. -/
def go {α : Type} [DecidableEq α] (d : α) (f : Int → α) (out : List (Run α)) : List Int → List (Run α)
  | c :: e :: l => go d f (if f c = d then out else push out ⟨c, e, f c⟩) (e :: l)
  | _ => out
theorem norm_snoc {α : Type} {d : α} : ∀ {l : List (Run α)} {r : Run α}, Norm d l → r.a < r.b → r.v ≠ d → (∀ s ∈ l, s.b ≤ r.a) → (∀ s ∈ l, s.b = r.a → s.v ≠ r.v) → Norm d (l ++ [r])
  | [], r, _, h1, h2, _, _ => ⟨h1, h2, by simp, by simp, trivial⟩
  | s :: l, r, hn, h1, h2, h3, h4 => by
    refine ⟨hn.1, hn.2.1, ?_, ?_, norm_snoc hn.2.2.2.2 h1 h2 (fun t ht => h3 t (by simp [ht])) (fun t ht => h4 t (by simp [ht]))⟩
    · intro t ht
      rcases List.mem_append.1 ht with ht | ht
      · exact hn.2.2.1 t ht
      · simp at ht; subst ht; exact h3 s (by simp)
    · intro t ht e
      rcases List.mem_append.1 ht with ht | ht
      · exact hn.2.2.2.1 t ht e
      · simp at ht; subst ht; exact fun e2 => h4 s (by simp) e.symm e2.symm
theorem norm_init {α : Type} {d : α} : ∀ {l : List (Run α)} {r : Run α}, Norm d (l ++ [r]) → Norm d l ∧ r.a < r.b ∧ r.v ≠ d ∧ (∀ s ∈ l, s.b ≤ r.a) ∧ (∀ s ∈ l, s.b = r.a → s.v ≠ r.v)
  | [], r, h => ⟨trivial, h.1, h.2.1, by simp, by simp⟩
  | s :: l, r, h => by
    obtain ⟨h1, h2, h3, h4, h5⟩ := norm_init h.2.2.2.2
    refine ⟨⟨h.1, h.2.1, fun t ht => h.2.2.1 t (by simp [ht]), fun t ht => h.2.2.2.1 t (by simp [ht]), h1⟩, h2, h3, ?_, ?_⟩
    · intro t ht
      rcases List.mem_cons.1 ht with rfl | ht
      · exact h.2.2.1 r (by simp)
      · exact h4 t ht
    · intro t ht e
      rcases List.mem_cons.1 ht with rfl | ht
      · exact fun e2 => h.2.2.2.1 r (by simp) e.symm e2.symm
      · exact h5 t ht e
theorem at_snoc {α : Type} {d : α} : ∀ {l : List (Run α)} {r : Run α} (x : Int), (∀ s ∈ l, s.b ≤ r.a) → at_ d (l ++ [r]) x = if r.a ≤ x ∧ x < r.b then r.v else at_ d l x
  | [], r, x, _ => rfl
  | s :: l, r, x, h => by
    have h1 := h s (by simp)
    have ih := at_snoc (d := d) (l := l) (r := r) x fun t ht => h t (by simp [ht])
    simp only [List.cons_append, at_, ih]
    by_cases hx : s.a ≤ x ∧ x < s.b
    · rw [if_pos hx, if_neg (by omega)]; simp [hx]
    · simp [hx]
theorem push_spec {α : Type} [DecidableEq α] {d : α} {l : List (Run α)} {r : Run α} (hn : Norm d l) (h1 : r.a < r.b) (h2 : r.v ≠ d) (h3 : ∀ s ∈ l, s.b ≤ r.a) :
    Norm d (push l r) ∧ (∀ x, at_ d (push l r) x = if r.a ≤ x ∧ x < r.b then r.v else at_ d l x) ∧ ∀ s ∈ push l r, s.b ≤ r.b := by
  unfold push
  rcases List.eq_nil_or_concat l with rfl | ⟨m, s, rfl⟩
  · exact ⟨⟨h1, h2, by simp, by simp, trivial⟩, fun x => rfl, by simp⟩
  · simp only [List.concat_eq_append] at *
    rw [List.getLast?_concat]
    obtain ⟨g1, g2, g3, g4, g5⟩ := norm_init hn
    have g6 := h3 s (by simp)
    by_cases hj : s.b = r.a ∧ s.v = r.v
    · simp only [if_pos hj, List.dropLast_concat]
      refine ⟨norm_snoc g1 (by show s.a < r.b; omega) g3 g4 g5, fun x => ?_, fun t ht => ?_⟩
      · rw [at_snoc (r := ⟨s.a, r.b, s.v⟩) x g4, at_snoc x g4]
        show (if s.a ≤ x ∧ x < r.b then s.v else _) = _
        by_cases hx : r.a ≤ x ∧ x < r.b
        · rw [if_pos (by omega), if_pos hx, hj.2]
        · rw [if_neg hx]
          by_cases hx2 : s.a ≤ x ∧ x < s.b
          · rw [if_pos (by omega), if_pos hx2]
          · rw [if_neg (by omega), if_neg hx2]
      · rcases List.mem_append.1 ht with ht | ht
        · have := g4 t ht; omega
        · simp at ht; subst ht; exact Int.le_refl _
    · simp only [if_neg hj]
      refine ⟨norm_snoc hn h1 h2 h3 ?_, fun x => at_snoc x h3, fun t ht => ?_⟩
      · intro t ht e
        rcases List.mem_append.1 ht with ht | ht
        · have := g4 t ht
          exfalso; omega
        · simp at ht; subst ht; exact fun e2 => hj ⟨e, e2⟩
      · rcases List.mem_append.1 ht with ht | ht
        · have := h3 t (by simp [ht]); omega
        · simp at ht; subst ht; omega
theorem at_behind {α : Type} (d : α) (l : List (Run α)) (x : Int) (h : ∀ s ∈ l, s.b ≤ x) : at_ d l x = d := by
  induction l with
  | nil => rfl
  | cons r l ih =>
    have := h r (by simp)
    rw [at_, if_neg (by omega)]
    exact ih fun s hs => h s (by simp [hs])
theorem go_spec {α : Type} [DecidableEq α] {d : α} {f : Int → α} : ∀ (cs : List Int) (c : Int) (out : List (Run α)), (c :: cs).Pairwise (· < ·) → Norm d out → (∀ s ∈ out, s.b ≤ c) →
    (∀ x, (∀ e ∈ c :: cs, e ≤ x) → f x = d) → (∀ x y, c ≤ x → x ≤ y → (∀ e ∈ cs, ¬ (x < e ∧ e ≤ y)) → f x = f y) → (∀ x, x < c → at_ d out x = f x) →
    Norm d (go d f out (c :: cs)) ∧ ∀ x, at_ d (go d f out (c :: cs)) x = f x
  | [], c, out, _, hn, hb, hl, hf, ha => by
    refine ⟨hn, fun x => ?_⟩
    rw [go.eq_2 _ _ _ _ (by simp)]
    by_cases hx : x < c
    · exact ha x hx
    · rw [hl x (by simp; omega)]
      exact at_behind d out x fun s hs => by have := hb s hs; omega
  | e :: cs, c, out, hp, hn, hb, hl, hf, ha => by
    have hce : c < e := (List.pairwise_cons.1 hp).1 e (by simp)
    have hp' := (List.pairwise_cons.1 hp).2
    have hp2 := (List.pairwise_cons.1 hp').1
    have hconst : ∀ x, c ≤ x → x < e → f x = f c := by
      intro x h1 h2
      refine (hf c x (Int.le_refl _) h1 fun z hz => ?_).symm
      rcases List.mem_cons.1 hz with rfl | hz
      · omega
      · have := hp2 z hz; omega
    rw [go]
    have hl' : ∀ x, (∀ z ∈ e :: cs, z ≤ x) → f x = d := fun x hx => hl x fun z hz => by
      rcases List.mem_cons.1 hz with rfl | hz
      · have := hx e (by simp); omega
      · exact hx z hz
    have hf' : ∀ x y, e ≤ x → x ≤ y → (∀ z ∈ cs, ¬ (x < z ∧ z ≤ y)) → f x = f y := fun x y h1 h2 h3 => hf x y (by omega) h2 fun z hz => by
      rcases List.mem_cons.1 hz with rfl | hz
      · omega
      · exact h3 z hz
    by_cases h0 : f c = d
    · rw [if_pos h0]
      refine go_spec cs e out hp' hn (fun s hs => by have := hb s hs; omega) hl' hf' fun x hx => ?_
      by_cases hx2 : x < c
      · exact ha x hx2
      · rw [hconst x (by omega) hx, h0]
        exact at_behind d out x fun s hs => by have := hb s hs; omega
    · rw [if_neg h0]
      obtain ⟨p1, p2, p3⟩ := push_spec (r := ⟨c, e, f c⟩) hn hce h0 hb
      refine go_spec cs e _ hp' p1 p3 hl' hf' fun x hx => ?_
      rw [p2]
      by_cases hx2 : x < c
      · rw [if_neg (by show ¬ (c ≤ x ∧ _); omega)]; exact ha x hx2
      · rw [if_pos ⟨by show c ≤ x; omega, hx⟩]; exact (hconst x (by omega) hx).symm
/-- The runs of a function over all cuts. -/
theorem runs_spec {α : Type} [DecidableEq α] {d : α} {f : Int → α} (cs : List Int) (hp : cs.Pairwise (· < ·)) (h1 : ∀ x, (∀ e ∈ cs, e ≤ x) → f x = d) (h2 : ∀ x, (∀ e ∈ cs, x < e) → f x = d)
    (h3 : ∀ x y, x ≤ y → (∀ e ∈ cs, ¬ (x < e ∧ e ≤ y)) → f x = f y) : Norm d (go d f [] cs) ∧ ∀ x, at_ d (go d f [] cs) x = f x := by
  cases cs with
  | nil => exact ⟨trivial, fun x => (h1 x (by simp)).symm⟩
  | cons c cs =>
    have hp2 := (List.pairwise_cons.1 hp).1
    refine go_spec cs c [] hp trivial (by simp) h1 (fun x y hx hy hh => h3 x y hy fun z hz => ?_) fun x hx => (h2 x fun z hz => ?_).symm
    · rcases List.mem_cons.1 hz with rfl | hz
      · omega
      · exact hh z hz
    · rcases List.mem_cons.1 hz with rfl | hz
      · exact hx
      · have := hp2 z hz; omega
/-- A span into spans: spans that begin at no lesser place. -/
def join (l : List (Run Bool)) (r : Run Bool) : List (Run Bool) :=
  match l.getLast? with
  | some s => if r.a ≤ s.b then l.dropLast ++ [⟨s.a, max s.b r.b, true⟩] else l ++ [r]
  | none => l ++ [r]
theorem join_spec {l : List (Run Bool)} {r : Run Bool} (hn : Norm false l) (h1 : r.a < r.b) (h2 : r.v = true) (h3 : ∀ s ∈ l, s.a ≤ r.a) :
    Norm false (join l r) ∧ (∀ x, at_ false (join l r) x = (decide (r.a ≤ x ∧ x < r.b) || at_ false l x)) ∧ (∀ s ∈ join l r, s.a ≤ r.a) ∧ (join l r).length ≤ l.length + 1 := by
  unfold join
  rcases List.eq_nil_or_concat l with rfl | ⟨m, s, rfl⟩
  · refine ⟨⟨h1, by simp [h2], by simp, by simp, trivial⟩, fun x => ?_, by simp, by simp⟩
    simp only [List.getLast?_nil, List.nil_append, at_, h2]
    by_cases hx : r.a ≤ x ∧ x < r.b <;> simp [hx]
  · simp only [List.concat_eq_append] at *
    rw [List.getLast?_concat]
    obtain ⟨g1, g2, g3, g4, g5⟩ := norm_init hn
    have g6 := h3 s (by simp)
    have g7 : s.v = true := by cases h : s.v <;> simp_all
    by_cases hj : r.a ≤ s.b
    · simp only [if_pos hj, List.dropLast_concat]
      refine ⟨norm_snoc g1 (by show s.a < max s.b r.b; omega) (by simp) g4 (fun t ht e => by show t.v ≠ true; rw [← g7]; exact g5 t ht e), fun x => ?_, fun t ht => ?_, by simp⟩
      · rw [at_snoc (r := ⟨s.a, max s.b r.b, true⟩) x g4, at_snoc x g4, g7]
        show (if s.a ≤ x ∧ x < max s.b r.b then true else _) = _
        by_cases hx : r.a ≤ x ∧ x < r.b
        · rw [if_pos (by omega)]; simp [hx]
        · by_cases hx2 : s.a ≤ x ∧ x < s.b
          · rw [if_pos (by omega), if_pos hx2]; simp
          · rw [if_neg (by omega), if_neg hx2]; simp [hx]
      · rcases List.mem_append.1 ht with ht | ht
        · exact h3 t (by simp [ht])
        · simp at ht; subst ht; exact g6
    · simp only [if_neg hj]
      have g8 : ∀ t ∈ m ++ [s], t.b < r.a := by
        intro t ht
        rcases List.mem_append.1 ht with ht | ht
        · have := g4 t ht; omega
        · simp at ht; subst ht; omega
      refine ⟨norm_snoc hn h1 (by simp [h2]) (fun t ht => by have := g8 t ht; omega) (fun t ht e => by have := g8 t ht; omega), fun x => ?_, fun t ht => ?_, by simp⟩
      · rw [at_snoc x fun t ht => by have := g8 t ht; omega, h2]
        by_cases hx : r.a ≤ x ∧ x < r.b <;> simp [hx]
      · rcases List.mem_append.1 ht with ht | ht
        · exact h3 t ht
        · simp at ht; subst ht; exact Int.le_refl _
theorem joins_spec : ∀ (l out : List (Run Bool)), Norm false out → (∀ r ∈ l, r.a < r.b ∧ r.v = true) → l.Pairwise (fun r s => r.a ≤ s.a) → (∀ s ∈ out, ∀ r ∈ l, s.a ≤ r.a) →
    Norm false (l.foldl join out) ∧ (∀ x, at_ false (l.foldl join out) x = (l.any (fun r => decide (r.a ≤ x ∧ x < r.b)) || at_ false out x)) ∧ (l.foldl join out).length ≤ l.length + out.length
  | [], out, hn, _, _, _ => ⟨hn, fun x => by simp, by simp⟩
  | r :: l, out, hn, h1, h2, h3 => by
    have h4 := h1 r (by simp)
    have h5 := List.pairwise_cons.1 h2
    obtain ⟨p1, p2, p3, p4⟩ := join_spec hn h4.1 h4.2 fun s hs => h3 s hs r (by simp)
    obtain ⟨q1, q2, q3⟩ := joins_spec l (join out r) p1 (fun s hs => h1 s (by simp [hs])) h5.2 fun s hs t ht => by
      have := p3 s hs
      have := h5.1 t ht
      omega
    refine ⟨q1, fun x => ?_, by simp only [List.length_cons, List.foldl_cons]; omega⟩
    simp only [List.foldl_cons, List.any_cons]
    rw [q2, p2]
    cases decide (r.a ≤ x ∧ x < r.b) <;> simp
/-- Twice as many cuts as runs. -/
theorem go_length {α : Type} [DecidableEq α] (d : α) (f : Int → α) : ∀ (cs : List Int) (out : List (Run α)), (go d f out cs).length ≤ out.length + (cs.length - 1)
  | [], out => by simp [go]
  | [c], out => by simp [go]
  | c :: e :: cs, out => by
    rw [go]
    have ih := go_length d f (e :: cs) (if f c = d then out else push out ⟨c, e, f c⟩)
    have hp : (push out ⟨c, e, f c⟩).length ≤ out.length + 1 := by
      unfold push
      rcases List.eq_nil_or_concat out with rfl | ⟨m, s, rfl⟩
      · simp
      · simp only [List.concat_eq_append]
        rw [List.getLast?_concat]
        by_cases hj : s.b = c ∧ s.v = f c
        · simp only [if_pos hj]; simp
        · simp only [if_neg hj]; simp
    by_cases h0 : f c = d
    · simp only [if_pos h0] at *; simp at *; omega
    · simp only [if_neg h0] at *; simp at *; omega
/-- Runs of yes and no: twice their number is no more than the cuts. -/
theorem go_length2 (f : Int → Bool) : ∀ (cs : List Int) (c : Int) (out : List (Run Bool)), (c :: cs).Pairwise (· < ·) → (∀ s ∈ out, s.b ≤ c ∧ s.v = true) →
    2 * (go false f out (c :: cs)).length ≤ 2 * out.length + (if ∃ s ∈ out.getLast?, s.b = c then cs.length else cs.length + 1)
  | [], c, out, _, _ => by
    rw [go.eq_2 _ _ _ _ (by simp)]
    omega
  | e :: cs, c, out, hp, hb => by
    have hce : c < e := (List.pairwise_cons.1 hp).1 e (by simp)
    have hp' := (List.pairwise_cons.1 hp).2
    rw [go]
    by_cases h0 : f c = false
    · rw [if_pos h0]
      have ih := go_length2 f cs e out hp' fun s hs => ⟨by have := (hb s hs).1; omega, (hb s hs).2⟩
      rw [if_neg (by
        rintro ⟨s, hs, h1⟩
        have := (hb s (List.mem_of_getLast? (by simpa using hs))).1
        omega)] at ih
      split <;> simp only [List.length_cons] at * <;> omega
    · rw [if_neg h0]
      have hv : f c = true := by simpa using h0
      rw [hv]
      rcases List.eq_nil_or_concat out with rfl | ⟨m, s, rfl⟩
      · have ih := go_length2 f cs e (push [] ⟨c, e, true⟩) hp' (by simp [push])
        have e1 : push [] (⟨c, e, true⟩ : Run Bool) = [⟨c, e, true⟩] := rfl
        rw [e1] at ih ⊢
        rw [if_pos ⟨⟨c, e, true⟩, by simp, rfl⟩] at ih
        rw [if_neg (by simp)]
        simp only [List.length_cons, List.length_nil] at *
        omega
      · simp only [List.concat_eq_append] at *
        have hs := hb s (by simp)
        have e1 : push (m ++ [s]) (⟨c, e, true⟩ : Run Bool) = if s.b = c then m ++ [⟨s.a, e, true⟩] else m ++ [s] ++ [⟨c, e, true⟩] := by
          unfold push
          rw [List.getLast?_concat]
          by_cases hj : s.b = c
          · simp [hj, hs.2]
          · simp [hj]
        rw [e1, List.getLast?_concat]
        by_cases hj : s.b = c
        · rw [if_pos hj, if_pos ⟨s, by simp, hj⟩]
          have ih := go_length2 f cs e (m ++ [⟨s.a, e, true⟩]) hp' (by
            intro t ht
            rcases List.mem_append.1 ht with ht | ht
            · have := hb t (by simp [ht]); exact ⟨by omega, this.2⟩
            · simp at ht; subst ht; exact ⟨Int.le_refl _, rfl⟩)
          rw [List.getLast?_concat, if_pos ⟨⟨s.a, e, true⟩, by simp, rfl⟩] at ih
          simp only [List.length_cons, List.length_append, List.length_nil] at *
          omega
        · rw [if_neg hj, if_neg (by rintro ⟨t, ht, h1⟩; simp at ht; subst ht; exact hj h1)]
          have ih := go_length2 f cs e (m ++ [s] ++ [⟨c, e, true⟩]) hp' (by
            intro t ht
            rcases List.mem_append.1 ht with ht | ht
            · have := hb t ht; exact ⟨by omega, this.2⟩
            · simp at ht; subst ht; exact ⟨Int.le_refl _, rfl⟩)
          rw [List.getLast?_concat, if_pos ⟨⟨c, e, true⟩, by simp, rfl⟩] at ih
          simp only [List.length_cons, List.length_append, List.length_nil] at *
          omega
theorem runs_length2 (f : Int → Bool) (cs : List Int) (hp : cs.Pairwise (· < ·)) : 2 * (go false f [] cs).length ≤ cs.length := by
  cases cs with
  | nil => simp [go]
  | cons c cs =>
    have := go_length2 f cs c [] hp (by simp)
    simp at this
    simpa using this
/-- What the runs' values weigh. -/
def weigh {α : Type} (w : α → Nat) : List (Run α) → Nat
  | [] => 0
  | r :: l => w r.v + weigh w l
theorem weigh_append {α : Type} (w : α → Nat) : ∀ l m : List (Run α), weigh w (l ++ m) = weigh w l + weigh w m
  | [], m => by simp [weigh]
  | r :: l, m => by simp [weigh, weigh_append w l m]; omega
def sumOf {β : Type} (g : β → Nat) : List β → Nat
  | [] => 0
  | x :: l => g x + sumOf g l
theorem weigh_go {α : Type} [DecidableEq α] (d : α) (w : α → Nat) (f : Int → α) : ∀ (cs : List Int) (out : List (Run α)), weigh w (go d f out cs) ≤ weigh w out + sumOf (fun c => w (f c)) cs
  | [], out => by simp [go]
  | [c], out => by simp [go]
  | c :: e :: cs, out => by
    rw [go, sumOf]
    have ih := weigh_go d w f (e :: cs) (if f c = d then out else push out ⟨c, e, f c⟩)
    have hp : weigh w (push out ⟨c, e, f c⟩) ≤ weigh w out + w (f c) := by
      unfold push
      rcases List.eq_nil_or_concat out with rfl | ⟨m, s, rfl⟩
      · simp [weigh]
      · simp only [List.concat_eq_append]
        rw [List.getLast?_concat]
        by_cases hj : s.b = c ∧ s.v = f c
        · simp only [if_pos hj, List.dropLast_concat, weigh_append, weigh]; omega
        · simp only [if_neg hj, weigh_append, weigh]; omega
    by_cases h0 : f c = d
    · simp only [if_pos h0] at *; omega
    · simp only [if_neg h0] at *; omega
/-- A number into a list that rises strictly. -/
def insU (x : Int) : List Int → List Int
  | [] => [x]
  | y :: l => if x < y then x :: y :: l else if x = y then y :: l else y :: insU x l
/-- A list's numbers, rising, each once. -/
def distinctL : List Int → List Int
  | [] => []
  | x :: l => insU x (distinctL l)
theorem mem_insU (x z : Int) (l : List Int) : z ∈ insU x l ↔ z = x ∨ z ∈ l := by
  induction l with
  | nil => simp [insU]
  | cons y l ih =>
    unfold insU
    split
    · simp
    · split
      · rename_i h; subst h; simp
      · simp [ih]; constructor
        · rintro (h | h | h) <;> simp [h]
        · rintro (h | h | h) <;> simp [h]
theorem mem_distinctL (z : Int) (l : List Int) : z ∈ distinctL l ↔ z ∈ l := by
  induction l with
  | nil => simp [distinctL]
  | cons x l ih => simp [distinctL, mem_insU, ih]
theorem insU_lt (x : Int) (l : List Int) (h : l.Pairwise (· < ·)) : (insU x l).Pairwise (· < ·) := by
  induction l with
  | nil => simp [insU]
  | cons y l ih =>
    have hp := List.pairwise_cons.1 h
    unfold insU
    split
    · rename_i hxy
      refine List.pairwise_cons.2 ⟨fun z hz => ?_, h⟩
      rcases List.mem_cons.1 hz with rfl | hz
      · exact hxy
      · exact Int.lt_trans hxy (hp.1 z hz)
    · split
      · exact h
      · rename_i h1 h2
        refine List.pairwise_cons.2 ⟨fun z hz => ?_, ih hp.2⟩
        rcases (mem_insU x z l).1 hz with rfl | hz
        · omega
        · exact hp.1 z hz
theorem distinctL_lt (l : List Int) : (distinctL l).Pairwise (· < ·) := by
  induction l with
  | nil => exact List.Pairwise.nil
  | cons x l ih => exact insU_lt x _ ih
theorem count_insU (p : Int → Bool) (x : Int) (l : List Int) : (insU x l).countP p ≤ l.countP p + (if p x then 1 else 0) := by
  induction l with
  | nil => simp [insU, List.countP_cons]
  | cons y l ih =>
    unfold insU
    split
    · simp [List.countP_cons]
    · split
      · rename_i h; subst h; simp [List.countP_cons]
      · simp only [List.countP_cons]; omega
theorem count_distinctL (p : Int → Bool) (l : List Int) : (distinctL l).countP p ≤ l.countP p := by
  induction l with
  | nil => simp [distinctL]
  | cons x l ih =>
    have := count_insU p x (distinctL l)
    rw [distinctL, List.countP_cons]
    omega
theorem distinctL_length (l : List Int) : (distinctL l).length ≤ l.length := by
  have := count_distinctL (fun _ => true) l
  simpa [List.countP_true] using this
theorem count_one (z : Int) : ∀ l : List Int, l.Pairwise (· < ·) → l.countP (fun x => decide (x = z)) ≤ 1
  | [], _ => by simp
  | x :: l, h => by
    have h1 := List.pairwise_cons.1 h
    rw [List.countP_cons]
    by_cases hx : x = z
    · have h0 : l.countP (fun x => decide (x = z)) = 0 := by
        rw [List.countP_eq_zero]
        intro y hy
        have := h1.1 y hy
        simp; omega
      simp [hx, h0]
    · have := count_one z l h1.2
      simp [hx, this]
/-- How often the places of pairs lie inside of a pair of them. -/
theorem sumOf_add {β : Type} (g h : β → Nat) (l : List β) : sumOf (fun x => g x + h x) l = sumOf g l + sumOf h l := by
  induction l with
  | nil => rfl
  | cons x l ih => simp [sumOf, ih]; omega
theorem sumOf_le {β : Type} (g h : β → Nat) (l : List β) (H : ∀ x ∈ l, g x ≤ h x) : sumOf g l ≤ sumOf h l := by
  induction l with
  | nil => exact Nat.le_refl _
  | cons x l ih =>
    have := H x (by simp)
    have := ih fun y hy => H y (by simp [hy])
    simp [sumOf]; omega
theorem sumOf_const {β : Type} (n : Nat) (l : List β) : sumOf (fun _ => n) l = l.length * n := by
  induction l with
  | nil => simp [sumOf]
  | cons x l ih => simp [sumOf, ih, Nat.add_mul]; omega
theorem sumOf_swap {β γ : Type} (g : β → γ → Nat) (l : List β) (m : List γ) : sumOf (fun x => sumOf (fun y => g x y) m) l = sumOf (fun y => sumOf (fun x => g x y) l) m := by
  induction l with
  | nil => simp [sumOf, sumOf_const]
  | cons x l ih => simp [sumOf, ih, sumOf_add]
theorem countP_sum {β : Type} (p : β → Bool) (l : List β) : l.countP p = sumOf (fun x => if p x then 1 else 0) l := by
  induction l with
  | nil => rfl
  | cons x l ih => rw [List.countP_cons, ih, sumOf]; omega
theorem sym_sum {β : Type} (g : β → β → Nat) (h0 : ∀ x, g x x = 0) (h2 : ∀ x y, g x y + g y x ≤ 2) (l : List β) : sumOf (fun x => sumOf (fun y => g x y) l) l + l.length ≤ l.length * l.length := by
  induction l with
  | nil => simp [sumOf]
  | cons z l ih =>
    have e1 : sumOf (fun x => sumOf (fun y => g x y) (z :: l)) (z :: l) = (g z z + sumOf (fun y => g z y) l) + (sumOf (fun x => g x z) l + sumOf (fun x => sumOf (fun y => g x y) l) l) := by
      simp [sumOf, sumOf_add]
    have e2 : sumOf (fun y => g z y) l + sumOf (fun x => g x z) l ≤ l.length * 2 := by
      rw [← sumOf_add, ← sumOf_const]
      exact sumOf_le _ _ _ fun x _ => h2 z x
    rw [e1, h0 z]
    have e3 : (z :: l).length * (z :: l).length = l.length * l.length + l.length * 2 + 1 := by
      simp [Nat.add_mul, Nat.mul_add]; omega
    rw [e3]
    simp only [List.length_cons]
    omega
/-- Pairs of rows, cut at their ends: all that are met at the cuts are no more than the square of their number. -/
theorem slabs (L : List (Int × Int)) (hL : ∀ r ∈ L, r.1 < r.2) (cs : List Int) (hp : cs.Pairwise (· < ·)) (hc : ∀ p : Int → Bool, cs.countP p ≤ sumOf (fun s => (if p s.1 then 1 else 0) + (if p s.2 then 1 else 0)) L) :
    sumOf (fun c => L.countP fun r => decide (r.1 ≤ c ∧ c < r.2)) cs ≤ L.length * L.length := by
  have e1 : sumOf (fun c => L.countP fun r => decide (r.1 ≤ c ∧ c < r.2)) cs = sumOf (fun r : Int × Int => cs.countP fun c => decide (r.1 ≤ c ∧ c < r.2)) L := by
    simp only [countP_sum]
    exact sumOf_swap _ _ _
  rw [e1]
  have e2 : ∀ r ∈ L, (cs.countP fun c => decide (r.1 ≤ c ∧ c < r.2)) ≤ 1 + sumOf (fun s => (if decide (r.1 < s.1 ∧ s.1 < r.2) then 1 else 0) + (if decide (r.1 < s.2 ∧ s.2 < r.2) then 1 else 0)) L := by
    intro r hr
    have h1 := count_one r.1 cs hp
    have h2 := hc fun c => decide (r.1 < c ∧ c < r.2)
    have h3 : (cs.countP fun c => decide (r.1 ≤ c ∧ c < r.2)) ≤ (cs.countP fun c => decide (c = r.1)) + (cs.countP fun c => decide (r.1 < c ∧ c < r.2)) := by
      simp only [countP_sum]
      rw [← sumOf_add]
      refine sumOf_le _ _ _ fun c _ => ?_
      by_cases a1 : c = r.1
      · simp only [a1, decide_true, if_true]; split <;> omega
      · by_cases a2 : r.1 ≤ c ∧ c < r.2
        · rw [if_pos (by simpa using a2), if_neg (by simpa using a1), if_pos (by simp; omega)]
          exact Nat.le_refl _
        · rw [if_neg (by simpa using a2)]; omega
    omega
  refine Nat.le_trans (sumOf_le _ _ _ e2) ?_
  rw [sumOf_add, sumOf_const]
  have h4 := sym_sum (fun r s : Int × Int => if r.1 < r.2 ∧ s.1 < s.2 then (if decide (r.1 < s.1 ∧ s.1 < r.2) then 1 else 0) + (if decide (r.1 < s.2 ∧ s.2 < r.2) then 1 else 0) else 0)
    (fun r => by simp) (fun r s => by
      by_cases a : r.1 < r.2 ∧ s.1 < s.2
      · rw [if_pos (show r.1 < r.2 ∧ s.1 < s.2 from a), if_pos (show s.1 < s.2 ∧ r.1 < r.2 from ⟨a.2, a.1⟩)]
        simp only [decide_eq_true_eq]
        repeat (first | omega | split)
      · rw [if_neg a, if_neg fun b => a ⟨b.2, b.1⟩]; omega) L
  have h5 : sumOf (fun r : Int × Int => sumOf (fun s => (if decide (r.1 < s.1 ∧ s.1 < r.2) then 1 else 0) + (if decide (r.1 < s.2 ∧ s.2 < r.2) then 1 else 0)) L) L ≤
      sumOf (fun r : Int × Int => sumOf (fun s => if r.1 < r.2 ∧ s.1 < s.2 then (if decide (r.1 < s.1 ∧ s.1 < r.2) then 1 else 0) + (if decide (r.1 < s.2 ∧ s.2 < r.2) then 1 else 0) else 0) L) L := by
    refine sumOf_le _ _ _ fun r hr => sumOf_le _ _ _ fun s hs => ?_
    rw [if_pos (show r.1 < r.2 ∧ s.1 < s.2 from ⟨hL r hr, hL s hs⟩)]
    exact Nat.le_refl _
  omega
end Go.Proofs.Ytcoegjdnobiogaa.Rle
