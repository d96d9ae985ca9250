/- slices.SortFunc over spans by their first ends: its contract. -/
import Derived.Test.YtcoegjdnobiogaaRgS
import Derived.Test.YtcoegjdnobiogaaRgA
import Derived.Sort.AssemblyPlain
set_option linter.unusedVariables false
set_option linter.unusedSimpArgs false
namespace Go.Proofs.Ytcoegjdnobiogaa.PG
open Go.RowKit Go.Proofs.YtcoegjdnobiogaaW.PrintWords Go.Proofs.YtcoegjdnobiogaaW.PrintLast Go.Proofs.YtcoegjdnobiogaaW.PrintMore
open Go.Sort Go.Lib

namespace Rg
instance : Inhabited S114 := ⟨z114⟩
def encS (s : S114) : List Value := [.int .i64 s.f0, .int .i64 s.f1]
def cfS (x y : S114) : Int := Lib.compareInt x.f0 y.f0
theorem ltS (x y : S114) : ltOf cfS x y = decide (x.f0 < y.f0) := by
  unfold ltOf cfS Lib.compareInt
  by_cases h1 : x.f0 < y.f0
  · simp [h1]
  · by_cases h2 : y.f0 < x.f0 <;> simp [h1, h2]
theorem swoS : SWO (ltOf cfS) where
  irrefl x := by rw [ltS]; simp
  trans x y z h1 h2 := by rw [ltS] at *; simp at *; omega
  ntrans x y z h1 h2 := by rw [ltS] at *; simp at *; omega
theorem closure165 (x y : S114) (W : World) : Calls Try.prog 165 #[.agg #[.int .i64 x.f0, .int .i64 x.f1], .agg #[.int .i64 y.f0, .int .i64 y.f1]] W fun e w' => e = .returned (.int .i64 (cfS x y)) ∧ ∃ q os', w' = grow (W.drewN q) os' := by
  have hcon := fun W' => Any.cmp_Compare_int Try.laysCmp x.f0 y.f0 W'
  change ∀ W', Calls Try.prog 166 _ _ _ at hcon
  unfold cfS
  generalize Lib.compareInt x.f0 y.f0 = r at hcon ⊢
  go_enter Try.func165, Try.ntmps165
  go_wp2_with (go_at_call 166; refine (hcon _).mono ?_; rintro e w' ⟨rfl, rfl⟩)
  go_ret
  exact ⟨rfl, 0, _, by rw [alloc_eq_grow, alloc_eq_grow, grow_grow]; rfl⟩
theorem cmpLaysS (blk off size : Nat) (w : World) : CmpLays Try.prog 165 #[] encS 2 cfS blk off size w := fun _ _ _ _ x y => closure165 x y _
/-- What the library's sort makes of spans. -/
def sortS (l : List S114) : List S114 := (pdq (ltOf cfS) l.toArray 0 l.toArray.size (Lib.bitLen l.toArray.size) true true).toList
theorem sortS_spec (l : List S114) : (sortS l).Perm l ∧ (sortS l).Pairwise fun a b => a.f0 ≤ b.f0 := by
  obtain ⟨hp, hs⟩ := pdq_sorts (ltOf cfS) swoS l.toArray 0 l.toArray.size (Lib.bitLen l.toArray.size) true true (Nat.zero_le _) (Nat.le_refl _) (Or.inl rfl)
  unfold sortS
  generalize pdq (ltOf cfS) l.toArray 0 l.toArray.size (Lib.bitLen l.toArray.size) true true = d at hp hs
  have hsz : d.size = l.toArray.size := hp.1
  constructor
  · have h3 := hp.2.2
    have e1 : d.extract 0 l.toArray.size = d := by rw [← hsz]; exact Array.extract_size
    rw [e1, Array.extract_size] at h3
    exact h3
  · rw [List.pairwise_iff_getElem]
    intro i j hi hj hij
    have hi' : i < d.size := by simpa using hi
    have hj' : j < d.size := by simpa using hj
    have := hs i j (Nat.zero_le _) hij (by omega)
    rw [getElem!_pos d j hj', getElem!_pos d i hi', ltS] at this
    simp at this
    simpa using this
theorem sortS_length (l : List S114) : (sortS l).length = l.length := (sortS_spec l).1.length_eq
theorem grownBy_sortW {α : Type} [Inhabited α] {enc : α → Value} {w : World} {g n o : Nat} {os : Array Obj} (d : Array α) : w.grownBy (sortWorld enc w g o n d os) (some g) := by
  refine ⟨rfl, rfl, rfl, ?_, ?_⟩
  · simp [sortWorld, grow, Sort.ahead]
  · intro i hi hne
    have h1 : i ≠ g := fun e => hne (by rw [e])
    have h2 : i < (putRow enc (Sort.ahead w n) g o d).heap.size := by simpa [Sort.ahead] using hi
    simp only [sortWorld, grow]
    rw [Array.getElem?_append_left h2]
    simp [putRow, mapBlock, Array.getElem?_modify, Sort.ahead, Ne.symm h1]
theorem heap_sortW {α : Type} [Inhabited α] {enc : α → Value} {w : World} {g n : Nat} {os : Array Obj} {cur : Array Value} {e : TypeId} {fr : Nat × Nat} (d : Array α) (hb : w.heap[g]? = some (.cells cur e fr)) :
    (sortWorld enc w g 0 n d os).heap[g]? = some (.cells (putCells enc 0 d cur) e fr) := by
  have hg : g < w.heap.size := (Array.getElem?_eq_some_iff.1 hb).1
  unfold sortWorld
  rw [heap_grow_old _ _ (by simpa [Sort.ahead] using hg)]
  simp [putRow, mapBlock, Sort.ahead, Array.getElem?_modify, hb, onCells]
/-- A row of spans of the call's own that isn't empty: its block, whole. -/
theorem own_structS {w : World} {base : Nat} {ok : Nat → Prop} {v : Value} {S : List S114} (h : Kd.R k114 114 w base ok v S) (h0 : 0 < S.length) :
    ∃ g cap cur, v = .slice (some ⟨g, 0, none⟩) S.length cap ∧ base ≤ g ∧ ok g ∧ w.heap[g]? = some (.cells cur 114 (0, 0)) ∧ S.length ≤ cap ∧ cap ≤ maxLen ∧ cur.size = cap * 2 ∧
      ∀ j, j < S.length → cur[j * 2]? = some (.int .i64 (S.getD j z114).f0) ∧ cur[j * 2 + 1]? = some (.int .i64 (S.getD j z114).f1) := by
  obtain ⟨hok, inner, ho, hr⟩ := h
  rcases ho.2 with ⟨_, h1⟩ | ⟨g, cap, cur, rfl, hb, hh, h1, h2, h3, h4⟩
  · omega
  · refine ⟨g, cap, cur, rfl, hb, hok g (by simp [Value.ownBlock]), hh, h1, h2, h3, fun j hj => ?_⟩
    have h5 := hr.2 j (S.getD j z114) (by simp [hj, List.getD_eq_getElem?_getD])
    have h6 := k114_openM h5
    rw [show k114.sz = 2 from rfl] at h6 h4
    have h7 : ∀ i, i < 2 → cur[j * 2 + i]? = ((inner.drop (j * 2)).take 2)[i]? := by
      intro i hi
      rw [← h4, List.getElem?_take_of_lt hi, List.getElem?_drop, List.getElem?_take_of_lt (by omega), Array.getElem?_toList]
    constructor
    · have := h7 0 (by omega); rw [Nat.add_zero] at this; rw [this, h6]; rfl
    · have := h7 1 (by omega); rw [this, h6]; rfl
theorem own_mkS {w : World} {base g cap : Nat} {ok : Nat → Prop} {S : List S114} {cur : Array Value} (hb : base ≤ g) (hok : ok g) (hh : w.heap[g]? = some (.cells cur 114 (0, 0))) (h1 : S.length ≤ cap) (h2 : cap ≤ maxLen) (h3 : cur.size = cap * 2)
    (hc : ∀ j, j < S.length → cur[j * 2]? = some (.int .i64 (S.getD j z114).f0) ∧ cur[j * 2 + 1]? = some (.int .i64 (S.getD j z114).f1)) :
    Kd.R k114 114 w base ok (.slice (some ⟨g, 0, none⟩) S.length cap) S := by
  refine ⟨fun q hq => (show g = q by simpa [Value.ownBlock] using hq) ▸ hok, cur.toList.take (S.length * 2), ⟨?_, .inr ⟨g, cap, cur, rfl, hb, hh, h1, h2, h3, rfl⟩⟩, ?_, fun j p hj => ?_⟩
  · have h9 : cur.toList.length = cap * 2 := h3
    rw [List.length_take, h9, show k114.sz = 2 from rfl]
    show min (S.length * 2) (cap * 2) = S.length * 2
    omega
  · have h9 : cur.toList.length = cap * 2 := h3
    rw [List.length_take, h9, show k114.sz = 2 from rfl]
    show min (S.length * 2) (cap * 2) = S.length * 2
    omega
  · obtain ⟨hl, rfl⟩ := List.getElem?_eq_some_iff.1 hj
    obtain ⟨c0, c1⟩ := hc j hl
    rw [show k114.sz = 2 from rfl]
    have e : ((cur.toList.take (S.length * 2)).drop (j * 2)).take 2 = [.int .i64 S[j].f0, .int .i64 S[j].f1] := by
      have hg : S.getD j z114 = S[j] := by simp [hl, List.getD_eq_getElem?_getD]
      rw [hg] at c0 c1
      apply List.ext_getElem?
      intro i
      rcases Nat.lt_or_ge i 2 with hi | hi
      · rw [List.getElem?_take_of_lt hi, List.getElem?_drop, List.getElem?_take_of_lt (by omega), Array.getElem?_toList]
        match i, hi with
        | 0, _ => simpa using c0
        | 1, _ => simpa using c1
      · rw [List.getElem?_take_eq_none (by omega), List.getElem?_eq_none (by simpa using hi)]
    rw [e]
    exact k114_mkM _ _ _ _
theorem isAgg114 : ∀ w, (isAgg 114).run Try.prog w = .ok true w := Try.isAgg114
theorem sizeOf114 : ∀ w, (Go.sizeOf 114).run Try.prog w = .ok 2 w := Try.sizeOf114
end Rg
end Go.Proofs.Ytcoegjdnobiogaa.PG
