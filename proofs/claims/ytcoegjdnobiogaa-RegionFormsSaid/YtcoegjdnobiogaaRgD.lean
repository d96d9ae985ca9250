/- region.distinct: a list's numbers, rising, each once: its contract. -/
import Derived.Test.YtcoegjdnobiogaaRgS
import Derived.Test.YtcoegjdnobiogaaRgA
import Derived.Sort.OwnSortedInts
import Derived.Test.YtcoegjdnobiogaaRle
set_option linter.unusedVariables false
set_option linter.unusedSimpArgs false
namespace Go.Proofs.Ytcoegjdnobiogaa.PG
open Go.RowKit Go.Proofs.YtcoegjdnobiogaaW.PrintWords Go.Proofs.YtcoegjdnobiogaaW.PrintLast Go.Proofs.YtcoegjdnobiogaaW.PrintMore

namespace Rg
open Rle
/-- Two lists that rise strictly and have the same numbers are one. -/
theorem strict_unique : ∀ (a b : List Int), a.Pairwise (· < ·) → b.Pairwise (· < ·) → (∀ z, z ∈ a ↔ z ∈ b) → a = b := by
  intro a
  induction a with
  | nil =>
    intro b _ _ h
    cases b with
    | nil => rfl
    | cons y b => exact absurd ((h y).2 (by simp)) (by simp)
  | cons x a ih =>
    intro b ha hb h
    have ha' := List.pairwise_cons.1 ha
    cases b with
    | nil => exact absurd ((h x).1 (by simp)) (by simp)
    | cons y b =>
      have hb' := List.pairwise_cons.1 hb
      have hxy : x = y := by
        rcases List.mem_cons.1 ((h x).1 (by simp)) with e | hx
        · exact e
        · rcases List.mem_cons.1 ((h y).2 (by simp)) with e | hy
          · exact e.symm
          · have := ha'.1 y hy
            have := hb'.1 x hx
            omega
      subst hxy
      rw [ih b ha'.2 hb'.2 (fun z => ?_)]
      constructor
      · intro hz
        rcases List.mem_cons.1 ((h z).1 (List.mem_cons_of_mem _ hz)) with e | hz'
        · have := ha'.1 z hz; omega
        · exact hz'
      · intro hz
        rcases List.mem_cons.1 ((h z).2 (List.mem_cons_of_mem _ hz)) with e | hz'
        · have := hb'.1 z hz; omega
        · exact hz'
open Go.Lib in
theorem compact_distinct (l : List Int) : Lib.compact (l.mergeSort fun x y => decide (x ≤ y)) = distinctL l := by
  have hsort : (l.mergeSort fun x y => decide (x ≤ y)).Pairwise (· ≤ ·) := by
    have := List.pairwise_mergeSort (le := fun x y : Int => decide (x ≤ y)) (by intro a b c; simp; omega) (by intro a b; simp; omega) l
    exact this.imp (by simp)
  have hmem : ∀ z, z ∈ (l.mergeSort fun x y => decide (x ≤ y)) ↔ z ∈ l := fun z => (List.mergeSort_perm l _).mem_iff
  generalize (l.mergeSort fun x y => decide (x ≤ y)) = d at hsort hmem
  have hget : ∀ i j, (hij : i ≤ j) → (hj : j < d.length) → d[i]'(by omega) ≤ d[j] := by
    intro i j hij hj
    rcases Nat.eq_or_lt_of_le hij with rfl | h
    · exact Int.le_refl _
    · exact List.pairwise_iff_getElem.1 hsort i j (by omega) hj h
  have hbang : ∀ j, j < d.length → (d.toArray[j]! : Int) = d[j]! := fun j hj => by simp
  apply strict_unique _ _ ?_ (distinctL_lt l) ?_
  · unfold Lib.compact compactUpTo
    rw [List.pairwise_map]
    refine List.Pairwise.imp_of_mem (R := fun i j => i < j) ?_ ((List.pairwise_lt_range).filter _)
    intro i j hi hj hij
    simp only [List.mem_filter, List.mem_range] at hi hj
    have h1 := hj.2
    unfold keeps at h1
    rw [decide_eq_true_eq] at h1
    replace h1 : d.toArray[j]! ≠ d.toArray[j - 1]! := h1.resolve_left (by omega)
    have h2 := hget i (j - 1) (by omega) (by omega)
    have h3 := hget (j - 1) j (by omega) hj.1
    have e1 : (d.toArray[i]! : Int) = d[i]'hi.1 := by simp [hi.1]
    have e2 : (d.toArray[j]! : Int) = d[j]'hj.1 := by simp [hj.1]
    have e3 : (d.toArray[j - 1]! : Int) = d[j - 1]'(by omega) := by simp [show j - 1 < d.length by omega]
    rw [e1, e2]
    rw [e2, e3] at h1
    omega
  · intro z
    rw [mem_distinctL, ← hmem]
    unfold Lib.compact compactUpTo
    simp only [List.mem_map, List.mem_filter, List.mem_range]
    constructor
    · rintro ⟨j, ⟨hj, _⟩, rfl⟩
      simp [hj]
    · intro hz
      obtain ⟨j, hj, rfl⟩ := List.getElem_of_mem hz
      have key : ∀ n, ∀ j, (hj : j < d.length) → j = n → ∃ a, (a < d.length ∧ keeps d.toArray a = true) ∧ d.toArray[a]! = d[j] := by
        intro n
        induction n with
        | zero => intro j hj h0; exact ⟨j, ⟨hj, by subst h0; simp [keeps]⟩, by simp [hj]⟩
        | succ n ih =>
          intro j hj hn
          by_cases hk : keeps d.toArray j = true
          · exact ⟨j, ⟨hj, hk⟩, by simp [hj]⟩
          · have h1 : d[j] = d[j - 1]'(by omega) := by
              unfold keeps at hk
              simp [hj, show j - 1 < d.length by omega, show j ≠ 0 by omega] at hk
              exact hk
            obtain ⟨a, ha, hb⟩ := ih (j - 1) (by omega) (by omega)
            exact ⟨a, ha, by rw [hb, h1]⟩
      obtain ⟨a, ha, hb⟩ := key j j hj rfl
      exact ⟨a, ha, hb⟩
/-- A row of the call's own that isn't empty: its block, whole. -/
theorem own_struct {w : World} {base : Nat} {e : TypeId} {k : IntKind} {ok : Nat → Prop} {v : Value} {S : List Int} (h : Kd.R (Kd.int k) e w base ok v S) (h0 : 0 < S.length) :
    ∃ g cap cur, v = .slice (some ⟨g, 0, none⟩) S.length cap ∧ base ≤ g ∧ ok g ∧ w.heap[g]? = some (.cells cur e (0, 0)) ∧ S.length ≤ cap ∧ cap ≤ maxLen ∧ cur.size = cap ∧ ∀ j, j < S.length → cur[j]? = some (.int k (S.getD j 0)) := by
  have ho := Kd.own_of_R h
  rcases ho.2 with ⟨_, h1⟩ | ⟨g, cap, cur, rfl, hb, hh, h1, h2, h3, h4⟩
  · omega
  · refine ⟨g, cap, cur, rfl, hb, h.1 g (by simp [Value.ownBlock]), hh, h1, h2, by simpa using h3, fun j hj => ?_⟩
    have h5 : (cur.toList.take (S.length * 1))[j]? = (encs (Value.int k) S)[j]? := by rw [h4]
    rw [List.getElem?_take_of_lt (by omega)] at h5
    rw [← Array.getElem?_toList, h5]
    simp [encs, hj, List.getD_eq_getElem?_getD]
open Go.Sort in
theorem holds_ints (g : Nat) (S : List Int) (e : TypeId) (w : World) (cur : Array Value) (hh : w.heap[g]? = some (.cells cur e (0, 0))) (hc : ∀ j, j < S.length → cur[j]? = some (.int .i64 (S.getD j 0))) : Holds (Value.int .i64) w g 0 S.toArray := by
  intro j hj
  have hj' : j < S.length := by simpa using hj
  constructor
  · rw [Nat.zero_add]
    unfold World.cell?
    rw [hh]
    show cur[j]? = _
    rw [hc j hj']
    simp [hj', List.getD_eq_getElem?_getD]
  · unfold World.frozen?
    rw [hh]
    simp
theorem own_mk {w : World} {base g cap : Nat} {e : TypeId} {k : IntKind} {ok : Nat → Prop} {S : List Int} {cur : Array Value} (hb : base ≤ g) (hok : ok g) (hh : w.heap[g]? = some (.cells cur e (0, 0))) (h1 : S.length ≤ cap) (h2 : cap ≤ maxLen) (h3 : cur.size = cap) (hc : ∀ j, j < S.length → cur[j]? = some (.int k (S.getD j 0))) :
    Kd.R (Kd.int k) e w base ok (.slice (some ⟨g, 0, none⟩) S.length cap) S := by
  refine Kd.R_of_own ⟨by simp [encs], .inr ⟨g, cap, cur, rfl, hb, hh, h1, h2, by simpa using h3, ?_⟩⟩ (fun q hq => (show g = q by simpa [Value.ownBlock] using hq) ▸ hok)
  apply List.ext_getElem?
  intro j
  rcases Nat.lt_or_ge j S.length with hj | hj
  · rw [List.getElem?_take_of_lt (by omega), Array.getElem?_toList, hc j hj]
    simp [encs, hj, List.getD_eq_getElem?_getD]
  · rw [List.getElem?_take_eq_none (by omega), List.getElem?_eq_none (by simp [encs]; omega)]
open Go.Sort in
theorem put_cells (g n : Nat) (e : TypeId) (d : Array Int) (cur : Array Value) (w : World) (os : Array Obj) (hh : w.heap[g]? = some (.cells cur e (0, 0))) (hd : d.size ≤ cur.size) :
    ∃ cur1, (grow (putRow (Value.int .i64) (Sort.ahead w n) g 0 d) os).heap[g]? = some (.cells cur1 e (0, 0)) ∧ cur1.size = cur.size ∧ ∀ j, j < d.size → cur1[j]? = some (.int .i64 d[j]!) := by
  refine ⟨_, heap_sortedI d hh, by simp [putCells], fun j hj => ?_⟩
  simp [putCells, hj, show j < cur.size by omega]
end Rg
def E_distinct.f (l0 : List Int) : Option (List Int) := if l0.length < 4611686018427387904 then some (Rle.distinctL l0) else none
open Go.Sort in
set_option maxHeartbeats 1000000 in
theorem E_distinct.calls (P0_ : Nat → Prop) (u9000_ : Value) (l0 : List Int) (r : List Int) (w0 w : World) (hB : Below w0.heap.size w0 w) (ho0 : Kd.R (Kd.int .i64) 3 w w0.heap.size P0_ u9000_ l0) (h : E_distinct.f l0 = some r) :
    Calls Try.prog 125 #[u9000_] w fun e w' => ∃ v0_ : Value, e = .returned (v0_) ∧ Kd.R (Kd.int .i64) 3 w' w0.heap.size (fun k_ => (P0_ k_ ∨ w.heap.size ≤ k_)) v0_ r ∧ Below w0.heap.size w0 w' ∧ Kept w w' (fun k_ => P0_ k_) := by
  unfold E_distinct.f at h
  by_cases hbig : l0.length < 4611686018427387904
  case neg => rw [if_neg hbig] at h; cases h
  rw [if_pos hbig] at h
  injection h with h
  subst h
  rcases Nat.eq_zero_or_pos l0.length with h0 | h0
  · have hl : l0 = [] := List.eq_nil_of_length_eq_zero h0
    subst hl
    obtain ⟨A, c, rfl⟩ := Kd.R_slice ho0
    have h1 := fun W => Any.slices_Sort_int_none Try.laysSort A c W
    have h2 := fun W => Any.slices_Compact_int_empty Try.laysCompact A c W
    have hR := Aside0.mk ho0
    clear ho0 h0
    go_enter Try.func125, Try.ntmps125
    go_wp2_with (first
      | (go_at_call 160; refine (h1 _).mono ?_; rintro e w' ⟨rfl, rfl⟩)
      | (go_at_call 161; refine (h2 _).mono ?_; rintro e w' ⟨rfl, rfl⟩))
    go_ret
    exact ⟨_, rfl, Kd.R_mono hR.out (fun _ hk => .inl hk), hB, Kept.refl _ _⟩
  · obtain ⟨g, cap, cur, rfl, hbg, hPg, hh, hc1, hc2, hc3, hcv⟩ := Rg.own_struct ho0 h0
    have hlt : g < w.heap.size := (Array.getElem?_eq_some_iff.1 hh).1
    have hmax : cap ≤ 9223372036854775807 := by simpa [maxLen] using hc2
    obtain ⟨zs, hzs⟩ : ∃ zs, zs = l0.mergeSort fun x y => decide (x ≤ y) := ⟨_, rfl⟩
    have hzl : zs.length = l0.length := by rw [hzs]; simp
    have hdl : (Rle.distinctL l0).length ≤ l0.length := by
      rw [← Rg.compact_distinct, ← hzs, ← hzl]
      unfold Lib.compact Lib.compactUpTo
      simpa using List.length_filter_le (Lib.keeps zs.toArray) (List.range zs.length)
    have hS : Calls Try.prog 160 #[.slice (some ⟨g, 0, none⟩) l0.length cap] w fun e w' => e = .returned (.tuple #[]) ∧ (∃ cur1, w'.heap[g]? = some (.cells cur1 3 (0, 0)) ∧ cur1.size = cap ∧ ∀ j, j < zs.length → cur1[j]? = some (.int .i64 (zs.getD j 0))) ∧ w.grownBy w' (some g) := by
      refine (Any.slices_Sort_int Try.laysSort g 0 cap l0 w (Rg.holds_ints g l0 3 w cur hh hcv) hlt hbig).mono ?_
      rintro e w' ⟨rfl, n, os, rfl⟩
      rw [← hzs]
      refine ⟨rfl, ?_, grownBy_sortedI _⟩
      obtain ⟨cur1, h1, h2, h3⟩ := Rg.put_cells g n 3 zs.toArray cur w os hh (by simp; omega)
      refine ⟨cur1, h1, by omega, fun j hj => ?_⟩
      rw [h3 j (by simpa using hj)]
      simp [hj, List.getD_eq_getElem?_getD]
    have hC : ∀ W cur1, W.heap[g]? = some (.cells cur1 3 (0, 0)) → cur1.size = cap → (∀ j, j < zs.length → cur1[j]? = some (.int .i64 (zs.getD j 0))) →
        Calls Try.prog 161 #[.slice (some ⟨g, 0, none⟩) l0.length cap] W fun e w' => e = .returned (.slice (some ⟨g, 0, none⟩) (Rle.distinctL l0).length cap) ∧ (∃ cur2, w'.heap[g]? = some (.cells cur2 3 (0, 0)) ∧ cur2.size = cap ∧ ∀ j, j < (Rle.distinctL l0).length → cur2[j]? = some (.int .i64 ((Rle.distinctL l0).getD j 0))) ∧ W.grownBy w' (some g) := by
      intro W cur1 h1 h2 h3
      have hcon := Any.slices_Compact_int Try.laysCompact g 0 cap zs W (Rg.holds_ints g zs 3 W cur1 h1 h3) (by omega) (by omega)
      rw [hzl, hzs, Rg.compact_distinct] at hcon
      refine hcon.mono ?_
      rintro e w' ⟨rfl, q, rfl⟩
      have hg := grownBy_sortedI (w := W) (g := g) (n := q) (os := #[]) (Rle.distinctL l0 ++ List.replicate (l0.length - (Rle.distinctL l0).length) 0).toArray
      rw [grow_empty] at hg
      refine ⟨rfl, ?_, hg⟩
      obtain ⟨cur2, k1, k2, k3⟩ := Rg.put_cells g q 3 (Rle.distinctL l0 ++ List.replicate (l0.length - (Rle.distinctL l0).length) 0).toArray cur1 W #[] h1 (by simp; omega)
      rw [grow_empty] at k1
      refine ⟨cur2, k1, by omega, fun j hj => ?_⟩
      rw [k3 j (by simp; omega)]
      simp [hj, List.getElem?_append_left, List.getD_eq_getElem?_getD]
    clear ho0 hcv
    go_enter Try.func125, Try.ntmps125
    go_wp2_with (first
      | (go_at_call 160; refine hS.mono ?_; rintro e w1 ⟨rfl, hw1, hg1⟩; obtain ⟨cur1, k1, k2, k3⟩ := hw1; have HC := Aside0.mk (hC w1 cur1 k1 k2 k3); clear k1 k2 k3)
      | (go_at_call 161; refine HC.out.mono ?_; rintro e w2 ⟨rfl, hw2, hg2⟩))
    go_ret
    obtain ⟨cur2, k1, k2, k3⟩ := hw2
    have hb1 : Below w0.heap.size w0 w1 := hB.grown hg1 hB.size (fun q hq => by cases hq; exact hbg)
    refine ⟨_, rfl, Rg.own_mk hbg (.inl hPg) k1 (by omega) hc2 k2 k3, hb1.grown hg2 hb1.size (fun q hq => by cases hq; exact hbg), ?_⟩
    refine ⟨Nat.le_trans hg1.size hg2.size, fun i hi hn => ?_⟩
    have hne : some i ≠ some g := fun e => hn (by injection e with e; rw [e]; exact hPg)
    rw [hg2.block i (Nat.lt_of_lt_of_le hi hg1.size) hne, hg1.block i hi hne]
end Go.Proofs.Ytcoegjdnobiogaa.PG
