/- The contracts that region's printed texts call, in the printer's form. -/
import Derived.Test.YtcoegjdnobiogaaRgD
import Derived.Test.YtcoegjdnobiogaaRgC
import Derived.Test.YtcoegjdnobiogaaRgT
set_option linter.unusedVariables false
set_option linter.unusedSimpArgs false
namespace Go.Proofs.Ytcoegjdnobiogaa.PG
open Go.RowKit Go.Proofs.YtcoegjdnobiogaaW.PrintWords Go.Proofs.YtcoegjdnobiogaaW.PrintLast Go.Proofs.YtcoegjdnobiogaaW.PrintMore

def E_in.f (l0 : List S114) (x : Int) : Option Bool := if l0.length ≤ 9223372036854775807 then some (l0.any fun s => decide (s.f0 ≤ x ∧ x < s.f1)) else none
theorem E_in.calls (A0 : Option Addr) (c0 : Nat) (l0 : List S114) (a1 : Int) (r : Bool) (w : World) (hr0 : Kd.C k114 w A0 l0.length l0) (hc0 : l0.length ≤ c0) (h : E_in.f l0 a1 = some r) :
    Calls Try.prog 163 #[.slice A0 l0.length c0, .int .i64 a1] w fun e w' => e = .returned (.bool r) ∧ Below w.heap.size w w' := by
  unfold E_in.f at h
  by_cases hh : l0.length ≤ 9223372036854775807
  · rw [if_pos hh] at h
    injection h with h
    subst h
    exact Rg.inAny A0 c0 l0 a1 w hr0 hh
  · rw [if_neg hh] at h
    cases h
namespace Rg
open Go.Sort Go.Lib
theorem holdsS (g : Nat) (S : List S114) (e : TypeId) (w : World) (cur : Array Value) (hh : w.heap[g]? = some (.cells cur e (0, 0)))
    (hc : ∀ j, j < S.length → cur[j * 2]? = some (.int .i64 (S.getD j z114).f0) ∧ cur[j * 2 + 1]? = some (.int .i64 (S.getD j z114).f1)) : HoldsK encS 2 w g 0 S.toArray := by
  unfold HoldsK
  intro t ht
  have ht' : t < S.length * 2 := by simpa using ht
  obtain ⟨j, hjt⟩ : ∃ j, t = j * 2 ∨ t = j * 2 + 1 := ⟨t / 2, by omega⟩
  have hj : j < S.length := by omega
  have e1 : S.toArray[j]! = S.getD j z114 := by simp [hj, List.getD_eq_getElem?_getD]
  obtain ⟨c0, c1⟩ := hc j hj
  have hfr : ∀ o, w.frozen? ⟨g, o, none⟩ = false := by
    intro o
    unfold World.frozen?
    rw [hh]
    simp
  refine ⟨?_, hfr _⟩
  rw [Nat.zero_add, get_flatK _ _ _ _ (by simpa using ht')]
  unfold World.cell?
  rw [hh]
  show cur[t]? = _
  rcases hjt with rfl | rfl
  · rw [show j * 2 / 2 = j by omega, show j * 2 % 2 = 0 by omega, e1]
    exact c0
  · rw [show (j * 2 + 1) / 2 = j by omega, show (j * 2 + 1) % 2 = 1 by omega, e1]
    exact c1
theorem put_cellsS (g n : Nat) (e : TypeId) (d : List S114) (cur : Array Value) (w : World) (os : Array Obj) (hh : w.heap[g]? = some (.cells cur e (0, 0))) (hd : d.length * 2 ≤ cur.size) :
    ∃ cur1, (sortWorldK encS 2 w g 0 n d.toArray os).heap[g]? = some (.cells cur1 e (0, 0)) ∧ cur1.size = cur.size ∧ ∀ j, j < d.length → cur1[j * 2]? = some (.int .i64 (d.getD j z114).f0) ∧ cur1[j * 2 + 1]? = some (.int .i64 (d.getD j z114).f1) := by
  have h0 := heap_sortW (enc := id) (n := n) (os := os) (flatK encS 2 d.toArray) hh
  refine ⟨_, h0, by simp [putCells], fun j hj => ?_⟩
  have e1 : d.toArray[j]! = d.getD j z114 := by simp [hj, List.getD_eq_getElem?_getD]
  constructor
  · have := get_flatK encS 2 d.toArray (j * 2) (by simp; omega)
    rw [show j * 2 / 2 = j by omega, show j * 2 % 2 = 0 by omega, e1, getElem!_pos _ _ (by simp; omega)] at this
    simp [putCells, show j * 2 < cur.size by omega, show j * 2 < d.length * 2 by omega]
    rw [this]
    simp [encS]
  · have := get_flatK encS 2 d.toArray (j * 2 + 1) (by simp; omega)
    rw [show (j * 2 + 1) / 2 = j by omega, show (j * 2 + 1) % 2 = 1 by omega, e1, getElem!_pos _ _ (by simp; omega)] at this
    simp [putCells, show j * 2 + 1 < cur.size by omega, show j * 2 + 1 < d.length * 2 by omega]
    rw [this]
    simp [encS]
end Rg
def E_sortSpans.f (l0 : List S114) (_ : Unit) : Option (List S114) := if l0.length < 4611686018427387904 then some (Rg.sortS l0) else none
open Go.Sort Go.Lib in
theorem E_sortSpans.calls (P0_ : Nat → Prop) (u9000_ : Value) (l0 : List S114) (a1 : Unit) (r : List S114) (w0 w : World) (hB : Below w0.heap.size w0 w) (ho0 : Kd.R k114 114 w w0.heap.size P0_ u9000_ l0) (h : E_sortSpans.f l0 a1 = some r) :
    Calls Try.prog 164 #[u9000_, .func (.func 165) #[] #[]] w fun e w' => e = .returned (.tuple #[]) ∧ Kd.R k114 114 w' w0.heap.size P0_ u9000_ r ∧ Below w0.heap.size w0 w' ∧ Kept w w' (fun k_ => P0_ k_) := by
  unfold E_sortSpans.f at h
  by_cases hbig : l0.length < 4611686018427387904
  case neg => rw [if_neg hbig] at h; cases h
  rw [if_pos hbig] at h
  injection h with h
  subst h
  rcases Nat.eq_zero_or_pos l0.length with h0 | h0
  · have hl : l0 = [] := List.eq_nil_of_length_eq_zero h0
    subst hl
    obtain ⟨A, c, rfl⟩ := Kd.R_slice ho0
    refine (AnyF.slices_SortFunc_none Try.sortS A c _ w).mono ?_
    rintro e w' ⟨rfl, rfl⟩
    have e0 : Rg.sortS [] = [] := List.eq_nil_of_length_eq_zero (by rw [Rg.sortS_length]; rfl)
    rw [e0]
    exact ⟨rfl, ho0, hB, Kept.refl _ _⟩
  · obtain ⟨g, cap, cur, rfl, hbg, hPg, hh, hc1, hc2, hc3, hcv⟩ := Rg.own_structS ho0 h0
    have hlt : g < w.heap.size := (Array.getElem?_eq_some_iff.1 hh).1
    have eg : ∀ args w, (callFunc 165 args).run Try.prog w = .ok (.enter 165 args) w := enters_of Try.func165 (by kernel_rfl) rfl
    have hS := AnyQ.slices_SortFunc_eq Try.sortS 2 Rg.isAgg114 Rg.sizeOf114 Rg.encS (fun _ => rfl) (by intro x v hv; simp [Rg.encS] at hv; rcases hv with rfl | rfl <;> rfl) Rg.cfS Rg.swoS 165 #[] g 0 cap l0.toArray w eg (Rg.cmpLaysS g 0 _ w) (Rg.holdsS g l0 114 w cur hh hcv) hlt (by simpa using hbig)
    change Calls Try.prog 164 _ _ _ at hS
    have eS : pdq (ltOf Rg.cfS) l0.toArray 0 l0.toArray.size (Lib.bitLen l0.toArray.size) true true = (Rg.sortS l0).toArray := by simp [Rg.sortS]
    rw [eS, show l0.toArray.size = l0.length by simp] at hS
    refine hS.mono ?_
    rintro e w' ⟨rfl, n, os, rfl⟩
    obtain ⟨cur1, k1, k2, k3⟩ := Rg.put_cellsS g n 114 (Rg.sortS l0) cur w os hh (by rw [Rg.sortS_length]; omega)
    have hg : w.grownBy (sortWorldK Rg.encS 2 w g 0 n (Rg.sortS l0).toArray os) (some g) := Rg.grownBy_sortW (enc := id) (flatK Rg.encS 2 (Rg.sortS l0).toArray)
    have hl := Rg.sortS_length l0
    have hR := Rg.own_mkS (S := Rg.sortS l0) hbg hPg k1 (by omega) hc2 (by omega) k3
    rw [hl] at hR
    refine ⟨rfl, ?_, ?_, ?_⟩
    · exact hR
    · exact hB.grown hg hB.size (fun q hq => by cases hq; exact hbg)
    · refine ⟨hg.size, fun i hi hn => ?_⟩
      have hne : some i ≠ some g := fun e => hn (by injection e with e; rw [e]; exact hPg)
      rw [hg.block i hi hne]
end Go.Proofs.Ytcoegjdnobiogaa.PG
