/- A list of rectangles that came in, opened; and what a row wants beside. -/
import Derived.Test.YtcoegjdnobiogaaPGx0
import Derived.WalkKit
import Derived.ProofKit
import Derived.OpenShut
import Derived.ChangeOld
import Derived.Below
import Derived.SizedLaws
import Derived.ChangeArms
import Derived.ChangeSlices
import Derived.Deep.Slices
namespace Go.Proofs.Ytcoegjdnobiogaa.RgO
open Go.ChangeShapes Go.WideShapes Go.ChangeAt Go.RowKit Go.Deep PG
open Go.Proofs.YtcoegjdnobiogaaW.PrintWords
set_option linter.unusedVariables false
theorem own : ownKnob Try.prog.godebug = none := by kernel_rfl
theorem laidOut : laidOutB Try.prog = true := by kernel_rfl
/-- A list of rectangles, as it came in. -/
def IsRects (W : World) (a : Option Addr) (len cap : Nat) : Prop :=
  (a = none ∧ len = 0 ∧ cap = 0) ∨
  ∃ x, a = some x ∧ len ≤ cap ∧ cap ≤ maxLen ∧ ∀ i, i < len → ∃ q : S58, W.cell? (x.add (i * 4)) = some (.int .i64 q.f0) ∧ W.cell? (x.add (i * 4 + 1)) = some (.int .i64 q.f1) ∧ W.cell? (x.add (i * 4 + 2)) = some (.int .i64 q.f2) ∧ W.cell? (x.add (i * 4 + 3)) = some (.int .i64 q.f3)
theorem rects_reads {W : World} {a : Option Addr} {len cap : Nat} (h : IsRects W a len cap) : ∃ l : List S58, l.length = len ∧ l.length ≤ cap ∧ Kd.C k58 W a l.length l := by
  rcases h with ⟨rfl, rfl, rfl⟩ | ⟨x, rfl, hl, hm, hc⟩
  · exact ⟨[], rfl, Nat.le_refl _, rfl, by simp, fun h => by simp at h⟩
  · obtain ⟨f, hf⟩ : ∃ f : Nat → S58, ∀ i, i < len → W.cell? (x.add (i * 4)) = some (.int .i64 (f i).f0) ∧ W.cell? (x.add (i * 4 + 1)) = some (.int .i64 (f i).f1) ∧ W.cell? (x.add (i * 4 + 2)) = some (.int .i64 (f i).f2) ∧ W.cell? (x.add (i * 4 + 3)) = some (.int .i64 (f i).f3) :=
      @choose_lt S58 ⟨z58⟩ len _ hc
    refine ⟨(List.range len).map f, by simp, by simpa using hl, ?_, ?_, ?_⟩
    · rfl
    · rw [List.length_map, List.length_range]
      exact Nat.le_trans hl hm
    · intro hp
      refine ⟨x, rfl, fun j p hj => ?_⟩
      obtain ⟨hjl, hjp⟩ := List.getElem?_eq_some_iff.1 hj
      have hjl' : j < len := by simpa using hjl
      have e : f j = p := by simpa using hjp
      obtain ⟨c0, c1, c2, c3⟩ := hf j hjl'
      rw [e] at c0 c1 c2 c3
      refine ⟨[.int .i64 p.f0, .int .i64 p.f1, .int .i64 p.f2, .int .i64 p.f3], rfl, k58_mk W p, fun i u hu => ?_⟩
      rw [show k58.sz = 4 from rfl]
      match i, hu with
      | 0, hu => injection hu with hu; subst hu; exact c0
      | 1, hu => injection hu with hu; subst hu; exact c1
      | 2, hu => injection hu with hu; subst hu; exact c2
      | 3, hu => injection hu with hu; subst hu; exact c3
set_option maxRecDepth 100000 in
theorem open_rects {H : Type} {enc : TypeId × Value → H} {W : World} {r : Reach} {b0 : Nat} {v : Value} {d : DataW H} {p : List MemPlace} (hv : Value.okWide Try.prog W r b0 22 v) (h : DataW.Trod enc Try.prog W 0 (fun _ => true) true 22 v d p) :
    ∃ (A : Option Addr) (len cap : Nat), v = .slice A len cap ∧ IsRects W A len cap := by
  obtain ⟨a0, len0, cap0, rfl⟩ := okWide_slice Try.underlying22 hv
  obtain ⟨fuel, hf⟩ := h
  refine ⟨a0, len0, cap0, rfl, ?_⟩
  rcases open_slice Try.underlying22 hf with ⟨hcs, _⟩ | ⟨a, len, cap, m, n, D, Pl, hcs, _, hl, hm, hmm, _, hi⟩
  · simp [Value.cells] at hcs
    obtain ⟨rfl, rfl, rfl⟩ := hcs
    exact .inl ⟨rfl, rfl, rfl⟩
  · simp [Value.cells] at hcs
    obtain ⟨rfl, rfl, rfl⟩ := hcs
    refine .inr ⟨a, rfl, hl, hm, fun i hil => ?_⟩
    have hmc : m = cap0 := by simpa using hmm
    obtain ⟨cs', hc, ht⟩ := hi i (by omega)
    have hC : Try.prog.cellsOf 58 = 4 := by kernel_rfl
    rw [hC] at hc
    obtain ⟨ys, n', hn', hy, hlen, hyl, hg⟩ := DataW.trod_struct Try.underlying58 ht
    rw [hC] at hlen
    obtain ⟨_, hcl, hat⟩ := World.cells?_some hc
    match cs', hlen with
    | [u0, u1, u2, u3], _ =>
      have hC3 : Try.prog.cellsOf 3 = 1 := by kernel_rfl
      have g0 : DataW.trod enc Try.prog W 0 (fun _ => true) true n' 3 (([u0, u1, u2, u3].drop 0).take (Try.prog.cellsOf 3)) = ys[0]? := hg 0 _ rfl
      have g1 : DataW.trod enc Try.prog W 0 (fun _ => true) true n' 3 (([u0, u1, u2, u3].drop 1).take (Try.prog.cellsOf 3)) = ys[1]? := hg 1 _ rfl
      have g2 : DataW.trod enc Try.prog W 0 (fun _ => true) true n' 3 (([u0, u1, u2, u3].drop 2).take (Try.prog.cellsOf 3)) = ys[2]? := hg 2 _ rfl
      have g3 : DataW.trod enc Try.prog W 0 (fun _ => true) true n' 3 (([u0, u1, u2, u3].drop 3).take (Try.prog.cellsOf 3)) = ys[3]? := hg 3 _ rfl
      rw [hC3] at g0 g1 g2 g3
      have y0 : ys[0]? = some (ys[0]'(by rw [hyl]; decide)) := List.getElem?_eq_getElem _
      have y1 : ys[1]? = some (ys[1]'(by rw [hyl]; decide)) := List.getElem?_eq_getElem _
      have y2 : ys[2]? = some (ys[2]'(by rw [hyl]; decide)) := List.getElem?_eq_getElem _
      have y3 : ys[3]? = some (ys[3]'(by rw [hyl]; decide)) := List.getElem?_eq_getElem _
      obtain ⟨x0, e0, _, _⟩ := DataW.trod_int Try.underlying3 (g0.trans y0)
      obtain ⟨x1, e1, _, _⟩ := DataW.trod_int Try.underlying3 (g1.trans y1)
      obtain ⟨x2, e2, _, _⟩ := DataW.trod_int Try.underlying3 (g2.trans y2)
      obtain ⟨x3, e3, _, _⟩ := DataW.trod_int Try.underlying3 (g3.trans y3)
      obtain rfl : u0 = .int .i64 x0 := by simpa using e0
      obtain rfl : u1 = .int .i64 x1 := by simpa using e1
      obtain rfl : u2 = .int .i64 x2 := by simpa using e2
      obtain rfl : u3 = .int .i64 x3 := by simpa using e3
      have c0 := hat (i := 0) (by omega)
      have c1 := hat (i := 1) (by omega)
      have c2 := hat (i := 2) (by omega)
      have c3 := hat (i := 3) (by omega)
      refine ⟨⟨x0, x1, x2, x3⟩, ?_, ?_, ?_, ?_⟩
      · simpa [Go.Deep.add_add] using c0
      · simpa [Go.Deep.add_add] using c1
      · simpa [Go.Deep.add_add] using c2
      · simpa [Go.Deep.add_add] using c3
end Go.Proofs.Ytcoegjdnobiogaa.RgO
