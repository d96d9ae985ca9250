/- The chapter's examples: known answers true. And the contracts that the laws call. -/
import Derived.Test.YtcoegjdnobiogaaRkQ
import Derived.Test.YtcoegjdnobiogaaPRx5
set_option linter.unusedVariables false
set_option linter.unusedSimpArgs false
namespace Go.Proofs.Ytcoegjdnobiogaa.Rk
open Go.RowKit Go.Proofs.YtcoegjdnobiogaaW.PrintWords Go.Proofs.YtcoegjdnobiogaaW.PrintLast Go.Proofs.YtcoegjdnobiogaaW.PrintMore PR

set_option maxRecDepth 100000 in
theorem known_pl : halidelaw12_known.f 60 = some true := by kernel_rfl
theorem known_any (w : World) : Calls Try.prog 60 #[] w fun e w' => e = .returned (.bool true) ∧ Below w.heap.size w w' := halidelaw12_known.calls 60 true w known_pl

/-- What rank.Plane answers. -/
theorem plane_any (W H : Int) (A : Option Addr) (c : Nat) (l : List Int) (b ww hh k : Int) (w : World) (hr0 : Kd.C (Kd.int .u32) w A l.length l) (hc0 : l.length ≤ c) (hr : ∀ x ∈ l, 0 ≤ x ∧ x < 4294967296)
    (h : chk W H l b ww hh k = 0) :
    Calls Try.prog 62 #[.agg #[.int .i64 W, .int .i64 H, .slice A l.length c], .int .i64 b, .int .i64 ww, .int .i64 hh, .int .i64 k] w fun e w' =>
      ∃ v : Value, e = .returned (.tuple #[.agg #[.int .i64 W, .int .i64 H, v], .int .i64 0]) ∧ Kd.R (Kd.int .u32) 85 w' w.heap.size (fun _ => True) v (outL W H l b ww hh k) ∧ Below w.heap.size w w' := by
  have := plane_pl W H l b ww hh k hr
  rw [if_pos h] at this
  exact rank_Plane.calls _ W H A c l b ww hh k W H _ 0 w hr0 hc0 this
theorem plane_err (W H : Int) (A : Option Addr) (c : Nat) (l : List Int) (b ww hh k : Int) (w : World) (hr0 : Kd.C (Kd.int .u32) w A l.length l) (hc0 : l.length ≤ c) (hr : ∀ x ∈ l, 0 ≤ x ∧ x < 4294967296)
    (h : ¬ chk W H l b ww hh k = 0) :
    Calls Try.prog 62 #[.agg #[.int .i64 W, .int .i64 H, .slice A l.length c], .int .i64 b, .int .i64 ww, .int .i64 hh, .int .i64 k] w fun e w' =>
      ∃ v : Value, e = .returned (.tuple #[.agg #[.int .i64 0, .int .i64 0, v], .int .i64 (chk W H l b ww hh k)]) ∧ Kd.R (Kd.int .u32) 85 w' w.heap.size (fun _ => True) v [] ∧ Below w.heap.size w w' := by
  have := plane_pl W H l b ww hh k hr
  rw [if_neg h] at this
  exact rank_Plane.calls _ W H A c l b ww hh k 0 0 [] _ w hr0 hc0 this
end Go.Proofs.Ytcoegjdnobiogaa.Rk
