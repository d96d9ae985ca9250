/- The contracts of slices_ContainsFunc_int_int_k71: printed by a program of this session's (a turned copy of the kit's printer); Lean checks them. -/
import Derived.Test.YtcoegjdnobiogaaPGx0
import Derived.Test.YtcoegjdnobiogaaPHx2
set_option linter.unusedVariables false
set_option linter.unusedSimpArgs false
namespace Go.Proofs.Ytcoegjdnobiogaa.PG
open Go.RowKit Go.Proofs.YtcoegjdnobiogaaW.PrintWords Go.Proofs.YtcoegjdnobiogaaW.PrintLast Go.Proofs.YtcoegjdnobiogaaW.PrintMore
attribute [local go_sem] max2_int min2_int max_two min_two max_three min_three max_four min_four
attribute [local go_sem high] eqA114
def slices_ContainsFunc_int_int_k71.f (k : Nat) (l0 : List Int) (a1 : Unit) : Option (Bool) := (slices_IndexFunc_int_int_k71.f k l0 a1).bind fun t167 => (some (decide (t167 ≥ 0)))
theorem slices_ContainsFunc_int_int_k71.mono : ∀ a0 a1 k, LeO (slices_ContainsFunc_int_int_k71.f k a0 a1) (slices_ContainsFunc_int_int_k71.f (k + 1) a0 a1) := by
 intro a0 a1 k
 unfold slices_ContainsFunc_int_int_k71.f
 repeat' first
   | (with_reducible exact slices_IndexFunc_int_int_k71.mono _ _ _)
   | (with_reducible exact LeO.refl _)
   | (with_reducible exact LeO.none _)
   | (with_reducible refine LeO.ite ?_ ?_)
   | (with_reducible refine LeO.bind ?_ (fun _ => ?_))
   | exact slices_IndexFunc_int_int_k71.mono _ _ _
   | exact LeO.none _
   | refine LeO.ite ?_ ?_
   | refine LeO.bind ?_ (fun _ => ?_)
set_option maxHeartbeats 8000000 in
set_option maxRecDepth 100000 in
theorem slices_ContainsFunc_int_int_k71.calls (k : Nat) (A0 : Option Addr) (c0 : Nat) (l0 : List Int) (a1 : Unit) (r : Bool) (w : World) (hr0 : Kd.C (Kd.int .i64) w A0 l0.length l0) (hc0 : l0.length ≤ c0) (h : slices_ContainsFunc_int_int_k71.f k l0 a1 = some r) :
  Calls Try.prog 70 #[.slice A0 l0.length c0, .func (.func 71) #[] #[]] w fun e w' => e = .returned (.bool r) ∧ Drawn0 w w' := by
 have HR0 := Aside0.mk hr0
 have HC0 := Aside0.mk hc0
 clear hr0 hc0
 have H : ((slices_IndexFunc_int_int_k71.f k l0 a1).bind fun t167 => (some (decide (t167 ≥ 0)))) = some r := h
 clear h
 replace H := Option.bind_eq_some_iff.mp H
 obtain ⟨t167, A30, H⟩ := H
 replace H : (some (decide (t167 ≥ 0))) = some r := H
 have A3 := Aside0.mk A30
 clear A30
 obtain rfl := Option.some.inj H
 go_enter Try.func70, Try.ntmps70
 go_wp2_with (first | ((with_reducible refine gate_callee (f := 126) rfl ?_); refine goesL_ (some 7) rfl rfl Try.func126 (by kernel_rfl) rfl #[.slice A0 l0.length c0, .func (.func 71) #[] #[]] rfl (by (try simp only [List.map_toArray, List.map_cons, List.map_nil]); first | done | rfl) ?_; (with_reducible refine (slices_IndexFunc_int_int_k71.calls k _ _ l0 a1 t167 _ ?side1 ?side2 A3.out).mono ?_); (case side1 => repeat (first | exact HR0.out | (with_reducible refine Kd.C_alloc ?_ _) | (with_reducible refine Kd.C_drewN ?_ _) | (with_reducible refine Kd.C_drew ?_))); (case side2 => exact HC0.out); rintro e w' ⟨rfl, ⟨nd, rfl⟩⟩; refine ⟨_, rfl, ?_⟩))
 go_ret
 exact ⟨by first | rfl | (simp; done) | (simp [*]; done), by repeat (first | exact Drawn0.refl _ | apply Drawn0.step)⟩
end Go.Proofs.Ytcoegjdnobiogaa.PG
