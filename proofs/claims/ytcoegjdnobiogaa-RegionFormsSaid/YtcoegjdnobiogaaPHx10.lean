/- The contracts of region_unlike, region_sweep_k87, region_none_k87, region_Same: printed by a program of this session's (a turned copy of the kit's printer); Lean checks them. -/
import Derived.Test.YtcoegjdnobiogaaPGx0
import Derived.Test.YtcoegjdnobiogaaPHx1
import Derived.Test.YtcoegjdnobiogaaRgM
import Derived.Test.YtcoegjdnobiogaaRgN
set_option linter.unusedVariables false
set_option linter.unusedSimpArgs false
namespace Go.Proofs.Ytcoegjdnobiogaa.PG
open Go.RowKit Go.Proofs.YtcoegjdnobiogaaW.PrintWords Go.Proofs.YtcoegjdnobiogaaW.PrintLast Go.Proofs.YtcoegjdnobiogaaW.PrintMore
attribute [local go_sem] max2_int min2_int max_two min_two max_three min_three max_four min_four
def region_unlike.f (a0 : Bool) (a1 : Bool) : Option (Bool) := some (a0 != a1)
set_option maxHeartbeats 8000000 in
set_option maxRecDepth 100000 in
theorem region_unlike.calls (a0 : Bool) (a1 : Bool) (r : Bool) (w : World) (h : region_unlike.f a0 a1 = some r) :
  Calls Try.prog 87 #[.bool a0, .bool a1] w fun e w' => e = .returned (.bool r) ∧ Drawn0 w w' := by
 have H : (some (a0 != a1)) = some r := h
 clear h
 obtain rfl := Option.some.inj H
 go_enter Try.func87, Try.ntmps87
 go_wp2
 go_ret
 exact ⟨by first | rfl | (simp; done) | (simp [*]; done), by repeat (first | exact Drawn0.refl _ | apply Drawn0.step)⟩
theorem keep87 : KeepFn 87 (fun a b => (region_unlike.f a b).getD false) := ⟨⟨_, Try.func87, rfl, by kernel_rfl⟩, fun a b w => region_unlike.calls a b _ w (by cases a <;> cases b <;> rfl)⟩
def region_sweep_k87.f (k : Nat) (l0 : List (S58)) (l1 : List (S58)) (a2 : Unit) : Option ((List (S112))) := region_sweepG.f k l0 l1 (fun a b => (region_unlike.f a b).getD false)
theorem region_sweep_k87.calls (k : Nat) (P0_ : Nat → Prop) (A0 : Option Addr) (c0 : Nat) (l0 : List (S58)) (P1_ : Nat → Prop) (A1 : Option Addr) (c1 : Nat) (l1 : List (S58)) (a2 : Unit) (r : List (S112)) (w : World) (hs0 : Kd.V k58 58 w w.heap.size (fun k_ => P0_ k_) (.slice A0 l0.length c0) l0) (hs1 : Kd.V k58 58 w w.heap.size (fun k_ => P1_ k_) (.slice A1 l1.length c1) l1) (h : region_sweep_k87.f k l0 l1 a2 = some r) :
  Calls Try.prog 73 #[.slice A0 l0.length c0, .slice A1 l1.length c1, .func (.func 87) #[] #[]] w fun e w' => ∃ v0_ : Value, e = .returned (v0_) ∧ Kd.N k112 112 w' w.heap.size (fun k_ => ((P0_ k_ ∨ P1_ k_) ∨ w.heap.size ≤ k_)) v0_ r ∧ Below w.heap.size w w' := region_sweepG.calls k P0_ A0 c0 l0 P1_ A1 c1 l1 _ keep87 r w hs0 hs1 h
def region_none_k87.l0 : Nat → List (S58) → List (S58) → Unit → List (List (S58)) → Int → Int → Option (Bool × Int)
 | 0, _, _, _, _, _, _ => none
 | k + 1, x0, x1, x2, x13, x14, x15 => if x15 < x14 then (if 0 ≤ x15 then (if x15 < (x13.length : Int) then ((region_right.f k (rd_L3 x13 x15)).bind fun t946 => (if t946 = 0 then (region_none_k87.l0 k x0 x1 x2 x13 x14 (wrap64 (x15 + 1))) else (some (false, t946)))) else (none)) else (none)) else ((region_sweep_k87.f k x0 x1 x2).bind fun t947 => (some (((t947.length : Int) == 0), 0)))
def region_none_k87.f (k : Nat) (l0 : List (S58)) (l1 : List (S58)) (a2 : Unit) : Option (Bool × Int) := (some (([l0, l1] : List (List (S58))) : List (List (S58)))).bind fun y942 => (region_none_k87.l0 k l0 l1 a2 y942 (y942.length : Int) 0)
set_option maxHeartbeats 8000000 in
set_option maxRecDepth 100000 in
theorem region_none_k87.calls (k : Nat) (P0_ : Nat → Prop) (A0 : Option Addr) (c0 : Nat) (l0 : List (S58)) (P1_ : Nat → Prop) (A1 : Option Addr) (c1 : Nat) (l1 : List (S58)) (a2 : Unit) (r1 : Bool) (r2 : Int) (w : World) (hs0 : Kd.V k58 58 w w.heap.size (fun k_ => P0_ k_) (.slice A0 l0.length c0) l0) (hs1 : Kd.V k58 58 w w.heap.size (fun k_ => P1_ k_) (.slice A1 l1.length c1) l1) (h : region_none_k87.f k l0 l1 a2 = some (r1, r2)) :
  Calls Try.prog 86 #[.slice A0 l0.length c0, .slice A1 l1.length c1, .func (.func 87) #[] #[]] w fun e w' => e = .returned (.tuple #[.bool r1, .int .i64 r2]) ∧ Below w.heap.size w w' := by
 have HO0 := Aside0.mk (show Kd.V k58 58 w w.heap.size (fun k_ => ((P0_ k_ ∨ P1_ k_) ∨ w.heap.size ≤ k_)) (.slice A0 l0.length c0) l0 from Kd.V_mono hs0 (fun k_ hk => .inl (.inl hk)))
 have HO1 := Aside0.mk (show Kd.V k58 58 w w.heap.size (fun k_ => ((P0_ k_ ∨ P1_ k_) ∨ w.heap.size ≤ k_)) (.slice A1 l1.length c1) l1 from Kd.V_mono hs1 (fun k_ hk => .inl (.inr hk)))
 have HB := Aside0.mk (Below.refl w.heap.size w)
 have H : ((some (([l0, l1] : List (List (S58))) : List (List (S58)))).bind fun y942 => (region_none_k87.l0 k l0 l1 a2 y942 (y942.length : Int) 0)) = some (r1, r2) := h
 clear h
 obtain ⟨y942, hy942⟩ : ∃ y_ : List (List (S58)), y_ = (([l0, l1] : List (List (S58)))) := ⟨_, rfl⟩
 replace H : (region_none_k87.l0 k l0 l1 a2 y942 (y942.length : Int) 0) = some (r1, r2) := by first | (rw [hy942]; with_reducible exact H) | (have H2_ := (Option.bind_some _ _).symm.trans H; rw [hy942]; with_reducible exact H2_) | (have H2_ := (Option.bind_some _ _).symm.trans H; with_reducible exact H2_) | with_reducible exact H | (rw [hy942]; exact H) | exact H
 have Ny942 := Aside0.mk hy942
 clear hy942
 have H' := Aside0.mk H
 clear H
 go_enter Try.func86, Try.ntmps86
 go_wp2_with (first | ((with_reducible refine gate_dst (N := 13) rfl ?_); refine Kd.N_lit (Kd.slice 58 k58) _ 22 ?hg (N' := 13) ?hd (xs := ([l0, l1] : List (List (S58)))) (inner := [.slice A0 l0.length c0, .slice A1 l1.length c1]) (ok := (fun k_ => ((P0_ k_ ∨ P1_ k_) ∨ w.heap.size ≤ k_))) (okp := (fun k_ => ((P0_ k_ ∨ P1_ k_) ∨ w.heap.size ≤ k_))) ?hr ?hp (fun _ hk => hk) ((show ∀ k_, w.heap.size ≤ k_ → (fun k_ => ((P0_ k_ ∨ P1_ k_) ∨ w.heap.size ≤ k_)) k_ from fun k_ hk => (.inr (Nat.le_trans (below_size (by repeat (first | (with_reducible first | exact HB.out | apply below_alloc | apply pbd | apply below_drew1) | exact HB.out))) hk))) _ (Nat.le_refl _)) (Below.refl _ _) (Nat.le_refl _) (by simp) ?_; (case hd => rfl); (case hg => rfl); (case hr => first | (go_simp; done) | (go_simp; rfl)); (case hp => exact (Reps.one (show Kd.FK (Kd.slice 58 k58) _ _ l0 [.slice A0 l0.length c0] from (Kd.FK_slice_mk (Kd.V_reads' (Kd.V_mono (ok' := (fun k_ => ((P0_ k_ ∨ P1_ k_) ∨ w.heap.size ≤ k_))) (HO0.out) (fun k_ hk => hk))).2.1 (Kd.V_F (Kd.V_mono (ok' := (fun k_ => ((P0_ k_ ∨ P1_ k_) ∨ w.heap.size ≤ k_))) (HO0.out) (fun k_ hk => hk))))) (Reps.one (show Kd.FK (Kd.slice 58 k58) _ _ l1 [.slice A1 l1.length c1] from (Kd.FK_slice_mk (Kd.V_reads' (Kd.V_mono (ok' := (fun k_ => ((P0_ k_ ∨ P1_ k_) ∨ w.heap.size ≤ k_))) (HO1.out) (fun k_ hk => hk))).2.1 (Kd.V_F (Kd.V_mono (ok' := (fun k_ => ((P0_ k_ ∨ P1_ k_) ∨ w.heap.size ≤ k_))) (HO1.out) (fun k_ hk => hk))))) (Reps.none _ _)))); intro v943 w4 ho5 hb hg_ hnew_; clear hg_ hnew_; (first | rw [← Ny942.out] at ho5 | (simp only [Int.reduceToNat] at ho5; rw [← Ny942.out] at ho5)); have n0_ := Aside0.mk (Kd.V_elder' (by (with_reducible repeat (first | apply Kd.V_alloc | apply Kd.V_drewN | apply Kd.V_drew)); exact HO0.out) (Kd.N_base ho5) hb); have n1_ := Aside0.mk (Kd.V_elder' (by (with_reducible repeat (first | apply Kd.V_alloc | apply Kd.V_drewN | apply Kd.V_drew)); exact HO1.out) (Kd.N_base ho5) hb); have n2_ := Aside0.mk (Kd.N_lower ho5 (below_size (by repeat (first | (with_reducible first | exact HB.out | apply below_alloc | apply pbd | apply below_drew1) | exact HB.out)))); have n3_ := Aside0.mk (below_step (by repeat (first | (with_reducible first | exact HB.out | apply below_alloc | apply pbd | apply below_drew1) | exact HB.out)) hb); clear HO0; clear HO1; clear HB; have HO0 := n0_; have HO1 := n1_; have HO944 := n2_; have HB := n3_; clear n0_ n1_ n2_ n3_; clear hb ho5; obtain ⟨Ao6, co6, eo6⟩ := Kd.N_slice HO944.out; subst eo6))
 go_loopg [15] k (fun kq v15 w' => ∃ (x15_1 : Int), v15 = .int .i64 x15_1 ∧ Aside0 (region_none_k87.l0 kq l0 l1 a2 y942 (y942.length : Int) x15_1 = some (r1, r2)) ∧ Aside0 (kq ≤ k) ∧ Aside0 (Kd.V k58 58 w' w.heap.size (fun k_ => ((P0_ k_ ∨ P1_ k_) ∨ w.heap.size ≤ k_) ∧ some k_ ≠ ((.slice Ao6 y942.length co6) : Value).ownBlock) (.slice A0 l0.length c0) l0) ∧ Aside0 (Kd.V k58 58 w' w.heap.size (fun k_ => ((P0_ k_ ∨ P1_ k_) ∨ w.heap.size ≤ k_) ∧ some k_ ≠ ((.slice Ao6 y942.length co6) : Value).ownBlock) (.slice A1 l1.length c1) l1) ∧ Aside0 (Kd.N (Kd.slice 58 k58) 22 w' w.heap.size (fun k_ => ((P0_ k_ ∨ P1_ k_) ∨ w.heap.size ≤ k_)) (.slice Ao6 y942.length co6) y942) ∧ Aside0 (Below w.heap.size w w'))
 case atStart => exact ⟨(0), (by first | rfl | (simp; done) | (simp [*]; done)), H', ⟨Nat.le_refl _⟩, ⟨by (with_reducible repeat (first | apply Kd.V_alloc | apply Kd.V_drewN | apply Kd.V_drew)); exact HO0.out⟩, ⟨by (with_reducible repeat (first | apply Kd.V_alloc | apply Kd.V_drewN | apply Kd.V_drew)); exact HO1.out⟩, ⟨by (with_reducible repeat (first | apply Kd.N_alloc | apply Kd.N_drewN | apply Kd.N_drew)); exact HO944.out⟩, ⟨by repeat (first | (with_reducible first | exact HB.out | apply below_alloc | apply pbd | apply below_drew1) | exact HB.out)⟩⟩
 case round =>
  clear H'
  try clear c1
  try clear p2
  obtain ⟨x15_1, rfl, HA, HK1, HO_0, HO_1, HO_13, HB⟩ := hrel
  cases gk with
  | zero => exact absurd HA.out (by simp [region_none_k87.l0])
  | succ k1 =>
   have H := HA.out
   clear HA
   simp only [region_none_k87.l0] at H
   by_cases c7 : x15_1 < (y942.length : Int)
   ·rw [if_pos c7] at H
    have c7b0 : decide (x15_1 < (y942.length : Int)) = true := decide_eq_true c7
    clear c7
    by_cases c8 : 0 ≤ x15_1
    ·rw [if_pos c8] at H
     have c8b0 : decide (0 ≤ x15_1) = true := decide_eq_true c8
     clear c8
     by_cases c9 : x15_1 < (y942.length : Int)
     ·rw [if_pos c9] at H
      have c9b0 : decide (x15_1 < (y942.length : Int)) = true := decide_eq_true c9
      clear c9
      replace H := Option.bind_eq_some_iff.mp H
      obtain ⟨t946, A100, H⟩ := H
      replace H : (if t946 = 0 then (region_none_k87.l0 k1 l0 l1 a2 y942 (y942.length : Int) (wrap64 (x15_1 + 1))) else (some (false, t946))) = some (r1, r2) := H
      have A10 := Aside0.mk A100
      clear A100
      by_cases c11 : t946 = 0
      ·rw [if_pos c11] at H
       have c11b0 : (t946 == 0) = true := beq_iff_eq.mpr c11
       have c11b1 : (t946 != 0) = false := bne_eq_false_iff_eq.mpr c11
       clear c11
       have H' := Aside0.mk H
       clear H
       have p945 : 0 ≤ (x15_1 : Int) := of_decide_eq_true (by first | (with_reducible assumption) | assumption)
       have q945 : x15_1 < (y942.length : Int) := of_decide_eq_true (by first | (with_reducible assumption) | assumption)
       obtain ⟨ad945, A945_0, c945_0, e945, hx945_0, hl945_0, hi945_0⟩ := at_L3 (Kd.N_reads' HO_13.out).2.2 x15_1 p945 q945
       cases e945
       obtain ⟨ce945, hce945, hMe945, hcc945⟩ := Kd.N_get HO_13.out [] x15_1 p945 (by first | exact q945 | exact of_decide_eq_true (by first | (with_reducible assumption) | assumption) | (have e_ := (Kd.N_reads' HO_13.out).1; omega))
       obtain ⟨ua945_0, uc945_0, rfl, ul945_0, ge945_0⟩ := Kd.FK_slice_open hMe945
       have hv945_0 := hcc945 0 _ rfl
       rw [Nat.add_zero, show ((Kd.slice 58 k58)).sz = 1 from rfl, Nat.mul_one] at hv945_0
       replace hv945_0 := Option.some.inj (hv945_0.symm.trans hx945_0)
       injection hv945_0 with hva_ hvn_ hvc_
       rw [hva_] at ge945_0
       rw [hvc_] at ul945_0
       have HL945_0 := Aside0.mk (show Kd.V k58 58 _ w.heap.size _ _ (rd_L3 y942 x15_1) from Kd.V_mk ul945_0 ge945_0)
       clear hva_ hvn_ hvc_ ge945_0 ul945_0
       clear hcc945 hce945
       have HR945_0 := Aside0.mk hi945_0
       have HC945_0 := Aside0.mk hl945_0
       clear hi945_0 hl945_0
       replace p945 := eq_true p945
       replace q945 := eq_true q945
       go_wp2_with (first | ((with_reducible refine gate_callee (f := 68) rfl ?_); refine goesL_ (some 20) rfl rfl Try.func68 (by kernel_rfl) rfl #[.slice A945_0 (rd_L3 y942 x15_1).length c945_0] rfl (by (try simp only [List.map_toArray, List.map_cons, List.map_nil]); first | done | rfl) ?_; (with_reducible refine (region_right.calls k1 _ _ (rd_L3 y942 x15_1) t946 _ ?side1 ?side2 A10.out).mono ?_); (case side1 => repeat (first | exact (by repeat (first | (with_reducible exact HR945_0.out) | (with_reducible refine Kd.C_alloc ?_ _) | (with_reducible refine Kd.C_drewN ?_ _) | (with_reducible refine Kd.C_drew ?_) | exact HR945_0.out)) | (with_reducible refine Kd.C_alloc ?_ _) | (with_reducible refine Kd.C_drewN ?_ _) | (with_reducible refine Kd.C_drew ?_))); (case side2 => exact HC945_0.out); rintro e w12 ⟨rfl, hb⟩; refine ⟨_, rfl, ?_⟩; have n0_ := Aside0.mk (Kd.V_below (by (with_reducible repeat (first | apply Kd.V_alloc | apply Kd.V_drewN | apply Kd.V_drew)); exact HO_0.out) hb); have n1_ := Aside0.mk (Kd.V_below (by (with_reducible repeat (first | apply Kd.V_alloc | apply Kd.V_drewN | apply Kd.V_drew)); exact HO_1.out) hb); have n2_ := Aside0.mk (Kd.N_below (by (with_reducible repeat (first | apply Kd.N_alloc | apply Kd.N_drewN | apply Kd.N_drew)); exact HO_13.out) hb); have n3_ := Aside0.mk (Kd.V_below (by (with_reducible repeat (first | apply Kd.V_alloc | apply Kd.V_drewN | apply Kd.V_drew)); exact HL945_0.out) hb); have n4_ := Aside0.mk (Kd.C_below (by repeat (first | (with_reducible exact HR945_0.out) | (with_reducible refine Kd.C_alloc ?_ _) | (with_reducible refine Kd.C_drewN ?_ _) | (with_reducible refine Kd.C_drew ?_) | exact HR945_0.out)) hb); have n5_ := Aside0.mk (below_step (by repeat (first | (with_reducible first | exact HB.out | apply below_alloc | apply pbd | apply below_drew1) | exact HB.out)) hb); clear HO_0; clear HO_1; clear HO_13; clear HL945_0; clear HR945_0; clear HB; have HO_0 := n0_; have HO_1 := n1_; have HO_13 := n2_; have HL945_0 := n3_; have HR945_0 := n4_; have HB := n5_; clear n0_ n1_ n2_ n3_ n4_ n5_; (try clear hb); (try clear hb2); (try clear hk); (try clear hi)))
       go_roundg k1
       case measure => have := HK1.out; omega
       case rel => exact ⟨(wrap64 (x15_1 + 1)), (by first | rfl | (simp; done) | (simp [*]; done)), H', ⟨by have := HK1.out; omega⟩, ⟨by (with_reducible repeat (first | apply Kd.V_alloc | apply Kd.V_drewN | apply Kd.V_drew)); exact HO_0.out⟩, ⟨by (with_reducible repeat (first | apply Kd.V_alloc | apply Kd.V_drewN | apply Kd.V_drew)); exact HO_1.out⟩, ⟨by (with_reducible repeat (first | apply Kd.N_alloc | apply Kd.N_drewN | apply Kd.N_drew)); exact HO_13.out⟩, ⟨by repeat (first | (with_reducible first | exact HB.out | apply below_alloc | apply pbd | apply below_drew1) | exact HB.out)⟩⟩
      ·rw [if_neg c11] at H
       have c11b0 : (t946 == 0) = false := beq_eq_false_iff_ne.mpr c11
       have c11b1 : (t946 != 0) = true := bne_iff_ne.mpr c11
       simp only [Option.some.injEq, Prod.mk.injEq] at H
       obtain ⟨rfl, rfl⟩ := H
       have p945 : 0 ≤ (x15_1 : Int) := of_decide_eq_true (by first | (with_reducible assumption) | assumption)
       have q945 : x15_1 < (y942.length : Int) := of_decide_eq_true (by first | (with_reducible assumption) | assumption)
       obtain ⟨ad945, A945_0, c945_0, e945, hx945_0, hl945_0, hi945_0⟩ := at_L3 (Kd.N_reads' HO_13.out).2.2 x15_1 p945 q945
       cases e945
       obtain ⟨ce945, hce945, hMe945, hcc945⟩ := Kd.N_get HO_13.out [] x15_1 p945 (by first | exact q945 | exact of_decide_eq_true (by first | (with_reducible assumption) | assumption) | (have e_ := (Kd.N_reads' HO_13.out).1; omega))
       obtain ⟨ua945_0, uc945_0, rfl, ul945_0, ge945_0⟩ := Kd.FK_slice_open hMe945
       have hv945_0 := hcc945 0 _ rfl
       rw [Nat.add_zero, show ((Kd.slice 58 k58)).sz = 1 from rfl, Nat.mul_one] at hv945_0
       replace hv945_0 := Option.some.inj (hv945_0.symm.trans hx945_0)
       injection hv945_0 with hva_ hvn_ hvc_
       rw [hva_] at ge945_0
       rw [hvc_] at ul945_0
       have HL945_0 := Aside0.mk (show Kd.V k58 58 _ w.heap.size _ _ (rd_L3 y942 x15_1) from Kd.V_mk ul945_0 ge945_0)
       clear hva_ hvn_ hvc_ ge945_0 ul945_0
       clear hcc945 hce945
       have HR945_0 := Aside0.mk hi945_0
       have HC945_0 := Aside0.mk hl945_0
       clear hi945_0 hl945_0
       replace p945 := eq_true p945
       replace q945 := eq_true q945
       go_wp2_with (first | ((with_reducible refine gate_callee (f := 68) rfl ?_); refine goesL_ (some 20) rfl rfl Try.func68 (by kernel_rfl) rfl #[.slice A945_0 (rd_L3 y942 x15_1).length c945_0] rfl (by (try simp only [List.map_toArray, List.map_cons, List.map_nil]); first | done | rfl) ?_; (with_reducible refine (region_right.calls k1 _ _ (rd_L3 y942 x15_1) t946 _ ?side1 ?side2 A10.out).mono ?_); (case side1 => repeat (first | exact (by repeat (first | (with_reducible exact HR945_0.out) | (with_reducible refine Kd.C_alloc ?_ _) | (with_reducible refine Kd.C_drewN ?_ _) | (with_reducible refine Kd.C_drew ?_) | exact HR945_0.out)) | (with_reducible refine Kd.C_alloc ?_ _) | (with_reducible refine Kd.C_drewN ?_ _) | (with_reducible refine Kd.C_drew ?_))); (case side2 => exact HC945_0.out); rintro e w13 ⟨rfl, hb⟩; refine ⟨_, rfl, ?_⟩; have n0_ := Aside0.mk (Kd.V_below (by (with_reducible repeat (first | apply Kd.V_alloc | apply Kd.V_drewN | apply Kd.V_drew)); exact HO_0.out) hb); have n1_ := Aside0.mk (Kd.V_below (by (with_reducible repeat (first | apply Kd.V_alloc | apply Kd.V_drewN | apply Kd.V_drew)); exact HO_1.out) hb); have n2_ := Aside0.mk (Kd.N_below (by (with_reducible repeat (first | apply Kd.N_alloc | apply Kd.N_drewN | apply Kd.N_drew)); exact HO_13.out) hb); have n3_ := Aside0.mk (Kd.V_below (by (with_reducible repeat (first | apply Kd.V_alloc | apply Kd.V_drewN | apply Kd.V_drew)); exact HL945_0.out) hb); have n4_ := Aside0.mk (Kd.C_below (by repeat (first | (with_reducible exact HR945_0.out) | (with_reducible refine Kd.C_alloc ?_ _) | (with_reducible refine Kd.C_drewN ?_ _) | (with_reducible refine Kd.C_drew ?_) | exact HR945_0.out)) hb); have n5_ := Aside0.mk (below_step (by repeat (first | (with_reducible first | exact HB.out | apply below_alloc | apply pbd | apply below_drew1) | exact HB.out)) hb); clear HO_0; clear HO_1; clear HO_13; clear HL945_0; clear HR945_0; clear HB; have HO_0 := n0_; have HO_1 := n1_; have HO_13 := n2_; have HL945_0 := n3_; have HR945_0 := n4_; have HB := n5_; clear n0_ n1_ n2_ n3_ n4_ n5_; (try clear hb); (try clear hb2); (try clear hk); (try clear hi)))
       go_ret2
       exact ⟨by first | rfl | (simp [errW_none, errW_some] <;> rfl) | (simp [*, errW_none, errW_some] <;> rfl), by repeat (first | (with_reducible first | exact HB.out | apply below_alloc | apply pbd | apply below_drew1) | exact HB.out)⟩
     ·rw [if_neg c9] at H
      exact absurd H (by simp)
    ·rw [if_neg c8] at H
     exact absurd H (by simp)
   ·rw [if_neg c7] at H
    have c7b0 : decide (x15_1 < (y942.length : Int)) = false := decide_eq_false c7
    clear c7
    replace H := Option.bind_eq_some_iff.mp H
    obtain ⟨t947, A140, H⟩ := H
    replace H : (some (((t947.length : Int) == 0), 0)) = some (r1, r2) := H
    have A14 := Aside0.mk A140
    clear A140
    simp only [Option.some.injEq, Prod.mk.injEq] at H
    obtain ⟨rfl, rfl⟩ := H
    go_wp2_with (first | ((with_reducible refine gate_callee (f := 73) rfl ?_); refine goesL_ (some 28) rfl rfl Try.func73 (by kernel_rfl) rfl #[.slice A0 l0.length c0, .slice A1 l1.length c1, .func (.func 87) #[] #[]] rfl (by (try simp only [List.map_toArray, List.map_cons, List.map_nil]); first | done | rfl) ?_; (with_reducible refine (region_sweep_k87.calls k1 (fun k_ => (((P0_ k_ ∨ P1_ k_) ∨ w.heap.size ≤ k_) ∧ some k_ ≠ (.slice Ao6 y942.length co6 : Value).ownBlock)) _ _ l0 (fun k_ => (((P0_ k_ ∨ P1_ k_) ∨ w.heap.size ≤ k_) ∧ some k_ ≠ (.slice Ao6 y942.length co6 : Value).ownBlock)) _ _ l1 a2 t947 _ ?side1 ?side2 A14.out).mono ?_); (case side1 => exact HO_0.out); (case side2 => exact HO_1.out); rintro e w15 ⟨v948, rfl, ho0, hb⟩; refine ⟨_, rfl, ?_⟩; have n0_ := Aside0.mk (Kd.V_elder' (by (with_reducible repeat (first | apply Kd.V_alloc | apply Kd.V_drewN | apply Kd.V_drew)); exact HO_0.out) (Kd.N_base ho0) hb); have n1_ := Aside0.mk (Kd.V_elder' (by (with_reducible repeat (first | apply Kd.V_alloc | apply Kd.V_drewN | apply Kd.V_drew)); exact HO_1.out) (Kd.N_base ho0) hb); have n2_ := Aside0.mk (Kd.N_elder' (by (with_reducible repeat (first | apply Kd.N_alloc | apply Kd.N_drewN | apply Kd.N_drew)); exact HO_13.out) (Kd.N_base ho0) hb); have n3_ := Aside0.mk (Kd.N_lower (Kd.N_mono (ok' := fun k_ => ((P0_ k_ ∨ P1_ k_) ∨ w.heap.size ≤ k_) ∧ some k_ ≠ (.slice Ao6 y942.length co6 : Value).ownBlock) ho0 (fun k_ hk_ => ⟨Or.elim hk_ (fun hs_ => Or.elim hs_ (fun hs_ => hs_.1) (fun hs_ => hs_.1)) (fun hn_ => (.inr (Nat.le_trans (below_size (by repeat (first | (with_reducible first | exact HB.out | apply below_alloc | apply pbd | apply below_drew1) | exact HB.out))) hn_))), Or.elim hk_ (fun hs_ => Or.elim hs_ (fun hs_ => hs_.2) (fun hs_ => hs_.2)) (fun hn_ => (Kd.fresh' (Kd.N_lt (by (with_reducible repeat (first | apply Kd.N_alloc | apply Kd.N_drewN | apply Kd.N_drew)); exact HO_13.out)) k_ hn_))⟩)) (below_size (by repeat (first | (with_reducible first | exact HB.out | apply below_alloc | apply pbd | apply below_drew1) | exact HB.out)))); have n4_ := Aside0.mk (below_step (by repeat (first | (with_reducible first | exact HB.out | apply below_alloc | apply pbd | apply below_drew1) | exact HB.out)) hb); clear HO_0; clear HO_1; clear HO_13; clear HB; have HO_0 := n0_; have HO_1 := n1_; have HO_13 := n2_; have HO949 := n3_; have HB := n4_; clear n0_ n1_ n2_ n3_ n4_; (try clear hb); (try clear hb2); (try clear hk); (try clear hi); (try clear ho0); obtain ⟨Ao16, co16, eo16⟩ := Kd.N_slice HO949.out; subst eo16))
    go_ret2
    exact ⟨by first | rfl | (simp [errW_none, errW_some] <;> rfl) | (simp [*, errW_none, errW_some] <;> rfl), by repeat (first | (with_reducible first | exact HB.out | apply below_alloc | apply pbd | apply below_drew1) | exact HB.out)⟩
def region_Same.f (k : Nat) (l0 : List (S58)) (l1 : List (S58)) : Option (Bool × Int) := (region_none_k87.f k l0 l1 ()).bind fun bt950 => (some (bt950.1, bt950.2))
set_option maxHeartbeats 8000000 in
set_option maxRecDepth 100000 in
theorem region_Same.calls (k : Nat) (A0 : Option Addr) (c0 : Nat) (l0 : List (S58)) (A1 : Option Addr) (c1 : Nat) (l1 : List (S58)) (r1 : Bool) (r2 : Int) (w : World) (hr0 : Kd.C k58 w A0 l0.length l0) (hc0 : l0.length ≤ c0) (hr1 : Kd.C k58 w A1 l1.length l1) (hc1 : l1.length ≤ c1) (h : region_Same.f k l0 l1 = some (r1, r2)) :
  Calls Try.prog 37 #[.slice A0 l0.length c0, .slice A1 l1.length c1] w fun e w' => e = .returned (.tuple #[.bool r1, .int .i64 r2]) ∧ Below w.heap.size w w' := by
 have HR0 := Aside0.mk hr0
 have HC0 := Aside0.mk hc0
 clear hr0 hc0
 have HR1 := Aside0.mk hr1
 have HC1 := Aside0.mk hc1
 clear hr1 hc1
 have HB := Aside0.mk (Below.refl w.heap.size w)
 have H : ((region_none_k87.f k l0 l1 ()).bind fun bt950 => (some (bt950.1, bt950.2))) = some (r1, r2) := h
 clear h
 replace H := Option.bind_eq_some_iff.mp H
 obtain ⟨⟨t950, t951⟩, A30, H⟩ := H
 replace H : (some (t950, t951)) = some (r1, r2) := H
 have A3 := Aside0.mk A30
 clear A30
 simp only [Option.some.injEq, Prod.mk.injEq] at H
 obtain ⟨rfl, rfl⟩ := H
 go_enter Try.func37, Try.ntmps37
 go_wp2_with (first | ((with_reducible refine gate_callee (f := 86) rfl ?_); refine goesL_ (some 8) rfl rfl Try.func86 (by kernel_rfl) rfl #[.slice A0 l0.length c0, .slice A1 l1.length c1, .func (.func 87) #[] #[]] rfl (by (try simp only [List.map_toArray, List.map_cons, List.map_nil]); first | done | rfl) ?_; (with_reducible refine (region_none_k87.calls k (fun k_ => k_ < w.heap.size) _ _ l0 (fun k_ => k_ < w.heap.size) _ _ l1 () t950 t951 _ ?side1 ?side2 A3.out).mono ?_); (case side1 => exact Kd.V_mk HC0.out (Kd.F_below (Kd.C_F k58_heap HR0.out) (by repeat (first | (with_reducible first | exact HB.out | apply below_alloc | apply pbd | apply below_drew1) | exact HB.out)))); (case side2 => exact Kd.V_mk HC1.out (Kd.F_below (Kd.C_F k58_heap HR1.out) (by repeat (first | (with_reducible first | exact HB.out | apply below_alloc | apply pbd | apply below_drew1) | exact HB.out)))); rintro e w4 ⟨rfl, hb⟩; refine ⟨_, rfl, ?_⟩; have n0_ := Aside0.mk (below_step (by repeat (first | (with_reducible first | exact HB.out | apply below_alloc | apply pbd | apply below_drew1) | exact HB.out)) hb); clear HB; have HB := n0_; clear n0_; (try clear hb); (try clear hb2); (try clear hk); (try clear hi)))
 go_ret2
 exact ⟨by first | rfl | (simp [errW_none, errW_some] <;> rfl) | (simp [*, errW_none, errW_some] <;> rfl), by repeat (first | (with_reducible first | exact HB.out | apply below_alloc | apply pbd | apply below_drew1) | exact HB.out)⟩
end Go.Proofs.Ytcoegjdnobiogaa.PG
