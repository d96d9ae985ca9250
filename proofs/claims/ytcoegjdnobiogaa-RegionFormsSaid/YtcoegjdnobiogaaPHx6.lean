/- The contracts of halideref6_some, halideref6_near, halideref6_far, halideref6_Right, region_either, region_sweep_k83, region_two_k83, region_Union, region_also, region_sweep_k84, region_two_k84, region_Meet, halidelaw6_few: printed by a program of this session's (a turned copy of the kit's printer); Lean checks them. -/
import Derived.Test.YtcoegjdnobiogaaPGx0
import Derived.Test.YtcoegjdnobiogaaPHx1
import Derived.Test.YtcoegjdnobiogaaRgM
import Derived.Test.YtcoegjdnobiogaaRgN
set_option linter.unusedVariables false
set_option linter.unusedSimpArgs false
namespace Go.Proofs.Ytcoegjdnobiogaa.PG
open Go.RowKit Go.Proofs.YtcoegjdnobiogaaW.PrintWords Go.Proofs.YtcoegjdnobiogaaW.PrintLast Go.Proofs.YtcoegjdnobiogaaW.PrintMore
attribute [local go_sem] max2_int min2_int max_two min_two max_three min_three max_four min_four
attribute [local go_sem high] eqA120
def halideref6_some.f (a0_0 : Int) (a0_1 : Int) (a0_2 : Int) (a0_3 : Int) : Option (Bool) := if a0_0 < a0_2 then (some (decide (a0_1 < a0_3))) else (some false)
set_option maxHeartbeats 8000000 in
set_option maxRecDepth 100000 in
theorem halideref6_some.calls (a0_0 : Int) (a0_1 : Int) (a0_2 : Int) (a0_3 : Int) (r : Bool) (w : World) (h : halideref6_some.f a0_0 a0_1 a0_2 a0_3 = some r) :
  Calls Try.prog 90 #[.agg #[.int .i64 a0_0, .int .i64 a0_1, .int .i64 a0_2, .int .i64 a0_3]] w fun e w' => e = .returned (.bool r) ∧ Below w.heap.size w w' := by
 have hu58 := Try.underlying58
 have HB := Aside0.mk (Below.refl w.heap.size w)
 have H : (if a0_0 < a0_2 then (some (decide (a0_1 < a0_3))) else (some false)) = some r := h
 clear h
 by_cases c2 : a0_0 < a0_2
 ·rw [if_pos c2] at H
  have c2b0 : decide (a0_0 < a0_2) = true := decide_eq_true c2
  clear c2
  obtain rfl := Option.some.inj H
  go_enter Try.func90, Try.ntmps90
  go_wp2_with (first | ((with_reducible refine gate_dst (N := 1) rfl ?_); refine box_event ?hg (N := 1) ?hd (cs := #[.int .i64 a0_0, .int .i64 a0_1, .int .i64 a0_2, .int .i64 a0_3]) (t := 58) ?hr ?_; (case hd => rfl); (case hg => rfl); (case hr => first | (go_simp; done) | (go_simp; rfl)); intro gb444 hg w3 hbox hb; have n0_ := Aside0.mk (below_step (by repeat (first | (with_reducible first | exact HB.out | apply below_alloc | apply pbd | apply below_drew1) | exact HB.out)) hb); have n1_ := Aside0.mk (hbox); have n2_ := Aside0.mk ((by rw [hg]; exact (below_size (by repeat (first | (with_reducible first | exact HB.out | apply below_alloc | apply pbd | apply below_drew1) | exact HB.out))) : w.heap.size ≤ gb444)); have n3_ := Aside0.mk ((by rw [hg]; exact (below_size (by repeat (first | (with_reducible first | exact HB.out | apply below_alloc | apply pbd | apply below_drew1) | exact HB.out))) : w.heap.size ≤ gb444)); clear HB; have HB := n0_; have BK444 := n1_; have GW444 := n2_; have GE444 := n3_; clear n0_ n1_ n2_ n3_; clear hb hbox hg; have hcz4_0 : w3.cell? ⟨gb444, 0, none⟩ = some (.int .i64 a0_0) := (blk_cell BK444.out 0).trans rfl; have hcz4_1 : w3.cell? ⟨gb444, 1, none⟩ = some (.int .i64 a0_1) := (blk_cell BK444.out 1).trans rfl; have hcz4_2 : w3.cell? ⟨gb444, 2, none⟩ = some (.int .i64 a0_2) := (blk_cell BK444.out 2).trans rfl; have hcz4_3 : w3.cell? ⟨gb444, 3, none⟩ = some (.int .i64 a0_3) := (blk_cell BK444.out 3).trans rfl; have hfz4_0 := blk_frozen BK444.out 0; have hfz4_1 := blk_frozen BK444.out 1; have hfz4_2 := blk_frozen BK444.out 2; have hfz4_3 := blk_frozen BK444.out 3))
  go_ret
  exact ⟨by first | rfl | (simp [errW_none, errW_some] <;> rfl) | (simp [*, errW_none, errW_some] <;> rfl), by repeat (first | (with_reducible first | exact HB.out | apply below_alloc | apply pbd | apply below_drew1 | refine below_set ?_ GE444.out) | exact HB.out)⟩
 ·rw [if_neg c2] at H
  have c2b0 : decide (a0_0 < a0_2) = false := decide_eq_false c2
  clear c2
  obtain rfl := Option.some.inj H
  go_enter Try.func90, Try.ntmps90
  go_wp2_with (first | ((with_reducible refine gate_dst (N := 1) rfl ?_); refine box_event ?hg (N := 1) ?hd (cs := #[.int .i64 a0_0, .int .i64 a0_1, .int .i64 a0_2, .int .i64 a0_3]) (t := 58) ?hr ?_; (case hd => rfl); (case hg => rfl); (case hr => first | (go_simp; done) | (go_simp; rfl)); intro gb444 hg w5 hbox hb; have n0_ := Aside0.mk (below_step (by repeat (first | (with_reducible first | exact HB.out | apply below_alloc | apply pbd | apply below_drew1) | exact HB.out)) hb); have n1_ := Aside0.mk (hbox); have n2_ := Aside0.mk ((by rw [hg]; exact (below_size (by repeat (first | (with_reducible first | exact HB.out | apply below_alloc | apply pbd | apply below_drew1) | exact HB.out))) : w.heap.size ≤ gb444)); have n3_ := Aside0.mk ((by rw [hg]; exact (below_size (by repeat (first | (with_reducible first | exact HB.out | apply below_alloc | apply pbd | apply below_drew1) | exact HB.out))) : w.heap.size ≤ gb444)); clear HB; have HB := n0_; have BK444 := n1_; have GW444 := n2_; have GE444 := n3_; clear n0_ n1_ n2_ n3_; clear hb hbox hg; have hcz6_0 : w5.cell? ⟨gb444, 0, none⟩ = some (.int .i64 a0_0) := (blk_cell BK444.out 0).trans rfl; have hcz6_1 : w5.cell? ⟨gb444, 1, none⟩ = some (.int .i64 a0_1) := (blk_cell BK444.out 1).trans rfl; have hcz6_2 : w5.cell? ⟨gb444, 2, none⟩ = some (.int .i64 a0_2) := (blk_cell BK444.out 2).trans rfl; have hcz6_3 : w5.cell? ⟨gb444, 3, none⟩ = some (.int .i64 a0_3) := (blk_cell BK444.out 3).trans rfl; have hfz6_0 := blk_frozen BK444.out 0; have hfz6_1 := blk_frozen BK444.out 1; have hfz6_2 := blk_frozen BK444.out 2; have hfz6_3 := blk_frozen BK444.out 3))
  go_ret
  exact ⟨by first | rfl | (simp [errW_none, errW_some] <;> rfl) | (simp [*, errW_none, errW_some] <;> rfl), by repeat (first | (with_reducible first | exact HB.out | apply below_alloc | apply pbd | apply below_drew1 | refine below_set ?_ GE444.out) | exact HB.out)⟩
def halideref6_near.f (a0 : Int) : Option (Bool) := if a0 ≥ (-8192) then (some (decide (a0 ≤ 8192))) else (some false)
set_option maxHeartbeats 8000000 in
set_option maxRecDepth 100000 in
theorem halideref6_near.calls (a0 : Int) (r : Bool) (w : World) (h : halideref6_near.f a0 = some r) :
  Calls Try.prog 130 #[.int .i64 a0] w fun e w' => e = .returned (.bool r) ∧ Drawn0 w w' := by
 have H : (if a0 ≥ (-8192) then (some (decide (a0 ≤ 8192))) else (some false)) = some r := h
 clear h
 by_cases c2 : a0 ≥ (-8192)
 ·rw [if_pos c2] at H
  have c2b0 : decide ((-8192) ≤ a0) = true := decide_eq_true c2
  clear c2
  obtain rfl := Option.some.inj H
  go_enter Try.func130, Try.ntmps130
  go_wp2
  go_ret
  exact ⟨by first | rfl | (simp; done) | (simp [*]; done), by repeat (first | exact Drawn0.refl _ | apply Drawn0.step)⟩
 ·rw [if_neg c2] at H
  have c2b0 : decide ((-8192) ≤ a0) = false := decide_eq_false c2
  clear c2
  obtain rfl := Option.some.inj H
  go_enter Try.func130, Try.ntmps130
  go_wp2
  go_ret
  exact ⟨by first | rfl | (simp; done) | (simp [*]; done), by repeat (first | exact Drawn0.refl _ | apply Drawn0.step)⟩
def halideref6_far.l0 : Nat → List (S58) → Int → Option (Int)
 | 0, _, _ => none
 | k + 1, x0, x3 => if x3 < (x0.length : Int) then (if 0 ≤ x3 then ((halideref6_some.f ((rd_T58 x0 x3).f0) ((rd_T58 x0 x3).f1) ((rd_T58 x0 x3).f2) ((rd_T58 x0 x3).f3)).bind fun t447 => (if t447 = true then ((halideref6_near.f ((rd_T58 x0 x3).f0)).bind fun t448 => (if t448 = true then ((halideref6_near.f ((rd_T58 x0 x3).f1)).bind fun t449 => (if t449 = true then ((halideref6_near.f ((rd_T58 x0 x3).f2)).bind fun t450 => (if t450 = true then ((halideref6_near.f ((rd_T58 x0 x3).f3)).bind fun t451 => (if t451 = true then (halideref6_far.l0 k x0 (wrap64 (x3 + 1))) else (some 61))) else (some 61))) else (some 61))) else (some 61))) else (halideref6_far.l0 k x0 (wrap64 (x3 + 1))))) else (none)) else (some 0)
def halideref6_far.f (k : Nat) (l0 : List (S58)) : Option (Int) := halideref6_far.l0 k l0 0
set_option maxHeartbeats 8000000 in
set_option maxRecDepth 100000 in
theorem halideref6_far.calls (k : Nat) (A0 : Option Addr) (c0 : Nat) (l0 : List (S58)) (r : Int) (w : World) (hr0 : Kd.C k58 w A0 l0.length l0) (hc0 : l0.length ≤ c0) (h : halideref6_far.f k l0 = some r) :
  Calls Try.prog 78 #[.slice A0 l0.length c0] w fun e w' => e = .returned (.int .i64 r) ∧ Below w.heap.size w w' := by
 have hu58 := Try.underlying58
 have HR0 := Aside0.mk hr0
 have HC0 := Aside0.mk hc0
 clear hr0 hc0
 have HB := Aside0.mk (Below.refl w.heap.size w)
 have H : (halideref6_far.l0 k l0 0) = some r := h
 clear h
 have H' := Aside0.mk H
 clear H
 go_enter Try.func78, Try.ntmps78
 go_wp2
 go_loopg [3] k (fun kq v3 w' => ∃ (x3_1 : Int), v3 = .int .i64 x3_1 ∧ Aside0 (halideref6_far.l0 kq l0 x3_1 = some r) ∧ Aside0 (kq ≤ k) ∧ Aside0 (Below w.heap.size w w'))
 case atStart => exact ⟨(0), (by first | rfl | (simp; done) | (simp [*]; done)), H', ⟨Nat.le_refl _⟩, ⟨by repeat (first | (with_reducible first | exact HB.out | apply below_alloc | apply pbd | apply below_drew1) | exact HB.out)⟩⟩
 case round =>
  clear H'
  obtain ⟨x3_1, rfl, HA, HK1, HB⟩ := hrel
  cases gk with
  | zero => exact absurd HA.out (by simp [halideref6_far.l0])
  | succ k1 =>
   have H := HA.out
   clear HA
   simp only [halideref6_far.l0] at H
   by_cases c2 : x3_1 < (l0.length : Int)
   ·rw [if_pos c2] at H
    have c2b0 : decide (x3_1 < (l0.length : Int)) = true := decide_eq_true c2
    clear c2
    by_cases c3 : 0 ≤ x3_1
    ·rw [if_pos c3] at H
     have c3b0 : decide (0 ≤ x3_1) = true := decide_eq_true c3
     clear c3
     replace H := Option.bind_eq_some_iff.mp H
     obtain ⟨t447, A40, H⟩ := H
     replace H : (if t447 = true then ((halideref6_near.f ((rd_T58 l0 x3_1).f0)).bind fun t448 => (if t448 = true then ((halideref6_near.f ((rd_T58 l0 x3_1).f1)).bind fun t449 => (if t449 = true then ((halideref6_near.f ((rd_T58 l0 x3_1).f2)).bind fun t450 => (if t450 = true then ((halideref6_near.f ((rd_T58 l0 x3_1).f3)).bind fun t451 => (if t451 = true then (halideref6_far.l0 k1 l0 (wrap64 (x3_1 + 1))) else (some 61))) else (some 61))) else (some 61))) else (some 61))) else (halideref6_far.l0 k1 l0 (wrap64 (x3_1 + 1)))) = some r := H
     have A4 := Aside0.mk A40
     clear A40
     by_cases c5 : t447 = true
     ·subst c5
      have H1 : ((halideref6_near.f ((rd_T58 l0 x3_1).f0)).bind fun t448 => (if t448 = true then ((halideref6_near.f ((rd_T58 l0 x3_1).f1)).bind fun t449 => (if t449 = true then ((halideref6_near.f ((rd_T58 l0 x3_1).f2)).bind fun t450 => (if t450 = true then ((halideref6_near.f ((rd_T58 l0 x3_1).f3)).bind fun t451 => (if t451 = true then (halideref6_far.l0 k1 l0 (wrap64 (x3_1 + 1))) else (some 61))) else (some 61))) else (some 61))) else (some 61))) = some r := by rw [if_pos rfl] at H; exact H
      clear H
      have H := H1
      clear H1
      replace H := Option.bind_eq_some_iff.mp H
      obtain ⟨t448, A60, H⟩ := H
      replace H : (if t448 = true then ((halideref6_near.f ((rd_T58 l0 x3_1).f1)).bind fun t449 => (if t449 = true then ((halideref6_near.f ((rd_T58 l0 x3_1).f2)).bind fun t450 => (if t450 = true then ((halideref6_near.f ((rd_T58 l0 x3_1).f3)).bind fun t451 => (if t451 = true then (halideref6_far.l0 k1 l0 (wrap64 (x3_1 + 1))) else (some 61))) else (some 61))) else (some 61))) else (some 61)) = some r := H
      have A6 := Aside0.mk A60
      clear A60
      by_cases c7 : t448 = true
      ·subst c7
       have H1 : ((halideref6_near.f ((rd_T58 l0 x3_1).f1)).bind fun t449 => (if t449 = true then ((halideref6_near.f ((rd_T58 l0 x3_1).f2)).bind fun t450 => (if t450 = true then ((halideref6_near.f ((rd_T58 l0 x3_1).f3)).bind fun t451 => (if t451 = true then (halideref6_far.l0 k1 l0 (wrap64 (x3_1 + 1))) else (some 61))) else (some 61))) else (some 61))) = some r := by rw [if_pos rfl] at H; exact H
       clear H
       have H := H1
       clear H1
       replace H := Option.bind_eq_some_iff.mp H
       obtain ⟨t449, A80, H⟩ := H
       replace H : (if t449 = true then ((halideref6_near.f ((rd_T58 l0 x3_1).f2)).bind fun t450 => (if t450 = true then ((halideref6_near.f ((rd_T58 l0 x3_1).f3)).bind fun t451 => (if t451 = true then (halideref6_far.l0 k1 l0 (wrap64 (x3_1 + 1))) else (some 61))) else (some 61))) else (some 61)) = some r := H
       have A8 := Aside0.mk A80
       clear A80
       by_cases c9 : t449 = true
       ·subst c9
        have H1 : ((halideref6_near.f ((rd_T58 l0 x3_1).f2)).bind fun t450 => (if t450 = true then ((halideref6_near.f ((rd_T58 l0 x3_1).f3)).bind fun t451 => (if t451 = true then (halideref6_far.l0 k1 l0 (wrap64 (x3_1 + 1))) else (some 61))) else (some 61))) = some r := by rw [if_pos rfl] at H; exact H
        clear H
        have H := H1
        clear H1
        replace H := Option.bind_eq_some_iff.mp H
        obtain ⟨t450, A100, H⟩ := H
        replace H : (if t450 = true then ((halideref6_near.f ((rd_T58 l0 x3_1).f3)).bind fun t451 => (if t451 = true then (halideref6_far.l0 k1 l0 (wrap64 (x3_1 + 1))) else (some 61))) else (some 61)) = some r := H
        have A10 := Aside0.mk A100
        clear A100
        by_cases c11 : t450 = true
        ·subst c11
         have H1 : ((halideref6_near.f ((rd_T58 l0 x3_1).f3)).bind fun t451 => (if t451 = true then (halideref6_far.l0 k1 l0 (wrap64 (x3_1 + 1))) else (some 61))) = some r := by rw [if_pos rfl] at H; exact H
         clear H
         have H := H1
         clear H1
         replace H := Option.bind_eq_some_iff.mp H
         obtain ⟨t451, A120, H⟩ := H
         replace H : (if t451 = true then (halideref6_far.l0 k1 l0 (wrap64 (x3_1 + 1))) else (some 61)) = some r := H
         have A12 := Aside0.mk A120
         clear A120
         by_cases c13 : t451 = true
         ·subst c13
          have H1 : (halideref6_far.l0 k1 l0 (wrap64 (x3_1 + 1))) = some r := by rw [if_pos rfl] at H; exact H
          clear H
          have H := H1
          clear H1
          have H' := Aside0.mk H
          clear H
          have p445 : 0 ≤ (x3_1 : Int) := of_decide_eq_true (by first | (with_reducible assumption) | assumption)
          have q445 : x3_1 < (l0.length : Int) := of_decide_eq_true (by first | (with_reducible assumption) | assumption)
          obtain ⟨ad445, e445, hx445_0, hx445_1, hx445_2, hx445_3⟩ := at_T58 HR0.out x3_1 p445 q445
          cases e445
          replace hx445_0 := (HB.out.cell (World.block_lt_of_cell? w _ hx445_0)).trans hx445_0
          replace hx445_1 := (HB.out.cell (World.block_lt_of_cell? w _ hx445_1)).trans hx445_1
          replace hx445_2 := (HB.out.cell (World.block_lt_of_cell? w _ hx445_2)).trans hx445_2
          replace hx445_3 := (HB.out.cell (World.block_lt_of_cell? w _ hx445_3)).trans hx445_3
          replace p445 := eq_true p445
          replace q445 := eq_true q445
          go_wp2_with (first | ((with_reducible refine gate_dst (N := 4) rfl ?_); refine box_event ?hg (N := 4) ?hd (cs := #[.int .i64 0, .int .i64 0, .int .i64 0, .int .i64 0]) (t := 58) ?hr ?_; (case hd => rfl); (case hg => rfl); (case hr => first | (go_simp; done) | (go_simp; rfl)); intro gb446 hg w14 hbox hb; have n0_ := Aside0.mk (below_step (by repeat (first | (with_reducible first | exact HB.out | apply below_alloc | apply pbd | apply below_drew1) | exact HB.out)) hb); have n1_ := Aside0.mk (hbox); have n2_ := Aside0.mk ((by rw [hg]; exact (below_size (by repeat (first | (with_reducible first | exact HB.out | apply below_alloc | apply pbd | apply below_drew1) | exact HB.out))) : w.heap.size ≤ gb446)); have n3_ := Aside0.mk ((by rw [hg]; exact (below_size (by repeat (first | (with_reducible first | exact HB.out | apply below_alloc | apply pbd | apply below_drew1) | exact HB.out))) : w.heap.size ≤ gb446)); clear HB; have HB := n0_; have BK446 := n1_; have GW446 := n2_; have GE446 := n3_; clear n0_ n1_ n2_ n3_; clear hb hbox hg; have hcz15_0 : w14.cell? ⟨gb446, 0, none⟩ = some (.int .i64 0) := (blk_cell BK446.out 0).trans rfl; have hcz15_1 : w14.cell? ⟨gb446, 1, none⟩ = some (.int .i64 0) := (blk_cell BK446.out 1).trans rfl; have hcz15_2 : w14.cell? ⟨gb446, 2, none⟩ = some (.int .i64 0) := (blk_cell BK446.out 2).trans rfl; have hcz15_3 : w14.cell? ⟨gb446, 3, none⟩ = some (.int .i64 0) := (blk_cell BK446.out 3).trans rfl; have hfz15_0 := blk_frozen BK446.out 0; have hfz15_1 := blk_frozen BK446.out 1; have hfz15_2 := blk_frozen BK446.out 2; have hfz15_3 := blk_frozen BK446.out 3) | ((with_reducible refine gate_callee (f := 90) rfl ?_); refine goesL_ (some 16) rfl rfl Try.func90 (by kernel_rfl) rfl #[.agg #[.int .i64 ((rd_T58 l0 x3_1).f0), .int .i64 ((rd_T58 l0 x3_1).f1), .int .i64 ((rd_T58 l0 x3_1).f2), .int .i64 ((rd_T58 l0 x3_1).f3)]] rfl (by (try simp only [List.map_toArray, List.map_cons, List.map_nil]); first | done | rfl) ?_; (with_reducible refine (halideref6_some.calls ((rd_T58 l0 x3_1).f0) ((rd_T58 l0 x3_1).f1) ((rd_T58 l0 x3_1).f2) ((rd_T58 l0 x3_1).f3) true _ A4.out).mono ?_); rintro e w16 ⟨rfl, hb⟩; refine ⟨_, rfl, ?_⟩; have n0_ := Aside0.mk (blk_below (g := gb446) (o := .cells #[.int .i64 ((rd_T58 l0 x3_1).f0), .int .i64 ((rd_T58 l0 x3_1).f1), .int .i64 ((rd_T58 l0 x3_1).f2), .int .i64 ((rd_T58 l0 x3_1).f3)] 58 (0, 0)) (by (with_reducible repeat (first | refine blk_drewN ?_ _ | refine blk_drew ?_ | refine blk_alloc ?_ _)); refine blk_put (cs := #[.int .i64 ((rd_T58 l0 x3_1).f0), .int .i64 ((rd_T58 l0 x3_1).f1), .int .i64 ((rd_T58 l0 x3_1).f2), .int .i64 0]) ?_ 3 _ rfl; (with_reducible repeat (first | refine blk_drewN ?_ _ | refine blk_drew ?_ | refine blk_alloc ?_ _)); refine blk_put (cs := #[.int .i64 ((rd_T58 l0 x3_1).f0), .int .i64 ((rd_T58 l0 x3_1).f1), .int .i64 0, .int .i64 0]) ?_ 2 _ rfl; (with_reducible repeat (first | refine blk_drewN ?_ _ | refine blk_drew ?_ | refine blk_alloc ?_ _)); refine blk_put (cs := #[.int .i64 ((rd_T58 l0 x3_1).f0), .int .i64 0, .int .i64 0, .int .i64 0]) ?_ 1 _ rfl; (with_reducible repeat (first | refine blk_drewN ?_ _ | refine blk_drew ?_ | refine blk_alloc ?_ _)); refine blk_put (cs := #[.int .i64 0, .int .i64 0, .int .i64 0, .int .i64 0]) ?_ 0 _ rfl; (with_reducible repeat (first | refine blk_drewN ?_ _ | refine blk_drew ?_ | refine blk_alloc ?_ _)); exact BK446.out) hb); have n1_ := Aside0.mk (below_step (by repeat (first | (with_reducible first | exact HB.out | apply below_alloc | apply pbd | apply below_drew1 | refine below_set ?_ GE446.out) | exact HB.out)) hb); clear BK446; clear HB; have BK446 := n0_; have HB := n1_; clear n0_ n1_; (try clear hb); (try clear hb2); (try clear hk); (try clear hi); have hcz17_0 : w16.cell? ⟨gb446, 0, none⟩ = some (.int .i64 ((rd_T58 l0 x3_1).f0)) := (blk_cell BK446.out 0).trans rfl; have hcz17_1 : w16.cell? ⟨gb446, 1, none⟩ = some (.int .i64 ((rd_T58 l0 x3_1).f1)) := (blk_cell BK446.out 1).trans rfl; have hcz17_2 : w16.cell? ⟨gb446, 2, none⟩ = some (.int .i64 ((rd_T58 l0 x3_1).f2)) := (blk_cell BK446.out 2).trans rfl; have hcz17_3 : w16.cell? ⟨gb446, 3, none⟩ = some (.int .i64 ((rd_T58 l0 x3_1).f3)) := (blk_cell BK446.out 3).trans rfl; have hfz17_0 := blk_frozen BK446.out 0; have hfz17_1 := blk_frozen BK446.out 1; have hfz17_2 := blk_frozen BK446.out 2; have hfz17_3 := blk_frozen BK446.out 3) | (go_at_call 130; (with_reducible refine (halideref6_near.calls ((rd_T58 l0 x3_1).f0) true _ A6.out).mono ?_); rintro e w' ⟨rfl, ⟨nd, rfl⟩⟩) | (go_at_call 130; (with_reducible refine (halideref6_near.calls ((rd_T58 l0 x3_1).f1) true _ A8.out).mono ?_); rintro e w' ⟨rfl, ⟨nd, rfl⟩⟩) | (go_at_call 130; (with_reducible refine (halideref6_near.calls ((rd_T58 l0 x3_1).f2) true _ A10.out).mono ?_); rintro e w' ⟨rfl, ⟨nd, rfl⟩⟩) | (go_at_call 130; (with_reducible refine (halideref6_near.calls ((rd_T58 l0 x3_1).f3) true _ A12.out).mono ?_); rintro e w' ⟨rfl, ⟨nd, rfl⟩⟩))
          go_roundg k1
          case measure => have := HK1.out; omega
          case rel => exact ⟨(wrap64 (x3_1 + 1)), (by first | rfl | (simp; done) | (simp [*]; done)), H', ⟨by have := HK1.out; omega⟩, ⟨by repeat (first | (with_reducible first | exact HB.out | apply below_alloc | apply pbd | apply below_drew1 | refine below_set ?_ GE446.out) | exact HB.out)⟩⟩
         ·replace c13 := Bool.eq_false_iff.mpr c13
          subst c13
          have H1 : (some 61) = some r := by rw [if_neg (show ¬ (false = true) by decide)] at H; exact H
          clear H
          have H := H1
          clear H1
          obtain rfl := Option.some.inj H
          have p445 : 0 ≤ (x3_1 : Int) := of_decide_eq_true (by first | (with_reducible assumption) | assumption)
          have q445 : x3_1 < (l0.length : Int) := of_decide_eq_true (by first | (with_reducible assumption) | assumption)
          obtain ⟨ad445, e445, hx445_0, hx445_1, hx445_2, hx445_3⟩ := at_T58 HR0.out x3_1 p445 q445
          cases e445
          replace hx445_0 := (HB.out.cell (World.block_lt_of_cell? w _ hx445_0)).trans hx445_0
          replace hx445_1 := (HB.out.cell (World.block_lt_of_cell? w _ hx445_1)).trans hx445_1
          replace hx445_2 := (HB.out.cell (World.block_lt_of_cell? w _ hx445_2)).trans hx445_2
          replace hx445_3 := (HB.out.cell (World.block_lt_of_cell? w _ hx445_3)).trans hx445_3
          replace p445 := eq_true p445
          replace q445 := eq_true q445
          go_wp2_with (first | ((with_reducible refine gate_dst (N := 4) rfl ?_); refine box_event ?hg (N := 4) ?hd (cs := #[.int .i64 0, .int .i64 0, .int .i64 0, .int .i64 0]) (t := 58) ?hr ?_; (case hd => rfl); (case hg => rfl); (case hr => first | (go_simp; done) | (go_simp; rfl)); intro gb446 hg w18 hbox hb; have n0_ := Aside0.mk (below_step (by repeat (first | (with_reducible first | exact HB.out | apply below_alloc | apply pbd | apply below_drew1) | exact HB.out)) hb); have n1_ := Aside0.mk (hbox); have n2_ := Aside0.mk ((by rw [hg]; exact (below_size (by repeat (first | (with_reducible first | exact HB.out | apply below_alloc | apply pbd | apply below_drew1) | exact HB.out))) : w.heap.size ≤ gb446)); have n3_ := Aside0.mk ((by rw [hg]; exact (below_size (by repeat (first | (with_reducible first | exact HB.out | apply below_alloc | apply pbd | apply below_drew1) | exact HB.out))) : w.heap.size ≤ gb446)); clear HB; have HB := n0_; have BK446 := n1_; have GW446 := n2_; have GE446 := n3_; clear n0_ n1_ n2_ n3_; clear hb hbox hg; have hcz19_0 : w18.cell? ⟨gb446, 0, none⟩ = some (.int .i64 0) := (blk_cell BK446.out 0).trans rfl; have hcz19_1 : w18.cell? ⟨gb446, 1, none⟩ = some (.int .i64 0) := (blk_cell BK446.out 1).trans rfl; have hcz19_2 : w18.cell? ⟨gb446, 2, none⟩ = some (.int .i64 0) := (blk_cell BK446.out 2).trans rfl; have hcz19_3 : w18.cell? ⟨gb446, 3, none⟩ = some (.int .i64 0) := (blk_cell BK446.out 3).trans rfl; have hfz19_0 := blk_frozen BK446.out 0; have hfz19_1 := blk_frozen BK446.out 1; have hfz19_2 := blk_frozen BK446.out 2; have hfz19_3 := blk_frozen BK446.out 3) | ((with_reducible refine gate_callee (f := 90) rfl ?_); refine goesL_ (some 16) rfl rfl Try.func90 (by kernel_rfl) rfl #[.agg #[.int .i64 ((rd_T58 l0 x3_1).f0), .int .i64 ((rd_T58 l0 x3_1).f1), .int .i64 ((rd_T58 l0 x3_1).f2), .int .i64 ((rd_T58 l0 x3_1).f3)]] rfl (by (try simp only [List.map_toArray, List.map_cons, List.map_nil]); first | done | rfl) ?_; (with_reducible refine (halideref6_some.calls ((rd_T58 l0 x3_1).f0) ((rd_T58 l0 x3_1).f1) ((rd_T58 l0 x3_1).f2) ((rd_T58 l0 x3_1).f3) true _ A4.out).mono ?_); rintro e w20 ⟨rfl, hb⟩; refine ⟨_, rfl, ?_⟩; have n0_ := Aside0.mk (blk_below (g := gb446) (o := .cells #[.int .i64 ((rd_T58 l0 x3_1).f0), .int .i64 ((rd_T58 l0 x3_1).f1), .int .i64 ((rd_T58 l0 x3_1).f2), .int .i64 ((rd_T58 l0 x3_1).f3)] 58 (0, 0)) (by (with_reducible repeat (first | refine blk_drewN ?_ _ | refine blk_drew ?_ | refine blk_alloc ?_ _)); refine blk_put (cs := #[.int .i64 ((rd_T58 l0 x3_1).f0), .int .i64 ((rd_T58 l0 x3_1).f1), .int .i64 ((rd_T58 l0 x3_1).f2), .int .i64 0]) ?_ 3 _ rfl; (with_reducible repeat (first | refine blk_drewN ?_ _ | refine blk_drew ?_ | refine blk_alloc ?_ _)); refine blk_put (cs := #[.int .i64 ((rd_T58 l0 x3_1).f0), .int .i64 ((rd_T58 l0 x3_1).f1), .int .i64 0, .int .i64 0]) ?_ 2 _ rfl; (with_reducible repeat (first | refine blk_drewN ?_ _ | refine blk_drew ?_ | refine blk_alloc ?_ _)); refine blk_put (cs := #[.int .i64 ((rd_T58 l0 x3_1).f0), .int .i64 0, .int .i64 0, .int .i64 0]) ?_ 1 _ rfl; (with_reducible repeat (first | refine blk_drewN ?_ _ | refine blk_drew ?_ | refine blk_alloc ?_ _)); refine blk_put (cs := #[.int .i64 0, .int .i64 0, .int .i64 0, .int .i64 0]) ?_ 0 _ rfl; (with_reducible repeat (first | refine blk_drewN ?_ _ | refine blk_drew ?_ | refine blk_alloc ?_ _)); exact BK446.out) hb); have n1_ := Aside0.mk (below_step (by repeat (first | (with_reducible first | exact HB.out | apply below_alloc | apply pbd | apply below_drew1 | refine below_set ?_ GE446.out) | exact HB.out)) hb); clear BK446; clear HB; have BK446 := n0_; have HB := n1_; clear n0_ n1_; (try clear hb); (try clear hb2); (try clear hk); (try clear hi); have hcz21_0 : w20.cell? ⟨gb446, 0, none⟩ = some (.int .i64 ((rd_T58 l0 x3_1).f0)) := (blk_cell BK446.out 0).trans rfl; have hcz21_1 : w20.cell? ⟨gb446, 1, none⟩ = some (.int .i64 ((rd_T58 l0 x3_1).f1)) := (blk_cell BK446.out 1).trans rfl; have hcz21_2 : w20.cell? ⟨gb446, 2, none⟩ = some (.int .i64 ((rd_T58 l0 x3_1).f2)) := (blk_cell BK446.out 2).trans rfl; have hcz21_3 : w20.cell? ⟨gb446, 3, none⟩ = some (.int .i64 ((rd_T58 l0 x3_1).f3)) := (blk_cell BK446.out 3).trans rfl; have hfz21_0 := blk_frozen BK446.out 0; have hfz21_1 := blk_frozen BK446.out 1; have hfz21_2 := blk_frozen BK446.out 2; have hfz21_3 := blk_frozen BK446.out 3) | (go_at_call 130; (with_reducible refine (halideref6_near.calls ((rd_T58 l0 x3_1).f0) true _ A6.out).mono ?_); rintro e w' ⟨rfl, ⟨nd, rfl⟩⟩) | (go_at_call 130; (with_reducible refine (halideref6_near.calls ((rd_T58 l0 x3_1).f1) true _ A8.out).mono ?_); rintro e w' ⟨rfl, ⟨nd, rfl⟩⟩) | (go_at_call 130; (with_reducible refine (halideref6_near.calls ((rd_T58 l0 x3_1).f2) true _ A10.out).mono ?_); rintro e w' ⟨rfl, ⟨nd, rfl⟩⟩) | (go_at_call 130; (with_reducible refine (halideref6_near.calls ((rd_T58 l0 x3_1).f3) false _ A12.out).mono ?_); rintro e w' ⟨rfl, ⟨nd, rfl⟩⟩))
          go_ret
          exact ⟨by first | rfl | (simp [errW_none, errW_some] <;> rfl) | (simp [*, errW_none, errW_some] <;> rfl), by repeat (first | (with_reducible first | exact HB.out | apply below_alloc | apply pbd | apply below_drew1 | refine below_set ?_ GE446.out) | exact HB.out)⟩
        ·replace c11 := Bool.eq_false_iff.mpr c11
         subst c11
         have H1 : (some 61) = some r := by rw [if_neg (show ¬ (false = true) by decide)] at H; exact H
         clear H
         have H := H1
         clear H1
         obtain rfl := Option.some.inj H
         have p445 : 0 ≤ (x3_1 : Int) := of_decide_eq_true (by first | (with_reducible assumption) | assumption)
         have q445 : x3_1 < (l0.length : Int) := of_decide_eq_true (by first | (with_reducible assumption) | assumption)
         obtain ⟨ad445, e445, hx445_0, hx445_1, hx445_2, hx445_3⟩ := at_T58 HR0.out x3_1 p445 q445
         cases e445
         replace hx445_0 := (HB.out.cell (World.block_lt_of_cell? w _ hx445_0)).trans hx445_0
         replace hx445_1 := (HB.out.cell (World.block_lt_of_cell? w _ hx445_1)).trans hx445_1
         replace hx445_2 := (HB.out.cell (World.block_lt_of_cell? w _ hx445_2)).trans hx445_2
         replace hx445_3 := (HB.out.cell (World.block_lt_of_cell? w _ hx445_3)).trans hx445_3
         replace p445 := eq_true p445
         replace q445 := eq_true q445
         go_wp2_with (first | ((with_reducible refine gate_dst (N := 4) rfl ?_); refine box_event ?hg (N := 4) ?hd (cs := #[.int .i64 0, .int .i64 0, .int .i64 0, .int .i64 0]) (t := 58) ?hr ?_; (case hd => rfl); (case hg => rfl); (case hr => first | (go_simp; done) | (go_simp; rfl)); intro gb446 hg w22 hbox hb; have n0_ := Aside0.mk (below_step (by repeat (first | (with_reducible first | exact HB.out | apply below_alloc | apply pbd | apply below_drew1) | exact HB.out)) hb); have n1_ := Aside0.mk (hbox); have n2_ := Aside0.mk ((by rw [hg]; exact (below_size (by repeat (first | (with_reducible first | exact HB.out | apply below_alloc | apply pbd | apply below_drew1) | exact HB.out))) : w.heap.size ≤ gb446)); have n3_ := Aside0.mk ((by rw [hg]; exact (below_size (by repeat (first | (with_reducible first | exact HB.out | apply below_alloc | apply pbd | apply below_drew1) | exact HB.out))) : w.heap.size ≤ gb446)); clear HB; have HB := n0_; have BK446 := n1_; have GW446 := n2_; have GE446 := n3_; clear n0_ n1_ n2_ n3_; clear hb hbox hg; have hcz23_0 : w22.cell? ⟨gb446, 0, none⟩ = some (.int .i64 0) := (blk_cell BK446.out 0).trans rfl; have hcz23_1 : w22.cell? ⟨gb446, 1, none⟩ = some (.int .i64 0) := (blk_cell BK446.out 1).trans rfl; have hcz23_2 : w22.cell? ⟨gb446, 2, none⟩ = some (.int .i64 0) := (blk_cell BK446.out 2).trans rfl; have hcz23_3 : w22.cell? ⟨gb446, 3, none⟩ = some (.int .i64 0) := (blk_cell BK446.out 3).trans rfl; have hfz23_0 := blk_frozen BK446.out 0; have hfz23_1 := blk_frozen BK446.out 1; have hfz23_2 := blk_frozen BK446.out 2; have hfz23_3 := blk_frozen BK446.out 3) | ((with_reducible refine gate_callee (f := 90) rfl ?_); refine goesL_ (some 16) rfl rfl Try.func90 (by kernel_rfl) rfl #[.agg #[.int .i64 ((rd_T58 l0 x3_1).f0), .int .i64 ((rd_T58 l0 x3_1).f1), .int .i64 ((rd_T58 l0 x3_1).f2), .int .i64 ((rd_T58 l0 x3_1).f3)]] rfl (by (try simp only [List.map_toArray, List.map_cons, List.map_nil]); first | done | rfl) ?_; (with_reducible refine (halideref6_some.calls ((rd_T58 l0 x3_1).f0) ((rd_T58 l0 x3_1).f1) ((rd_T58 l0 x3_1).f2) ((rd_T58 l0 x3_1).f3) true _ A4.out).mono ?_); rintro e w24 ⟨rfl, hb⟩; refine ⟨_, rfl, ?_⟩; have n0_ := Aside0.mk (blk_below (g := gb446) (o := .cells #[.int .i64 ((rd_T58 l0 x3_1).f0), .int .i64 ((rd_T58 l0 x3_1).f1), .int .i64 ((rd_T58 l0 x3_1).f2), .int .i64 ((rd_T58 l0 x3_1).f3)] 58 (0, 0)) (by (with_reducible repeat (first | refine blk_drewN ?_ _ | refine blk_drew ?_ | refine blk_alloc ?_ _)); refine blk_put (cs := #[.int .i64 ((rd_T58 l0 x3_1).f0), .int .i64 ((rd_T58 l0 x3_1).f1), .int .i64 ((rd_T58 l0 x3_1).f2), .int .i64 0]) ?_ 3 _ rfl; (with_reducible repeat (first | refine blk_drewN ?_ _ | refine blk_drew ?_ | refine blk_alloc ?_ _)); refine blk_put (cs := #[.int .i64 ((rd_T58 l0 x3_1).f0), .int .i64 ((rd_T58 l0 x3_1).f1), .int .i64 0, .int .i64 0]) ?_ 2 _ rfl; (with_reducible repeat (first | refine blk_drewN ?_ _ | refine blk_drew ?_ | refine blk_alloc ?_ _)); refine blk_put (cs := #[.int .i64 ((rd_T58 l0 x3_1).f0), .int .i64 0, .int .i64 0, .int .i64 0]) ?_ 1 _ rfl; (with_reducible repeat (first | refine blk_drewN ?_ _ | refine blk_drew ?_ | refine blk_alloc ?_ _)); refine blk_put (cs := #[.int .i64 0, .int .i64 0, .int .i64 0, .int .i64 0]) ?_ 0 _ rfl; (with_reducible repeat (first | refine blk_drewN ?_ _ | refine blk_drew ?_ | refine blk_alloc ?_ _)); exact BK446.out) hb); have n1_ := Aside0.mk (below_step (by repeat (first | (with_reducible first | exact HB.out | apply below_alloc | apply pbd | apply below_drew1 | refine below_set ?_ GE446.out) | exact HB.out)) hb); clear BK446; clear HB; have BK446 := n0_; have HB := n1_; clear n0_ n1_; (try clear hb); (try clear hb2); (try clear hk); (try clear hi); have hcz25_0 : w24.cell? ⟨gb446, 0, none⟩ = some (.int .i64 ((rd_T58 l0 x3_1).f0)) := (blk_cell BK446.out 0).trans rfl; have hcz25_1 : w24.cell? ⟨gb446, 1, none⟩ = some (.int .i64 ((rd_T58 l0 x3_1).f1)) := (blk_cell BK446.out 1).trans rfl; have hcz25_2 : w24.cell? ⟨gb446, 2, none⟩ = some (.int .i64 ((rd_T58 l0 x3_1).f2)) := (blk_cell BK446.out 2).trans rfl; have hcz25_3 : w24.cell? ⟨gb446, 3, none⟩ = some (.int .i64 ((rd_T58 l0 x3_1).f3)) := (blk_cell BK446.out 3).trans rfl; have hfz25_0 := blk_frozen BK446.out 0; have hfz25_1 := blk_frozen BK446.out 1; have hfz25_2 := blk_frozen BK446.out 2; have hfz25_3 := blk_frozen BK446.out 3) | (go_at_call 130; (with_reducible refine (halideref6_near.calls ((rd_T58 l0 x3_1).f0) true _ A6.out).mono ?_); rintro e w' ⟨rfl, ⟨nd, rfl⟩⟩) | (go_at_call 130; (with_reducible refine (halideref6_near.calls ((rd_T58 l0 x3_1).f1) true _ A8.out).mono ?_); rintro e w' ⟨rfl, ⟨nd, rfl⟩⟩) | (go_at_call 130; (with_reducible refine (halideref6_near.calls ((rd_T58 l0 x3_1).f2) false _ A10.out).mono ?_); rintro e w' ⟨rfl, ⟨nd, rfl⟩⟩))
         go_ret
         exact ⟨by first | rfl | (simp [errW_none, errW_some] <;> rfl) | (simp [*, errW_none, errW_some] <;> rfl), by repeat (first | (with_reducible first | exact HB.out | apply below_alloc | apply pbd | apply below_drew1 | refine below_set ?_ GE446.out) | exact HB.out)⟩
       ·replace c9 := Bool.eq_false_iff.mpr c9
        subst c9
        have H1 : (some 61) = some r := by rw [if_neg (show ¬ (false = true) by decide)] at H; exact H
        clear H
        have H := H1
        clear H1
        obtain rfl := Option.some.inj H
        have p445 : 0 ≤ (x3_1 : Int) := of_decide_eq_true (by first | (with_reducible assumption) | assumption)
        have q445 : x3_1 < (l0.length : Int) := of_decide_eq_true (by first | (with_reducible assumption) | assumption)
        obtain ⟨ad445, e445, hx445_0, hx445_1, hx445_2, hx445_3⟩ := at_T58 HR0.out x3_1 p445 q445
        cases e445
        replace hx445_0 := (HB.out.cell (World.block_lt_of_cell? w _ hx445_0)).trans hx445_0
        replace hx445_1 := (HB.out.cell (World.block_lt_of_cell? w _ hx445_1)).trans hx445_1
        replace hx445_2 := (HB.out.cell (World.block_lt_of_cell? w _ hx445_2)).trans hx445_2
        replace hx445_3 := (HB.out.cell (World.block_lt_of_cell? w _ hx445_3)).trans hx445_3
        replace p445 := eq_true p445
        replace q445 := eq_true q445
        go_wp2_with (first | ((with_reducible refine gate_dst (N := 4) rfl ?_); refine box_event ?hg (N := 4) ?hd (cs := #[.int .i64 0, .int .i64 0, .int .i64 0, .int .i64 0]) (t := 58) ?hr ?_; (case hd => rfl); (case hg => rfl); (case hr => first | (go_simp; done) | (go_simp; rfl)); intro gb446 hg w26 hbox hb; have n0_ := Aside0.mk (below_step (by repeat (first | (with_reducible first | exact HB.out | apply below_alloc | apply pbd | apply below_drew1) | exact HB.out)) hb); have n1_ := Aside0.mk (hbox); have n2_ := Aside0.mk ((by rw [hg]; exact (below_size (by repeat (first | (with_reducible first | exact HB.out | apply below_alloc | apply pbd | apply below_drew1) | exact HB.out))) : w.heap.size ≤ gb446)); have n3_ := Aside0.mk ((by rw [hg]; exact (below_size (by repeat (first | (with_reducible first | exact HB.out | apply below_alloc | apply pbd | apply below_drew1) | exact HB.out))) : w.heap.size ≤ gb446)); clear HB; have HB := n0_; have BK446 := n1_; have GW446 := n2_; have GE446 := n3_; clear n0_ n1_ n2_ n3_; clear hb hbox hg; have hcz27_0 : w26.cell? ⟨gb446, 0, none⟩ = some (.int .i64 0) := (blk_cell BK446.out 0).trans rfl; have hcz27_1 : w26.cell? ⟨gb446, 1, none⟩ = some (.int .i64 0) := (blk_cell BK446.out 1).trans rfl; have hcz27_2 : w26.cell? ⟨gb446, 2, none⟩ = some (.int .i64 0) := (blk_cell BK446.out 2).trans rfl; have hcz27_3 : w26.cell? ⟨gb446, 3, none⟩ = some (.int .i64 0) := (blk_cell BK446.out 3).trans rfl; have hfz27_0 := blk_frozen BK446.out 0; have hfz27_1 := blk_frozen BK446.out 1; have hfz27_2 := blk_frozen BK446.out 2; have hfz27_3 := blk_frozen BK446.out 3) | ((with_reducible refine gate_callee (f := 90) rfl ?_); refine goesL_ (some 16) rfl rfl Try.func90 (by kernel_rfl) rfl #[.agg #[.int .i64 ((rd_T58 l0 x3_1).f0), .int .i64 ((rd_T58 l0 x3_1).f1), .int .i64 ((rd_T58 l0 x3_1).f2), .int .i64 ((rd_T58 l0 x3_1).f3)]] rfl (by (try simp only [List.map_toArray, List.map_cons, List.map_nil]); first | done | rfl) ?_; (with_reducible refine (halideref6_some.calls ((rd_T58 l0 x3_1).f0) ((rd_T58 l0 x3_1).f1) ((rd_T58 l0 x3_1).f2) ((rd_T58 l0 x3_1).f3) true _ A4.out).mono ?_); rintro e w28 ⟨rfl, hb⟩; refine ⟨_, rfl, ?_⟩; have n0_ := Aside0.mk (blk_below (g := gb446) (o := .cells #[.int .i64 ((rd_T58 l0 x3_1).f0), .int .i64 ((rd_T58 l0 x3_1).f1), .int .i64 ((rd_T58 l0 x3_1).f2), .int .i64 ((rd_T58 l0 x3_1).f3)] 58 (0, 0)) (by (with_reducible repeat (first | refine blk_drewN ?_ _ | refine blk_drew ?_ | refine blk_alloc ?_ _)); refine blk_put (cs := #[.int .i64 ((rd_T58 l0 x3_1).f0), .int .i64 ((rd_T58 l0 x3_1).f1), .int .i64 ((rd_T58 l0 x3_1).f2), .int .i64 0]) ?_ 3 _ rfl; (with_reducible repeat (first | refine blk_drewN ?_ _ | refine blk_drew ?_ | refine blk_alloc ?_ _)); refine blk_put (cs := #[.int .i64 ((rd_T58 l0 x3_1).f0), .int .i64 ((rd_T58 l0 x3_1).f1), .int .i64 0, .int .i64 0]) ?_ 2 _ rfl; (with_reducible repeat (first | refine blk_drewN ?_ _ | refine blk_drew ?_ | refine blk_alloc ?_ _)); refine blk_put (cs := #[.int .i64 ((rd_T58 l0 x3_1).f0), .int .i64 0, .int .i64 0, .int .i64 0]) ?_ 1 _ rfl; (with_reducible repeat (first | refine blk_drewN ?_ _ | refine blk_drew ?_ | refine blk_alloc ?_ _)); refine blk_put (cs := #[.int .i64 0, .int .i64 0, .int .i64 0, .int .i64 0]) ?_ 0 _ rfl; (with_reducible repeat (first | refine blk_drewN ?_ _ | refine blk_drew ?_ | refine blk_alloc ?_ _)); exact BK446.out) hb); have n1_ := Aside0.mk (below_step (by repeat (first | (with_reducible first | exact HB.out | apply below_alloc | apply pbd | apply below_drew1 | refine below_set ?_ GE446.out) | exact HB.out)) hb); clear BK446; clear HB; have BK446 := n0_; have HB := n1_; clear n0_ n1_; (try clear hb); (try clear hb2); (try clear hk); (try clear hi); have hcz29_0 : w28.cell? ⟨gb446, 0, none⟩ = some (.int .i64 ((rd_T58 l0 x3_1).f0)) := (blk_cell BK446.out 0).trans rfl; have hcz29_1 : w28.cell? ⟨gb446, 1, none⟩ = some (.int .i64 ((rd_T58 l0 x3_1).f1)) := (blk_cell BK446.out 1).trans rfl; have hcz29_2 : w28.cell? ⟨gb446, 2, none⟩ = some (.int .i64 ((rd_T58 l0 x3_1).f2)) := (blk_cell BK446.out 2).trans rfl; have hcz29_3 : w28.cell? ⟨gb446, 3, none⟩ = some (.int .i64 ((rd_T58 l0 x3_1).f3)) := (blk_cell BK446.out 3).trans rfl; have hfz29_0 := blk_frozen BK446.out 0; have hfz29_1 := blk_frozen BK446.out 1; have hfz29_2 := blk_frozen BK446.out 2; have hfz29_3 := blk_frozen BK446.out 3) | (go_at_call 130; (with_reducible refine (halideref6_near.calls ((rd_T58 l0 x3_1).f0) true _ A6.out).mono ?_); rintro e w' ⟨rfl, ⟨nd, rfl⟩⟩) | (go_at_call 130; (with_reducible refine (halideref6_near.calls ((rd_T58 l0 x3_1).f1) false _ A8.out).mono ?_); rintro e w' ⟨rfl, ⟨nd, rfl⟩⟩))
        go_ret
        exact ⟨by first | rfl | (simp [errW_none, errW_some] <;> rfl) | (simp [*, errW_none, errW_some] <;> rfl), by repeat (first | (with_reducible first | exact HB.out | apply below_alloc | apply pbd | apply below_drew1 | refine below_set ?_ GE446.out) | exact HB.out)⟩
      ·replace c7 := Bool.eq_false_iff.mpr c7
       subst c7
       have H1 : (some 61) = some r := by rw [if_neg (show ¬ (false = true) by decide)] at H; exact H
       clear H
       have H := H1
       clear H1
       obtain rfl := Option.some.inj H
       have p445 : 0 ≤ (x3_1 : Int) := of_decide_eq_true (by first | (with_reducible assumption) | assumption)
       have q445 : x3_1 < (l0.length : Int) := of_decide_eq_true (by first | (with_reducible assumption) | assumption)
       obtain ⟨ad445, e445, hx445_0, hx445_1, hx445_2, hx445_3⟩ := at_T58 HR0.out x3_1 p445 q445
       cases e445
       replace hx445_0 := (HB.out.cell (World.block_lt_of_cell? w _ hx445_0)).trans hx445_0
       replace hx445_1 := (HB.out.cell (World.block_lt_of_cell? w _ hx445_1)).trans hx445_1
       replace hx445_2 := (HB.out.cell (World.block_lt_of_cell? w _ hx445_2)).trans hx445_2
       replace hx445_3 := (HB.out.cell (World.block_lt_of_cell? w _ hx445_3)).trans hx445_3
       replace p445 := eq_true p445
       replace q445 := eq_true q445
       go_wp2_with (first | ((with_reducible refine gate_dst (N := 4) rfl ?_); refine box_event ?hg (N := 4) ?hd (cs := #[.int .i64 0, .int .i64 0, .int .i64 0, .int .i64 0]) (t := 58) ?hr ?_; (case hd => rfl); (case hg => rfl); (case hr => first | (go_simp; done) | (go_simp; rfl)); intro gb446 hg w30 hbox hb; have n0_ := Aside0.mk (below_step (by repeat (first | (with_reducible first | exact HB.out | apply below_alloc | apply pbd | apply below_drew1) | exact HB.out)) hb); have n1_ := Aside0.mk (hbox); have n2_ := Aside0.mk ((by rw [hg]; exact (below_size (by repeat (first | (with_reducible first | exact HB.out | apply below_alloc | apply pbd | apply below_drew1) | exact HB.out))) : w.heap.size ≤ gb446)); have n3_ := Aside0.mk ((by rw [hg]; exact (below_size (by repeat (first | (with_reducible first | exact HB.out | apply below_alloc | apply pbd | apply below_drew1) | exact HB.out))) : w.heap.size ≤ gb446)); clear HB; have HB := n0_; have BK446 := n1_; have GW446 := n2_; have GE446 := n3_; clear n0_ n1_ n2_ n3_; clear hb hbox hg; have hcz31_0 : w30.cell? ⟨gb446, 0, none⟩ = some (.int .i64 0) := (blk_cell BK446.out 0).trans rfl; have hcz31_1 : w30.cell? ⟨gb446, 1, none⟩ = some (.int .i64 0) := (blk_cell BK446.out 1).trans rfl; have hcz31_2 : w30.cell? ⟨gb446, 2, none⟩ = some (.int .i64 0) := (blk_cell BK446.out 2).trans rfl; have hcz31_3 : w30.cell? ⟨gb446, 3, none⟩ = some (.int .i64 0) := (blk_cell BK446.out 3).trans rfl; have hfz31_0 := blk_frozen BK446.out 0; have hfz31_1 := blk_frozen BK446.out 1; have hfz31_2 := blk_frozen BK446.out 2; have hfz31_3 := blk_frozen BK446.out 3) | ((with_reducible refine gate_callee (f := 90) rfl ?_); refine goesL_ (some 16) rfl rfl Try.func90 (by kernel_rfl) rfl #[.agg #[.int .i64 ((rd_T58 l0 x3_1).f0), .int .i64 ((rd_T58 l0 x3_1).f1), .int .i64 ((rd_T58 l0 x3_1).f2), .int .i64 ((rd_T58 l0 x3_1).f3)]] rfl (by (try simp only [List.map_toArray, List.map_cons, List.map_nil]); first | done | rfl) ?_; (with_reducible refine (halideref6_some.calls ((rd_T58 l0 x3_1).f0) ((rd_T58 l0 x3_1).f1) ((rd_T58 l0 x3_1).f2) ((rd_T58 l0 x3_1).f3) true _ A4.out).mono ?_); rintro e w32 ⟨rfl, hb⟩; refine ⟨_, rfl, ?_⟩; have n0_ := Aside0.mk (blk_below (g := gb446) (o := .cells #[.int .i64 ((rd_T58 l0 x3_1).f0), .int .i64 ((rd_T58 l0 x3_1).f1), .int .i64 ((rd_T58 l0 x3_1).f2), .int .i64 ((rd_T58 l0 x3_1).f3)] 58 (0, 0)) (by (with_reducible repeat (first | refine blk_drewN ?_ _ | refine blk_drew ?_ | refine blk_alloc ?_ _)); refine blk_put (cs := #[.int .i64 ((rd_T58 l0 x3_1).f0), .int .i64 ((rd_T58 l0 x3_1).f1), .int .i64 ((rd_T58 l0 x3_1).f2), .int .i64 0]) ?_ 3 _ rfl; (with_reducible repeat (first | refine blk_drewN ?_ _ | refine blk_drew ?_ | refine blk_alloc ?_ _)); refine blk_put (cs := #[.int .i64 ((rd_T58 l0 x3_1).f0), .int .i64 ((rd_T58 l0 x3_1).f1), .int .i64 0, .int .i64 0]) ?_ 2 _ rfl; (with_reducible repeat (first | refine blk_drewN ?_ _ | refine blk_drew ?_ | refine blk_alloc ?_ _)); refine blk_put (cs := #[.int .i64 ((rd_T58 l0 x3_1).f0), .int .i64 0, .int .i64 0, .int .i64 0]) ?_ 1 _ rfl; (with_reducible repeat (first | refine blk_drewN ?_ _ | refine blk_drew ?_ | refine blk_alloc ?_ _)); refine blk_put (cs := #[.int .i64 0, .int .i64 0, .int .i64 0, .int .i64 0]) ?_ 0 _ rfl; (with_reducible repeat (first | refine blk_drewN ?_ _ | refine blk_drew ?_ | refine blk_alloc ?_ _)); exact BK446.out) hb); have n1_ := Aside0.mk (below_step (by repeat (first | (with_reducible first | exact HB.out | apply below_alloc | apply pbd | apply below_drew1 | refine below_set ?_ GE446.out) | exact HB.out)) hb); clear BK446; clear HB; have BK446 := n0_; have HB := n1_; clear n0_ n1_; (try clear hb); (try clear hb2); (try clear hk); (try clear hi); have hcz33_0 : w32.cell? ⟨gb446, 0, none⟩ = some (.int .i64 ((rd_T58 l0 x3_1).f0)) := (blk_cell BK446.out 0).trans rfl; have hcz33_1 : w32.cell? ⟨gb446, 1, none⟩ = some (.int .i64 ((rd_T58 l0 x3_1).f1)) := (blk_cell BK446.out 1).trans rfl; have hcz33_2 : w32.cell? ⟨gb446, 2, none⟩ = some (.int .i64 ((rd_T58 l0 x3_1).f2)) := (blk_cell BK446.out 2).trans rfl; have hcz33_3 : w32.cell? ⟨gb446, 3, none⟩ = some (.int .i64 ((rd_T58 l0 x3_1).f3)) := (blk_cell BK446.out 3).trans rfl; have hfz33_0 := blk_frozen BK446.out 0; have hfz33_1 := blk_frozen BK446.out 1; have hfz33_2 := blk_frozen BK446.out 2; have hfz33_3 := blk_frozen BK446.out 3) | (go_at_call 130; (with_reducible refine (halideref6_near.calls ((rd_T58 l0 x3_1).f0) false _ A6.out).mono ?_); rintro e w' ⟨rfl, ⟨nd, rfl⟩⟩))
       go_ret
       exact ⟨by first | rfl | (simp [errW_none, errW_some] <;> rfl) | (simp [*, errW_none, errW_some] <;> rfl), by repeat (first | (with_reducible first | exact HB.out | apply below_alloc | apply pbd | apply below_drew1 | refine below_set ?_ GE446.out) | exact HB.out)⟩
     ·replace c5 := Bool.eq_false_iff.mpr c5
      subst c5
      have H1 : (halideref6_far.l0 k1 l0 (wrap64 (x3_1 + 1))) = some r := by rw [if_neg (show ¬ (false = true) by decide)] at H; exact H
      clear H
      have H := H1
      clear H1
      have H' := Aside0.mk H
      clear H
      have p445 : 0 ≤ (x3_1 : Int) := of_decide_eq_true (by first | (with_reducible assumption) | assumption)
      have q445 : x3_1 < (l0.length : Int) := of_decide_eq_true (by first | (with_reducible assumption) | assumption)
      obtain ⟨ad445, e445, hx445_0, hx445_1, hx445_2, hx445_3⟩ := at_T58 HR0.out x3_1 p445 q445
      cases e445
      replace hx445_0 := (HB.out.cell (World.block_lt_of_cell? w _ hx445_0)).trans hx445_0
      replace hx445_1 := (HB.out.cell (World.block_lt_of_cell? w _ hx445_1)).trans hx445_1
      replace hx445_2 := (HB.out.cell (World.block_lt_of_cell? w _ hx445_2)).trans hx445_2
      replace hx445_3 := (HB.out.cell (World.block_lt_of_cell? w _ hx445_3)).trans hx445_3
      replace p445 := eq_true p445
      replace q445 := eq_true q445
      go_wp2_with (first | ((with_reducible refine gate_dst (N := 4) rfl ?_); refine box_event ?hg (N := 4) ?hd (cs := #[.int .i64 0, .int .i64 0, .int .i64 0, .int .i64 0]) (t := 58) ?hr ?_; (case hd => rfl); (case hg => rfl); (case hr => first | (go_simp; done) | (go_simp; rfl)); intro gb446 hg w34 hbox hb; have n0_ := Aside0.mk (below_step (by repeat (first | (with_reducible first | exact HB.out | apply below_alloc | apply pbd | apply below_drew1) | exact HB.out)) hb); have n1_ := Aside0.mk (hbox); have n2_ := Aside0.mk ((by rw [hg]; exact (below_size (by repeat (first | (with_reducible first | exact HB.out | apply below_alloc | apply pbd | apply below_drew1) | exact HB.out))) : w.heap.size ≤ gb446)); have n3_ := Aside0.mk ((by rw [hg]; exact (below_size (by repeat (first | (with_reducible first | exact HB.out | apply below_alloc | apply pbd | apply below_drew1) | exact HB.out))) : w.heap.size ≤ gb446)); clear HB; have HB := n0_; have BK446 := n1_; have GW446 := n2_; have GE446 := n3_; clear n0_ n1_ n2_ n3_; clear hb hbox hg; have hcz35_0 : w34.cell? ⟨gb446, 0, none⟩ = some (.int .i64 0) := (blk_cell BK446.out 0).trans rfl; have hcz35_1 : w34.cell? ⟨gb446, 1, none⟩ = some (.int .i64 0) := (blk_cell BK446.out 1).trans rfl; have hcz35_2 : w34.cell? ⟨gb446, 2, none⟩ = some (.int .i64 0) := (blk_cell BK446.out 2).trans rfl; have hcz35_3 : w34.cell? ⟨gb446, 3, none⟩ = some (.int .i64 0) := (blk_cell BK446.out 3).trans rfl; have hfz35_0 := blk_frozen BK446.out 0; have hfz35_1 := blk_frozen BK446.out 1; have hfz35_2 := blk_frozen BK446.out 2; have hfz35_3 := blk_frozen BK446.out 3) | ((with_reducible refine gate_callee (f := 90) rfl ?_); refine goesL_ (some 16) rfl rfl Try.func90 (by kernel_rfl) rfl #[.agg #[.int .i64 ((rd_T58 l0 x3_1).f0), .int .i64 ((rd_T58 l0 x3_1).f1), .int .i64 ((rd_T58 l0 x3_1).f2), .int .i64 ((rd_T58 l0 x3_1).f3)]] rfl (by (try simp only [List.map_toArray, List.map_cons, List.map_nil]); first | done | rfl) ?_; (with_reducible refine (halideref6_some.calls ((rd_T58 l0 x3_1).f0) ((rd_T58 l0 x3_1).f1) ((rd_T58 l0 x3_1).f2) ((rd_T58 l0 x3_1).f3) false _ A4.out).mono ?_); rintro e w36 ⟨rfl, hb⟩; refine ⟨_, rfl, ?_⟩; have n0_ := Aside0.mk (blk_below (g := gb446) (o := .cells #[.int .i64 ((rd_T58 l0 x3_1).f0), .int .i64 ((rd_T58 l0 x3_1).f1), .int .i64 ((rd_T58 l0 x3_1).f2), .int .i64 ((rd_T58 l0 x3_1).f3)] 58 (0, 0)) (by (with_reducible repeat (first | refine blk_drewN ?_ _ | refine blk_drew ?_ | refine blk_alloc ?_ _)); refine blk_put (cs := #[.int .i64 ((rd_T58 l0 x3_1).f0), .int .i64 ((rd_T58 l0 x3_1).f1), .int .i64 ((rd_T58 l0 x3_1).f2), .int .i64 0]) ?_ 3 _ rfl; (with_reducible repeat (first | refine blk_drewN ?_ _ | refine blk_drew ?_ | refine blk_alloc ?_ _)); refine blk_put (cs := #[.int .i64 ((rd_T58 l0 x3_1).f0), .int .i64 ((rd_T58 l0 x3_1).f1), .int .i64 0, .int .i64 0]) ?_ 2 _ rfl; (with_reducible repeat (first | refine blk_drewN ?_ _ | refine blk_drew ?_ | refine blk_alloc ?_ _)); refine blk_put (cs := #[.int .i64 ((rd_T58 l0 x3_1).f0), .int .i64 0, .int .i64 0, .int .i64 0]) ?_ 1 _ rfl; (with_reducible repeat (first | refine blk_drewN ?_ _ | refine blk_drew ?_ | refine blk_alloc ?_ _)); refine blk_put (cs := #[.int .i64 0, .int .i64 0, .int .i64 0, .int .i64 0]) ?_ 0 _ rfl; (with_reducible repeat (first | refine blk_drewN ?_ _ | refine blk_drew ?_ | refine blk_alloc ?_ _)); exact BK446.out) hb); have n1_ := Aside0.mk (below_step (by repeat (first | (with_reducible first | exact HB.out | apply below_alloc | apply pbd | apply below_drew1 | refine below_set ?_ GE446.out) | exact HB.out)) hb); clear BK446; clear HB; have BK446 := n0_; have HB := n1_; clear n0_ n1_; (try clear hb); (try clear hb2); (try clear hk); (try clear hi)))
      go_roundg k1
      case measure => have := HK1.out; omega
      case rel => exact ⟨(wrap64 (x3_1 + 1)), (by first | rfl | (simp; done) | (simp [*]; done)), H', ⟨by have := HK1.out; omega⟩, ⟨by repeat (first | (with_reducible first | exact HB.out | apply below_alloc | apply pbd | apply below_drew1 | refine below_set ?_ GE446.out) | exact HB.out)⟩⟩
    ·rw [if_neg c3] at H
     exact absurd H (by simp)
   ·rw [if_neg c2] at H
    have c2b0 : decide (x3_1 < (l0.length : Int)) = false := decide_eq_false c2
    clear c2
    obtain rfl := Option.some.inj H
    go_wp2
    go_ret
    exact ⟨by first | rfl | (simp [errW_none, errW_some] <;> rfl) | (simp [*, errW_none, errW_some] <;> rfl), by repeat (first | (with_reducible first | exact HB.out | apply below_alloc | apply pbd | apply below_drew1) | exact HB.out)⟩
def halideref6_Right.f (k : Nat) (l0 : List (S58)) : Option (Int) := if (l0.length : Int) > 4096 then (some 60) else ((halideref6_far.f k l0).bind fun t452 => (some t452))
set_option maxHeartbeats 8000000 in
set_option maxRecDepth 100000 in
theorem halideref6_Right.calls (k : Nat) (A0 : Option Addr) (c0 : Nat) (l0 : List (S58)) (r : Int) (w : World) (hr0 : Kd.C k58 w A0 l0.length l0) (hc0 : l0.length ≤ c0) (h : halideref6_Right.f k l0 = some r) :
  Calls Try.prog 76 #[.slice A0 l0.length c0] w fun e w' => e = .returned (.int .i64 r) ∧ Below w.heap.size w w' := by
 have HR0 := Aside0.mk hr0
 have HC0 := Aside0.mk hc0
 clear hr0 hc0
 have HB := Aside0.mk (Below.refl w.heap.size w)
 have H : (if (l0.length : Int) > 4096 then (some 60) else ((halideref6_far.f k l0).bind fun t452 => (some t452))) = some r := h
 clear h
 by_cases c2 : (l0.length : Int) > 4096
 ·rw [if_pos c2] at H
  have c2b0 : decide (4096 < (l0.length : Int)) = true := decide_eq_true c2
  have c2b1 : decide (4096 < l0.length) = true := decide_eq_true (by omega)
  clear c2
  obtain rfl := Option.some.inj H
  go_enter Try.func76, Try.ntmps76
  go_wp2
  go_ret
  exact ⟨by first | rfl | (simp [errW_none, errW_some] <;> rfl) | (simp [*, errW_none, errW_some] <;> rfl), by repeat (first | (with_reducible first | exact HB.out | apply below_alloc | apply pbd | apply below_drew1) | exact HB.out)⟩
 ·rw [if_neg c2] at H
  have c2b0 : decide (4096 < (l0.length : Int)) = false := decide_eq_false c2
  have c2b1 : decide (4096 < l0.length) = false := decide_eq_false (by omega)
  clear c2
  replace H := Option.bind_eq_some_iff.mp H
  obtain ⟨t452, A30, H⟩ := H
  replace H : (some t452) = some r := H
  have A3 := Aside0.mk A30
  clear A30
  obtain rfl := Option.some.inj H
  go_enter Try.func76, Try.ntmps76
  go_wp2_with (first | ((with_reducible refine gate_callee (f := 78) rfl ?_); refine goesL_ (some 7) rfl rfl Try.func78 (by kernel_rfl) rfl #[.slice A0 l0.length c0] rfl (by (try simp only [List.map_toArray, List.map_cons, List.map_nil]); first | done | rfl) ?_; (with_reducible refine (halideref6_far.calls k _ _ l0 t452 _ ?side1 ?side2 A3.out).mono ?_); (case side1 => repeat (first | exact HR0.out | (with_reducible refine Kd.C_alloc ?_ _) | (with_reducible refine Kd.C_drewN ?_ _) | (with_reducible refine Kd.C_drew ?_))); (case side2 => exact HC0.out); rintro e w4 ⟨rfl, hb⟩; refine ⟨_, rfl, ?_⟩; have n0_ := Aside0.mk (below_step (by repeat (first | (with_reducible first | exact HB.out | apply below_alloc | apply pbd | apply below_drew1) | exact HB.out)) hb); clear HB; have HB := n0_; clear n0_; (try clear hb); (try clear hb2); (try clear hk); (try clear hi)))
  go_ret
  exact ⟨by first | rfl | (simp [errW_none, errW_some] <;> rfl) | (simp [*, errW_none, errW_some] <;> rfl), by repeat (first | (with_reducible first | exact HB.out | apply below_alloc | apply pbd | apply below_drew1) | exact HB.out)⟩
def halidelaw6_few.l0 : Nat → List (List (S58)) → Int → Option (Bool)
 | 0, _, _ => none
 | k + 1, x0, x3 => if x3 < (x0.length : Int) then (if 0 ≤ x3 then (if ((rd_L3 x0 x3).length : Int) > 30 then (some false) else ((halideref6_Right.f k (rd_L3 x0 x3)).bind fun t775 => (if t775 = 0 then (halidelaw6_few.l0 k x0 (wrap64 (x3 + 1))) else (some false)))) else (none)) else (some true)
def halidelaw6_few.f (k : Nat) (l0 : List (List (S58))) : Option (Bool) := halidelaw6_few.l0 k l0 0
set_option maxHeartbeats 8000000 in
set_option maxRecDepth 100000 in
theorem halidelaw6_few.calls (k : Nat) (A0 : Option Addr) (c0 : Nat) (l0 : List (List (S58))) (r : Bool) (w : World) (hr0 : Kd.C (Kd.slice 58 k58) w A0 l0.length l0) (hc0 : l0.length ≤ c0) (h : halidelaw6_few.f k l0 = some r) :
  Calls Try.prog 33 #[.slice A0 l0.length c0] w fun e w' => e = .returned (.bool r) ∧ Below w.heap.size w w' := by
 have HR0 := Aside0.mk hr0
 have HC0 := Aside0.mk hc0
 clear hr0 hc0
 have HB := Aside0.mk (Below.refl w.heap.size w)
 have H : (halidelaw6_few.l0 k l0 0) = some r := h
 clear h
 have H' := Aside0.mk H
 clear H
 go_enter Try.func33, Try.ntmps33
 go_wp2
 go_loopg [3] k (fun kq v3 w' => ∃ (x3_1 : Int), v3 = .int .i64 x3_1 ∧ Aside0 (halidelaw6_few.l0 kq l0 x3_1 = some r) ∧ Aside0 (kq ≤ k) ∧ Aside0 (Below w.heap.size w w'))
 case atStart => exact ⟨(0), (by first | rfl | (simp; done) | (simp [*]; done)), H', ⟨Nat.le_refl _⟩, ⟨by repeat (first | (with_reducible first | exact HB.out | apply below_alloc | apply pbd | apply below_drew1) | exact HB.out)⟩⟩
 case round =>
  clear H'
  obtain ⟨x3_1, rfl, HA, HK1, HB⟩ := hrel
  cases gk with
  | zero => exact absurd HA.out (by simp [halidelaw6_few.l0])
  | succ k1 =>
   have H := HA.out
   clear HA
   simp only [halidelaw6_few.l0] at H
   by_cases c2 : x3_1 < (l0.length : Int)
   ·rw [if_pos c2] at H
    have c2b0 : decide (x3_1 < (l0.length : Int)) = true := decide_eq_true c2
    clear c2
    by_cases c3 : 0 ≤ x3_1
    ·rw [if_pos c3] at H
     have c3b0 : decide (0 ≤ x3_1) = true := decide_eq_true c3
     clear c3
     by_cases c4 : ((rd_L3 l0 x3_1).length : Int) > 30
     ·rw [if_pos c4] at H
      have c4b0 : decide (30 < ((rd_L3 l0 x3_1).length : Int)) = true := decide_eq_true c4
      have c4b1 : decide (30 < (rd_L3 l0 x3_1).length) = true := decide_eq_true (by omega)
      clear c4
      obtain rfl := Option.some.inj H
      have p773 : 0 ≤ (x3_1 : Int) := of_decide_eq_true (by first | (with_reducible assumption) | assumption)
      have q773 : x3_1 < (l0.length : Int) := of_decide_eq_true (by first | (with_reducible assumption) | assumption)
      obtain ⟨ad773, A773_0, c773_0, e773, hx773_0, hl773_0, hi773_0⟩ := at_L3 HR0.out x3_1 p773 q773
      cases e773
      replace hx773_0 := (HB.out.cell (World.block_lt_of_cell? w _ hx773_0)).trans hx773_0
      have HR773_0 := Aside0.mk hi773_0
      have HC773_0 := Aside0.mk hl773_0
      clear hi773_0 hl773_0
      replace p773 := eq_true p773
      replace q773 := eq_true q773
      go_wp2
      go_ret
      exact ⟨by first | rfl | (simp [errW_none, errW_some] <;> rfl) | (simp [*, errW_none, errW_some] <;> rfl), by repeat (first | (with_reducible first | exact HB.out | apply below_alloc | apply pbd | apply below_drew1) | exact HB.out)⟩
     ·rw [if_neg c4] at H
      have c4b0 : decide (30 < ((rd_L3 l0 x3_1).length : Int)) = false := decide_eq_false c4
      have c4b1 : decide (30 < (rd_L3 l0 x3_1).length) = false := decide_eq_false (by omega)
      clear c4
      replace H := Option.bind_eq_some_iff.mp H
      obtain ⟨t775, A50, H⟩ := H
      replace H : (if t775 = 0 then (halidelaw6_few.l0 k1 l0 (wrap64 (x3_1 + 1))) else (some false)) = some r := H
      have A5 := Aside0.mk A50
      clear A50
      by_cases c6 : t775 = 0
      ·rw [if_pos c6] at H
       have c6b0 : (t775 == 0) = true := beq_iff_eq.mpr c6
       have c6b1 : (t775 != 0) = false := bne_eq_false_iff_eq.mpr c6
       clear c6
       have H' := Aside0.mk H
       clear H
       have p773 : 0 ≤ (x3_1 : Int) := of_decide_eq_true (by first | (with_reducible assumption) | assumption)
       have q773 : x3_1 < (l0.length : Int) := of_decide_eq_true (by first | (with_reducible assumption) | assumption)
       obtain ⟨ad773, A773_0, c773_0, e773, hx773_0, hl773_0, hi773_0⟩ := at_L3 HR0.out x3_1 p773 q773
       cases e773
       replace hx773_0 := (HB.out.cell (World.block_lt_of_cell? w _ hx773_0)).trans hx773_0
       have HR773_0 := Aside0.mk hi773_0
       have HC773_0 := Aside0.mk hl773_0
       clear hi773_0 hl773_0
       replace p773 := eq_true p773
       replace q773 := eq_true q773
       have p774 : 0 ≤ (x3_1 : Int) := of_decide_eq_true (by first | (with_reducible assumption) | assumption)
       have q774 : x3_1 < (l0.length : Int) := of_decide_eq_true (by first | (with_reducible assumption) | assumption)
       obtain ⟨ad774, A774_0, c774_0, e774, hx774_0, hl774_0, hi774_0⟩ := at_L3 HR0.out x3_1 p774 q774
       obtain rfl : ad773 = ad774 := (by injection e774)
       replace hx774_0 := (HB.out.cell (World.block_lt_of_cell? w _ hx774_0)).trans hx774_0
       have HR774_0 := Aside0.mk hi774_0
       have HC774_0 := Aside0.mk hl774_0
       clear hi774_0 hl774_0
       replace p774 := eq_true p774
       replace q774 := eq_true q774
       have ea_ := Option.some.inj (hx773_0.symm.trans hx774_0)
       injection ea_ with ea_ en_ ec_
       subst ea_
       subst ec_
       clear en_
       go_wp2_with (first | (go_at_call 76; (with_reducible refine (halideref6_Right.calls k1 _ _ (rd_L3 l0 x3_1) t775 _ ?side1 ?side2 A5.out).mono ?_); (case side1 => repeat (first | exact (Kd.C_below HR774_0.out HB.out) | (with_reducible refine Kd.C_alloc ?_ _) | (with_reducible refine Kd.C_drewN ?_ _) | (with_reducible refine Kd.C_drew ?_))); (case side2 => exact HC774_0.out); rintro e w7 ⟨rfl, hb⟩; have n0_ := Aside0.mk (below_step (by repeat (first | (with_reducible first | exact HB.out | apply below_alloc | apply pbd | apply below_drew1) | exact HB.out)) hb); clear HB; have HB := n0_; clear n0_; (try clear hb); (try clear hb2); (try clear hk); (try clear hi)))
       go_roundg k1
       case measure => have := HK1.out; omega
       case rel => exact ⟨(wrap64 (x3_1 + 1)), (by first | rfl | (simp; done) | (simp [*]; done)), H', ⟨by have := HK1.out; omega⟩, ⟨by repeat (first | (with_reducible first | exact HB.out | apply below_alloc | apply pbd | apply below_drew1) | exact HB.out)⟩⟩
      ·rw [if_neg c6] at H
       have c6b0 : (t775 == 0) = false := beq_eq_false_iff_ne.mpr c6
       have c6b1 : (t775 != 0) = true := bne_iff_ne.mpr c6
       obtain rfl := Option.some.inj H
       have p773 : 0 ≤ (x3_1 : Int) := of_decide_eq_true (by first | (with_reducible assumption) | assumption)
       have q773 : x3_1 < (l0.length : Int) := of_decide_eq_true (by first | (with_reducible assumption) | assumption)
       obtain ⟨ad773, A773_0, c773_0, e773, hx773_0, hl773_0, hi773_0⟩ := at_L3 HR0.out x3_1 p773 q773
       cases e773
       replace hx773_0 := (HB.out.cell (World.block_lt_of_cell? w _ hx773_0)).trans hx773_0
       have HR773_0 := Aside0.mk hi773_0
       have HC773_0 := Aside0.mk hl773_0
       clear hi773_0 hl773_0
       replace p773 := eq_true p773
       replace q773 := eq_true q773
       have p774 : 0 ≤ (x3_1 : Int) := of_decide_eq_true (by first | (with_reducible assumption) | assumption)
       have q774 : x3_1 < (l0.length : Int) := of_decide_eq_true (by first | (with_reducible assumption) | assumption)
       obtain ⟨ad774, A774_0, c774_0, e774, hx774_0, hl774_0, hi774_0⟩ := at_L3 HR0.out x3_1 p774 q774
       obtain rfl : ad773 = ad774 := (by injection e774)
       replace hx774_0 := (HB.out.cell (World.block_lt_of_cell? w _ hx774_0)).trans hx774_0
       have HR774_0 := Aside0.mk hi774_0
       have HC774_0 := Aside0.mk hl774_0
       clear hi774_0 hl774_0
       replace p774 := eq_true p774
       replace q774 := eq_true q774
       have ea_ := Option.some.inj (hx773_0.symm.trans hx774_0)
       injection ea_ with ea_ en_ ec_
       subst ea_
       subst ec_
       clear en_
       go_wp2_with (first | (go_at_call 76; (with_reducible refine (halideref6_Right.calls k1 _ _ (rd_L3 l0 x3_1) t775 _ ?side1 ?side2 A5.out).mono ?_); (case side1 => repeat (first | exact (Kd.C_below HR774_0.out HB.out) | (with_reducible refine Kd.C_alloc ?_ _) | (with_reducible refine Kd.C_drewN ?_ _) | (with_reducible refine Kd.C_drew ?_))); (case side2 => exact HC774_0.out); rintro e w8 ⟨rfl, hb⟩; have n0_ := Aside0.mk (below_step (by repeat (first | (with_reducible first | exact HB.out | apply below_alloc | apply pbd | apply below_drew1) | exact HB.out)) hb); clear HB; have HB := n0_; clear n0_; (try clear hb); (try clear hb2); (try clear hk); (try clear hi)))
       go_ret
       exact ⟨by first | rfl | (simp [errW_none, errW_some] <;> rfl) | (simp [*, errW_none, errW_some] <;> rfl), by repeat (first | (with_reducible first | exact HB.out | apply below_alloc | apply pbd | apply below_drew1) | exact HB.out)⟩
    ·rw [if_neg c3] at H
     exact absurd H (by simp)
   ·rw [if_neg c2] at H
    have c2b0 : decide (x3_1 < (l0.length : Int)) = false := decide_eq_false c2
    clear c2
    obtain rfl := Option.some.inj H
    go_wp2
    go_ret
    exact ⟨by first | rfl | (simp [errW_none, errW_some] <;> rfl) | (simp [*, errW_none, errW_some] <;> rfl), by repeat (first | (with_reducible first | exact HB.out | apply below_alloc | apply pbd | apply below_drew1) | exact HB.out)⟩
end Go.Proofs.Ytcoegjdnobiogaa.PG
