/- rank.Plane: what it answers, plainly. -/
import Derived.Test.YtcoegjdnobiogaaPRx2
set_option linter.unusedVariables false
set_option linter.unusedSimpArgs false
namespace Go.Proofs.Ytcoegjdnobiogaa.Rk
open Go.RowKit Go.Proofs.YtcoegjdnobiogaaW.PrintWords Go.Proofs.YtcoegjdnobiogaaW.PrintLast Go.Proofs.YtcoegjdnobiogaaW.PrintMore PR

/-- The error of a plane, a window, a rank, a border. -/
def chk (W H : Int) (l : List Int) (b ww hh k : Int) : Int :=
  if 1 ≤ W ∧ 1 ≤ H ∧ W ≤ 1024 ∧ H ≤ 1024 ∧ W * H ≤ 65536 then
    if (l.length : Int) = W * H then
      if 1 ≤ ww ∧ 1 ≤ hh ∧ ww ≤ 15 ∧ hh ≤ 15 then
        if 0 ≤ k ∧ k < ww * hh then
          if 1 ≤ b ∧ b ≤ 3 then 0 else 53
        else 121
      else 120
    else 51
  else 50
theorem wr (x : Int) (h : -9223372036854775808 ≤ x) (h2 : x < 9223372036854775808) : wrap64 x = x := by unfold wrap64; omega

theorem border10 (b : Int) : plane_Border.f 3 b 1 0 = some (0, if 1 ≤ b ∧ b ≤ 3 then 0 else 53) := by
  have e1 : plane_Border.f 3 1 1 0 = some (0, 0) := by kernel_rfl
  have e2 : plane_Border.f 3 2 1 0 = some (0, 0) := by kernel_rfl
  have e3 : plane_Border.f 3 3 1 0 = some (0, 0) := by kernel_rfl
  by_cases h1 : b < 1
  · unfold plane_Border.f
    rw [if_pos h1, if_neg (by omega)]
    simp [plane_Border.j0]
  · by_cases h2 : b > 3
    · unfold plane_Border.f
      rw [if_neg h1, if_neg (by omega), decide_eq_true h2]
      simp [plane_Border.j0]
    · have h3 : b = 1 ∨ b = 2 ∨ b = 3 := by omega
      rw [if_pos (by omega)]
      rcases h3 with rfl | rfl | rfl
      · exact e1
      · exact e2
      · exact e3
theorem mul15 (ww hh : Int) (h1 : 1 ≤ ww) (h2 : 1 ≤ hh) (h3 : ww ≤ 15) (h4 : hh ≤ 15) : 1 ≤ ww * hh ∧ ww * hh ≤ 225 := by
  constructor
  · have := Int.mul_le_mul h1 h2 (by omega) (by omega); omega
  · have := Int.mul_le_mul h3 h4 (by omega) (by omega); omega
theorem mul1024 (ww hh : Int) (h1 : 1 ≤ ww) (h2 : 1 ≤ hh) (h3 : ww ≤ 1024) (h4 : hh ≤ 1024) : 1 ≤ ww * hh ∧ ww * hh ≤ 1048576 := by
  constructor
  · have := Int.mul_le_mul h1 h2 (by omega) (by omega); omega
  · have := Int.mul_le_mul h3 h4 (by omega) (by omega); omega

theorem j0_true (W H : Int) (l : List Int) (b ww hh k : Int) (n : Nat) : rank_window_check.j0 (n + 1) k true W H l b ww hh = some 120 := by
  simp [rank_window_check.j0]
theorem check_pl (W H : Int) (l : List Int) (b ww hh k : Int) : rank_window_check.f 4 W H l b ww hh k = some (chk W H l b ww hh k) := by
  unfold rank_window_check.f plane_Check.f plane_size.f chk
  by_cases h1 : W ≥ 1
  · by_cases h2 : H ≥ 1
    · by_cases h3 : W ≤ 1024
      · by_cases h4 : H ≤ 1024
        · have hm := mul1024 W H h1 h2 h3 h4
          have hw := wr (W * H) (by omega) (by omega)
          simp only [h1, h2, h3, h4, hw, if_pos, true_and, Option.bind_some]
          by_cases h5 : W * H ≤ 65536
          · simp only [h5, decide_true, if_true, and_self]
            by_cases h6 : (l.length : Int) = W * H
            · simp only [h6, if_true, Option.bind_some]
              by_cases c1 : ww < 1
              · rw [if_pos c1, j0_true, if_neg (by omega)]
              · rw [if_neg c1]
                by_cases c2 : hh < 1
                · rw [if_pos c2, j0_true, if_neg (by omega)]
                · rw [if_neg c2]
                  by_cases c3 : ww > 15
                  · rw [if_pos c3, j0_true, if_neg (by omega)]
                  · rw [if_neg c3]
                    by_cases c4 : hh > 15
                    · rw [decide_eq_true c4, j0_true, if_neg (by omega)]
                    · rw [decide_eq_false c4, if_pos (by omega)]
                      have hm2 := mul15 ww hh (by omega) (by omega) (by omega) (by omega)
                      have hw2 := wr (ww * hh) (by omega) (by omega)
                      simp only [rank_window_check.j0, hw2, Bool.false_eq_true, if_false]
                      by_cases c5 : k < 0
                      · rw [if_pos c5, if_neg (by omega)]
                      · rw [if_neg c5]
                        by_cases c6 : k ≥ ww * hh
                        · rw [if_pos c6, if_neg (by omega)]
                        · rw [if_neg c6, if_pos (by omega), border10]
                          rfl
            · simp [h6]
          · simp [h5]
        · simp [h4]
      · simp [h3]
    · simp [h2]
  · simp [h1]

/-- The samples of an answer. -/
def outL (W H : Int) (l : List Int) (b ww hh k : Int) : List Int := rowsTo (fun y x => E_at.val W H l b ww hh k x y) W.toNat H.toNat
theorem chk0 {W H : Int} {l : List Int} {b ww hh k : Int} (h : chk W H l b ww hh k = 0) :
    1 ≤ W ∧ 1 ≤ H ∧ W ≤ 1024 ∧ H ≤ 1024 ∧ W * H ≤ 65536 ∧ (l.length : Int) = W * H ∧ 1 ≤ ww ∧ 1 ≤ hh ∧ ww ≤ 15 ∧ hh ≤ 15 ∧ 0 ≤ k ∧ k < ww * hh ∧ 1 ≤ b ∧ b ≤ 3 := by
  unfold chk at h
  split at h
  · split at h
    · split at h
      · split at h
        · split at h
          · rename_i a b c d e
            exact ⟨a.1, a.2.1, a.2.2.1, a.2.2.2.1, a.2.2.2.2, b, c.1, c.2.1, c.2.2.1, c.2.2.2, d.1, d.2, e.1, e.2⟩
          all_goals omega
        all_goals omega
      all_goals omega
    all_goals omega
  all_goals omega
theorem at_pl {W H : Int} {l : List Int} {b ww hh k : Int} (h : chk W H l b ww hh k = 0) (hr : ∀ x ∈ l, 0 ≤ x ∧ x < 4294967296) (x y : Int) (hx : 0 ≤ x) (hx2 : x ≤ 1024) (hy : 0 ≤ y) (hy2 : y ≤ 1024) :
    E_at.f W H l b ww hh k x y = some (E_at.val W H l b ww hh k x y) := by
  obtain ⟨h1, h2, h3, h4, h5, h6, h7, h8, h9, h10, h11, h12, h13, h14⟩ := chk0 h
  unfold E_at.f
  rw [if_pos]
  unfold E_at.okB
  rw [Bool.and_eq_true, decide_eq_true_eq, List.all_eq_true]
  refine ⟨⟨h1, h3, h2, h4, h6, h13, h14, h7, h9, h8, h10, h11, h12, hx, hx2, hy, hy2⟩, fun x hx => by simpa using hr x hx⟩

theorem l1_pl {W H : Int} {l : List Int} {b ww hh k : Int} (h : chk W H l b ww hh k = 0) (hr : ∀ x ∈ l, 0 ≤ x ∧ x < 4294967296) (y : Nat) (hy : y ≤ 1024) (base : List Int) (hb : base.length ≤ 1048576) (x22 x23 x2 x3 x116002 x116003 x118000 x118001 : Int) (n : Nat) :
    ∀ (m x : Nat), x + m = W.toNat →
      rank_window_part.l1 (n + m + 1) k y x22 x23 W x W H l b ww hh 0 0 x116002 x116003 x118000 x118001 (base ++ (List.range x).map fun i : Nat => E_at.val W H l b ww hh k i y) =
      rank_window_part.l0 n k x22 (wrap64 (x23 + 1)) W H l b ww hh 0 0 x116002 x116003 x118000 x118001 (base ++ (List.range W.toNat).map fun i : Nat => E_at.val W H l b ww hh k i y) := by
  obtain ⟨h1, h2, h3, h4, h5, h6, h7, h8, h9, h10, h11, h12, h13, h14⟩ := chk0 h
  intro m
  induction m with
  | zero =>
    intro x hx
    rw [rank_window_part.l1, if_neg (by omega)]
    have : x = W.toNat := by omega
    rw [this]
  | succ m ih =>
    intro x hx
    rw [show n + (m + 1) + 1 = (n + m + 1) + 1 by omega, rank_window_part.l1, if_pos (by omega), wr (0 + (x : Int)) (by omega) (by omega), wr (0 + (y : Int)) (by omega) (by omega), Int.zero_add, Int.zero_add,
      at_pl h hr x y (by omega) (by omega) (by omega) (by omega), Option.bind_some, if_pos (by simp; omega), wr ((x : Int) + 1) (by omega) (by omega)]
    have := ih (x + 1) (by omega)
    rw [List.range_succ, List.map_append, ← List.append_assoc] at this
    exact this
theorem l0_pl {W H : Int} {l : List Int} {b ww hh k : Int} (h : chk W H l b ww hh k = 0) (hr : ∀ x ∈ l, 0 ≤ x ∧ x < 4294967296) (x116002 x116003 : Int) :
    ∀ (m y : Nat), y + m = H.toNat →
      rank_window_part.l0 (m * (W.toNat + 2) + 1) k H y W H l b ww hh 0 0 x116002 x116003 W H (rowsTo (fun y x => E_at.val W H l b ww hh k x y) W.toNat y) = some (W, H, outL W H l b ww hh k) := by
  obtain ⟨h1, h2, h3, h4, h5, h6, h7, h8, h9, h10, h11, h12, h13, h14⟩ := chk0 h
  intro m
  induction m with
  | zero =>
    intro y hy
    rw [Nat.zero_mul, rank_window_part.l0, if_neg (by omega)]
    have : y = H.toNat := by omega
    rw [this]
    rfl
  | succ m ih =>
    intro y hy
    rw [rank_window_part.l0, if_pos (by omega)]
    have hle : (rowsTo (fun y x => E_at.val W H l b ww hh k x y) W.toNat y).length ≤ 1048576 := by
      rw [rowsTo_length]
      have := Nat.mul_le_mul (show y ≤ 1024 by omega) (show W.toNat ≤ 1024 by omega)
      omega
    have h0 := l1_pl h hr y (by omega) (rowsTo (fun y x => E_at.val W H l b ww hh k x y) W.toNat y) hle H y 0 0 x116002 x116003 W H (m * (W.toNat + 2) + 1) W.toNat 0 (by omega)
    rw [List.range_zero, List.map_nil, List.append_nil] at h0
    rw [show (m + 1) * (W.toNat + 2) = m * (W.toNat + 2) + 1 + W.toNat + 1 by rw [Nat.add_mul]; omega]
    refine Eq.trans h0 ?_
    rw [wr ((y : Int) + 1) (by omega) (by omega)]
    exact ih (y + 1) (by omega)

theorem part_pl {W H : Int} {l : List Int} {b ww hh k : Int} (h : chk W H l b ww hh k = 0) (hr : ∀ x ∈ l, 0 ≤ x ∧ x < 4294967296) :
    rank_window_part.f (H.toNat * (W.toNat + 2) + 1) W H l b ww hh k 0 0 W H = some (W, H, outL W H l b ww hh k) := by
  obtain ⟨h1, h2, h3, h4, h5, h6, h7, h8, h9, h10, h11, h12, h13, h14⟩ := chk0 h
  unfold rank_window_part.f
  rw [Int.sub_zero, Int.sub_zero, wr H (by omega) (by omega), wr W (by omega) (by omega)]
  exact l0_pl h hr W H H.toNat 0 (by omega)

theorem leo_le {α : Type} {f : Nat → Option α} (h : ∀ k, LeO (f k) (f (k + 1))) {r : α} : ∀ (m n : Nat), f n = some r → f (n + m) = some r
  | 0, n, h0 => h0
  | m + 1, n, h0 => by
    have := leo_le h m n h0
    exact h (n + m) r this
theorem plane_pl (W H : Int) (l : List Int) (b ww hh k : Int) (hr : ∀ x ∈ l, 0 ≤ x ∧ x < 4294967296) :
    rank_Plane.f (H.toNat * (W.toNat + 2) + 1 + 4) W H l b ww hh k = some (if chk W H l b ww hh k = 0 then (W, H, outL W H l b ww hh k, 0) else (0, 0, [], chk W H l b ww hh k)) := by
  unfold rank_Plane.f
  have e1 := leo_le (fun k' => rank_window_check.mono W H l b ww hh k k') (H.toNat * (W.toNat + 2) + 1) 4 (check_pl W H l b ww hh k)
  rw [Nat.add_comm] at e1
  rw [e1, Option.bind_some]
  by_cases h : chk W H l b ww hh k = 0
  · rw [if_pos h, if_pos h, leo_le (fun k' => rank_window_part.mono W H l b ww hh k 0 0 W H k') 4 _ (part_pl h hr)]
    rfl
  · rw [if_neg h, if_neg h]
end Go.Proofs.Ytcoegjdnobiogaa.Rk
