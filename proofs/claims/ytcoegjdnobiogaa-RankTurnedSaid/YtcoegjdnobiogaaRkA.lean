/- The contracts of plane.Border and its callee. -/
import Derived.Test.YtcoegjdnobiogaaProg
import Derived.Test.YtcoegjdnobiogaaWMore
import Derived.WalkKit
import Derived.Outline
import Derived.WalkLawsBesides
import Derived.WalkSpells
set_option linter.unusedVariables false
set_option linter.unusedSimpArgs false
namespace Go.Proofs.Ytcoegjdnobiogaa.Rk
open Go.RowKit Go.Proofs.YtcoegjdnobiogaaW.PrintWords Go.Proofs.YtcoegjdnobiogaaW.PrintLast Go.Proofs.YtcoegjdnobiogaaW.PrintMore

theorem hid {p : Prop} (h : p) : Hid p := h

/-- The place that stands for one beyond an edge. -/
def bd (kind n i : Int) : Int :=
  if kind = 1 then min (max i 0) (n - 1)
  else if kind = 3 then i % n
  else if n = 1 then 0
  else min (i % (2 * (n - 1))) (2 * (n - 1) - i % (2 * (n - 1)))

theorem rest_pl (i n : Int) (hn : 0 < n) : (i.tmod n + n) % n = i % n := by
  rw [Int.add_emod_right, Int.tmod_eq_emod]
  split
  · simp
  · rw [Int.sub_emod]
    have : (n.natAbs : Int) = n := by omega
    rw [this]; simp

theorem rest_any (i n : Int) (w : World) (hi : -4294967296 ≤ i) (hi2 : i ≤ 4294967296) (hn : 1 ≤ n) (hn2 : n ≤ 4096) :
    Calls Try.prog 179 #[.int .i64 i, .int .i64 n] w fun e w' => e = .returned (.int .i64 (i % n)) ∧ w = w' := by
  have h1 := Int.tmod_lt_of_pos i (show 0 < n by omega)
  have h2 := Int.lt_tmod_of_pos i (show 0 < n by omega)
  have HP := hid (rest_pl i n (by omega))
  go_enter Try.func179, Try.ntmps179
  go_wp2
  go_ret
  exact ⟨by rw [← HP.out]; rfl, rfl⟩

theorem ret_int {k : IntKind} {a b : Int} (h : a = b) : Ending.returned (.int k a) = .returned (.int k b) := by rw [h]
theorem ret_int2 {k k' : IntKind} {a b a' b' : Int} (h : a = b) (h' : a' = b') : Ending.returned (.tuple #[.int k a, .int k' a']) = .returned (.tuple #[.int k b, .int k' b']) := by rw [h, h']

theorem border_any (kind n i : Int) (w : World) (hk : 1 ≤ kind) (hk2 : kind ≤ 3) (hi : -1048576 ≤ i) (hi2 : i ≤ 1048576) (hn : 1 ≤ n) (hn2 : n ≤ 1024) :
    Calls Try.prog 158 #[.int .i64 kind, .int .i64 n, .int .i64 i] w fun e w' => e = .returned (.tuple #[.int .i64 (bd kind n i), .int .i64 0]) ∧ w = w' := by
  rcases (show kind = 1 ∨ kind = 2 ∨ kind = 3 by omega) with rfl | rfl | rfl
  · have HB : Hid (bd 1 n i = min (max i 0) (n - 1)) := by simp [bd, Hid]
    go_enter Try.func158, Try.ntmps158
    go_wp2
    all_goals (go_ret2; exact ⟨ret_int2 (by rw [HB.out]; omega) rfl, rfl⟩)
  · by_cases h1 : n = 1
    · subst h1
      go_enter Try.func158, Try.ntmps158
      go_wp2
      go_ret2
      exact ⟨ret_int2 rfl rfl, rfl⟩
    · have HB : Hid (bd 2 n i = min (i % (2 * (n - 1))) (2 * (n - 1) - i % (2 * (n - 1)))) := by simp [bd, Hid, h1]
      have h2 : (n == 1) = false := by simpa using h1
      have h3 := Int.emod_nonneg i (show 2 * (n - 1) ≠ 0 by omega)
      have h4 := Int.emod_lt_of_pos i (show 0 < 2 * (n - 1) by omega)
      go_enter Try.func158, Try.ntmps158
      go_wp2_with (go_at_call 179; refine (rest_any _ _ _ (by omega) (by omega) (by omega) (by omega)).mono ?_; rintro e w' ⟨rfl, rfl⟩)
      all_goals (go_ret2; exact ⟨ret_int2 (by rw [HB.out]; omega) rfl, rfl⟩)
  · have HB : Hid (bd 3 n i = i % n) := by simp [bd, Hid]
    go_enter Try.func158, Try.ntmps158
    go_wp2_with (go_at_call 179; refine (rest_any _ _ _ (by omega) (by omega) (by omega) (by omega)).mono ?_; rintro e w' ⟨rfl, rfl⟩)
    all_goals (go_ret2; exact ⟨ret_int2 (by rw [HB.out]) rfl, rfl⟩)
end Go.Proofs.Ytcoegjdnobiogaa.Rk
