/- rank's window: the sample of a rank. -/
import Derived.Test.YtcoegjdnobiogaaRkC
import Derived.RegionTactic
import Derived.LoopTactic
set_option linter.unusedVariables false
set_option linter.unusedSimpArgs false
namespace Go.Proofs.Ytcoegjdnobiogaa.Rk
open Go.RowKit Go.Proofs.YtcoegjdnobiogaaW.PrintWords Go.Proofs.YtcoegjdnobiogaaW.PrintLast Go.Proofs.YtcoegjdnobiogaaW.PrintMore

theorem bd_range (kind n i : Int) (hn : 1 ≤ n) : 0 ≤ bd kind n i ∧ bd kind n i < n := by
  unfold bd
  split
  · omega
  · split
    · exact ⟨Int.emod_nonneg i (by omega), Int.emod_lt_of_pos i (by omega)⟩
    · split
      · omega
      · have h3 := Int.emod_nonneg i (show 2 * (n - 1) ≠ 0 by omega)
        have h4 := Int.emod_lt_of_pos i (show 0 < 2 * (n - 1) by omega)
        omega

/-- The array's cells: what has come, then noughts. -/
def cellsOf (L : List Int) : Array Value := (L.map (Value.int .u32) ++ List.replicate (225 - L.length) (Value.int .u32 0)).toArray
theorem cellsOf_nil : Try.zeroCells195 = cellsOf [] := by kernel_rfl
theorem cellsOf_size (L : List Int) (h : L.length ≤ 225) : (cellsOf L).size = 225 := by simp [cellsOf]; omega
theorem cellsOf_snoc (L : List Int) (x : Int) (h : L.length < 225) : (cellsOf L).setIfInBounds L.length (Value.int .u32 x) = cellsOf (L ++ [x]) := by
  apply Array.ext'
  unfold cellsOf
  obtain ⟨m, hm⟩ : ∃ m, 225 - L.length = m + 1 := ⟨225 - L.length - 1, by omega⟩
  have hm' : 225 - (L ++ [x]).length = m := by simp; omega
  rw [hm, hm', List.replicate_succ]
  simp

theorem cellsOf_at (L : List Int) (j : Nat) (h : L.length = j) (h2 : j < 225) : (cellsOf L)[j]? = some (Value.int .u32 0) := by
  subst h
  unfold cellsOf
  obtain ⟨m, hm⟩ : ∃ m, 225 - L.length = m + 1 := ⟨225 - L.length - 1, by omega⟩
  rw [hm, List.replicate_succ]
  simp
theorem cellsOf_get (L : List Int) (j : Nat) (h : j < L.length) : (cellsOf L)[j]? = some (Value.int .u32 (L.getD j 0)) := by
  simp [cellsOf, List.getElem?_append_left, h, List.getD_eq_getElem?_getD]

/-- The samples of a window, row by row. -/
def smp (W H : Int) (S : List Int) (border ww hh c r : Int) (y x : Nat) : Int :=
  rd S (bd border H (r - hh / 2 + y) * W + bd border W (c - ww / 2 + x))
def rowsTo (f : Nat → Nat → Int) (n : Nat) : Nat → List Int
  | 0 => []
  | y + 1 => rowsTo f n y ++ (List.range n).map (f y)
theorem rowsTo_length (f : Nat → Nat → Int) (n y : Nat) : (rowsTo f n y).length = y * n := by
  induction y with
  | zero => simp [rowsTo]
  | succ y ih => simp [rowsTo, ih, Nat.add_mul]

theorem smp_range (W H : Int) (S : List Int) (border ww hh c r : Int) (y x : Nat) (h : ∀ z ∈ S, 0 ≤ z ∧ z < 4294967296) : 0 ≤ smp W H S border ww hh c r y x ∧ smp W H S border ww hh c r y x < 4294967296 := by
  unfold smp rd
  rw [List.getD_eq_getElem?_getD]
  generalize (bd border H (r - hh / 2 + y) * W + bd border W (c - ww / 2 + x)).toNat = j
  rcases Nat.lt_or_ge j S.length with hj | hj
  · rw [List.getElem?_eq_getElem hj]
    exact h _ (List.getElem_mem hj)
  · rw [List.getElem?_eq_none hj]
    simp
theorem rowsTo_mem (f : Nat → Nat → Int) (n y : Nat) (h : ∀ a b, 0 ≤ f a b ∧ f a b < 4294967296) : ∀ z ∈ rowsTo f n y, 0 ≤ z ∧ z < 4294967296 := by
  induction y with
  | zero => simp [rowsTo]
  | succ y ih =>
    intro z hz
    rw [rowsTo, List.mem_append] at hz
    rcases hz with hz | hz
    · exact ih z hz
    · obtain ⟨q, _, rfl⟩ := List.mem_map.1 hz
      exact h _ _

/-- Blocks below are kept over two that are laid. -/
theorem cell2 (w : World) (o1 o2 : Obj) (p : Addr) (v : Value) (h : w.cell? p = some v) : ((w.alloc o1).alloc o2).cell? p = some v := by
  have hlt := World.block_lt_of_cell? w p h
  rw [World.cell?_alloc_lt _ _ _ (by simp; omega), World.cell?_alloc_lt _ _ _ hlt, h]

theorem heap2 (w : World) (o1 o2 : Obj) : ((w.alloc o1).alloc o2).heap[w.heap.size + 1]? = some o2 := by
  have h := heap_alloc_new (w.alloc o1) o2
  rwa [show (w.alloc o1).heap.size = w.heap.size + 1 by simp] at h
theorem arr195 : Try.prog.underlying 195 = some (.array (Try.prog.arrayLen 195) (Try.prog.elem 195)) := by kernel_rfl
theorem len195 : Try.prog.arrayLen 195 = 225 := by kernel_rfl
theorem elem195 : Try.prog.elem 195 = 85 := by kernel_rfl
theorem slice195 (b n : Nat) (h : n ≤ 225) (W : World) : (Instr.sliceAt 195 (.pointer (some ⟨b, 0, none⟩)) none (some (.int .i64 (n : Int))) none).run Try.prog W = .ok (.slice (some ⟨b, 0, none⟩) n 225) W := by
  rw [run_sliceAt_array_h W 195 _ arr195 .i64 (n : Int) (by omega) (by rw [len195]; omega), len195, elem195]
  simp [Try.sizeOf85, slicedAt, Result.andThen, Addr.add]

set_option maxHeartbeats 1000000 in
set_option maxRecDepth 100000 in
theorem at_any (W H : Int) (A : Option Addr) (cap : Nat) (S : List Int) (border ww hh k c r : Int) (w : World)
    (hW : 1 ≤ W) (hW2 : W ≤ 1024) (hH : 1 ≤ H) (hH2 : H ≤ 1024) (hS : (S.length : Int) = W * H) (hb : 1 ≤ border) (hb2 : border ≤ 3)
    (hw : 1 ≤ ww) (hw2 : ww ≤ 15) (hh1 : 1 ≤ hh) (hh2 : hh ≤ 15) (hk : 0 ≤ k) (hk2 : k < ww * hh) (hc : 0 ≤ c) (hc2 : c ≤ 1024) (hr : 0 ≤ r) (hr2 : r ≤ 1024)
    (hrd : Kd.C (Kd.int .u32) w A S.length S) (hrg : ∀ x ∈ S, 0 ≤ x ∧ x < 4294967296) :
    Calls Try.prog 155 #[.agg #[.int .i64 W, .int .i64 H, .slice A S.length cap, .int .i64 border, .int .i64 ww, .int .i64 hh], .int .i64 k, .int .i64 c, .int .i64 r] w fun e w' =>
      e = .returned (.int .u32 ((sortK (rowsTo (smp W H S border ww hh c r) ww.toNat hh.toNat)).getD k.toNat 0)) ∧ Below w.heap.size w w' := by
  obtain ⟨m, rfl⟩ := Int.eq_ofNat_of_zero_le (show 0 ≤ ww by omega)
  obtain ⟨n, rfl⟩ := Int.eq_ofNat_of_zero_le (show 0 ≤ hh by omega)
  simp only [Int.toNat_natCast]
  have HSz := hid hS
  clear hS
  have HR := Aside0.mk hrd
  have HG := Aside0.mk hrg
  clear hrd hrg
  go_enter Try.func155, Try.ntmps155
  go_wp2
  rw [cellsOf_nil]
  go_loopw [10, 19] (fun v10 v19 wr => ∃ y : Nat, y ≤ n ∧ v19 = .int .i64 y ∧ v10 = .int .i64 ((y * m : Nat) : Int) ∧
      wr = (w.alloc (.cells #[.int .i64 W, .int .i64 H, .slice A S.length cap, .int .i64 border, .int .i64 m, .int .i64 n] 151)).alloc (.cells (cellsOf (rowsTo (smp W H S border m n c r) m y)) 195))
    (fun _ v19 _ => n - (intOf v19).toNat)
  case atStart => exact ⟨0, by omega, rfl, by simp, rfl⟩
  case round =>
    obtain ⟨y, hy, rfl, rfl, rfl⟩ := hrel
    by_cases hlt : y < n
    · have hb1 := bd_range border H (r - n / 2 + y) hH
      obtain ⟨b1, hb1e⟩ : ∃ b, b = bd border H (r - n / 2 + y) := ⟨_, rfl⟩
      rw [← hb1e] at hb1
      have Hb1 := hid hb1e
      clear hb1e
      have hp0 : 0 ≤ b1 * W := Int.mul_nonneg hb1.1 (by omega)
      have hp1 : b1 * W ≤ 1023 * 1024 := Int.mul_le_mul (by omega) hW2 (by omega) (by omega)
      go_wp2_with (go_at_call 158; refine (border_any _ _ _ _ (by omega) (by omega) (by omega) (by omega) (by omega) (by omega)).mono ?_; rintro e w' ⟨rfl, rfl⟩)
      rw [← Hb1.out]
      go_loopw [10, 40] (fun v10 v40 wr => ∃ x : Nat, x ≤ m ∧ v40 = .int .i64 x ∧ v10 = .int .i64 ((y * m + x : Nat) : Int) ∧
          wr = (w.alloc (.cells #[.int .i64 W, .int .i64 H, .slice A S.length cap, .int .i64 border, .int .i64 m, .int .i64 n] 151)).alloc (.cells (cellsOf (rowsTo (smp W H S border m n c r) m y ++ (List.range x).map (smp W H S border m n c r y))) 195))
        (fun _ v40 _ => m - (intOf v40).toNat)
      case atStart => exact ⟨0, by omega, rfl, by simp, by simp⟩
      case round =>
        obtain ⟨x, hx, rfl, rfl, rfl⟩ := hrel
        by_cases hlt2 : x < m
        · have hb2 := bd_range border W (c - m / 2 + x) hW
          obtain ⟨b2, hb2e⟩ : ∃ b, b = bd border W (c - m / 2 + x) := ⟨_, rfl⟩
          rw [← hb2e] at hb2
          have Hb2 := hid hb2e
          clear hb2e
          have hlt3 : b1 * W + b2 < S.length := by
            rw [HSz.out]
            have : b1 * W ≤ (H - 1) * W := Int.mul_le_mul_of_nonneg_right (by omega) (by omega)
            rw [Int.sub_mul, Int.mul_comm H W] at this
            omega
          obtain ⟨ad, ha, hcell⟩ := Kd.at_int HR.out (b1 * W + b2) (by omega) hlt3
          subst ha
          have hc2 := fun o1 o2 => cell2 w o1 o2 _ _ hcell
          clear hcell
          have hq : y * m + x < 225 := by
            have : (y + 1) * m ≤ n * m := Nat.mul_le_mul_right _ hlt
            have : n * m ≤ 15 * 15 := Nat.mul_le_mul (by omega) (by omega)
            rw [Nat.add_mul] at *
            omega
          generalize hL : rowsTo (smp W H S border m n c r) m y ++ (List.range x).map (smp W H S border m n c r y) = L
          have hLl : L.length = y * m + x := by rw [← hL]; simp [rowsTo_length]
          have hLc := cellsOf_at L _ hLl hq
          have hLs : cellsOf (L ++ [rd S (b1 * W + b2)]) = (cellsOf L).setIfInBounds (y * m + x) (Value.int .u32 (rd S (b1 * W + b2))) := by rw [← hLl, cellsOf_snoc _ _ (by omega)]
          have HL := hid hL
          have HLs := hid hLs
          clear hL hLl hLs
          go_wp2_with (go_at_call 158; refine (border_any _ _ _ _ (by omega) (by omega) (by omega) (by omega) (by omega) (by omega)).mono ?_; rintro e w' ⟨rfl, rfl⟩; rw [← Hb2.out])
          go_roundw
          case rel =>
            refine ⟨x + 1, by omega, by go_num, by go_num, ?_⟩
            have hs : smp W H S border m n c r y x = rd S (b1 * W + b2) := by rw [smp, Hb1.out, Hb2.out]
            rw [List.range_succ, List.map_append, ← List.append_assoc, HL.out, List.map_cons, List.map_nil, hs, HLs.out]
          case measure => simp [intOf]; omega
        · obtain rfl : x = m := by omega
          have hm : ((y * x + x : Nat) : Int) = (((y + 1) * x : Nat) : Int) := by rw [Nat.add_mul, Nat.one_mul]
          go_wp2
          go_roundw
          case rel => exact ⟨y + 1, by omega, by go_num, congrArg _ hm, rfl⟩
          case measure => simp [intOf]; omega
    · obtain rfl : y = n := by omega
      generalize hL : rowsTo (smp W H S border m y c r) m y = L
      have hLl : L.length = y * m := by rw [← hL]; simp [rowsTo_length]
      have hm : ((y * m : Nat) : Int) = (L.length : Int) := by rw [hLl]
      have hml : y * m ≤ 225 := Nat.mul_le_mul (show y ≤ 15 by omega) (show m ≤ 15 by omega)
      have hkl : k.toNat < L.length := by
        rw [hLl]
        have : (m : Int) * y = ((y * m : Nat) : Int) := by rw [Int.natCast_mul, Int.mul_comm]
        omega
      have hLr : ∀ z ∈ L, 0 ≤ z ∧ z < 4294967296 := by
        rw [← hL]
        exact rowsTo_mem _ _ _ (fun a b => smp_range W H S border m y c r a b HG.out)
      have hl225 : L.length ≤ 225 := by omega
      rw [hm]
      have HL := hid hL
      clear hm hLl hL
      have hsl := slice195 (w.heap.size + 1) L.length hl225
      go_wp2_with (go_at_call 157; refine (sort_any _ _ L 195 _ ⟨cellsOf L, heap2 _ _ _, fun j hj => cellsOf_get L j hj⟩ (by omega) hLr 225 (fun cs hcs => by rw [heap2] at hcs; cases hcs; exact cellsOf_size L (by omega))).mono ?_; rintro e w' ⟨rfl, hw1, hw2, hw3⟩; clear hw3)
      go_ret
      refine ⟨by rw [HL.out]; rfl, ?_⟩
      exact ((((Below.refl w.heap.size w).alloc (Nat.le_refl _) _).alloc (by simp) _).grown hw2 (by simp; omega) (fun q hq => by cases hq; omega))
end Go.Proofs.Ytcoegjdnobiogaa.Rk
