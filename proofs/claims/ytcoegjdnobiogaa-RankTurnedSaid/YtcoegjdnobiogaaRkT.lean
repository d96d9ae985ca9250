/- RankTurned: the walk. -/
import Derived.Test.YtcoegjdnobiogaaRkK
import Derived.BigQuiet
import Derived.Deep.RegionHeld3
import Derived.Deep.RegionWith
import Derived.Deep.CutBlock
import Derived.Deep.DeepCutAuto
set_option linter.unusedVariables false
set_option linter.unusedSimpArgs false
namespace Go.Proofs.Ytcoegjdnobiogaa.Rk
open Go.RowKit Go.Proofs.YtcoegjdnobiogaaW.PrintWords Go.Proofs.YtcoegjdnobiogaaW.PrintLast Go.Proofs.YtcoegjdnobiogaaW.PrintMore PR

attribute [local go_sem] max2_int min2_int max_two min_two
theorem small_pl (W H : Int) (l : List Int) : halidelaw12_small.f W H l = some (decide ((l.length : Int) ≤ 2000 ∧ W ≤ 4000 ∧ H ≤ 4000)) := by
  unfold halidelaw12_small.f
  by_cases h1 : (l.length : Int) ≤ 2000 <;> by_cases h2 : W ≤ 4000 <;> by_cases h3 : H ≤ 4000 <;> simp [h1, h2, h3]
theorem small_any (W H : Int) (A : Option Addr) (c : Nat) (l : List Int) (w : World) (hr0 : Kd.C (Kd.int .u32) w A l.length l) (hc0 : l.length ≤ c) :
    Calls Try.prog 61 #[.agg #[.int .i64 W, .int .i64 H, .slice A l.length c]] w fun e w' => e = .returned (.bool (decide ((l.length : Int) ≤ 2000 ∧ W ≤ 4000 ∧ H ≤ 4000))) ∧ Below w.heap.size w w' :=
  halidelaw12_small.calls W H A c l _ w hr0 hc0 (small_pl W H l)
theorem key_any2 (x : Int) (w : World) (h : U32 x) : Calls Try.prog 63 #[.int .u32 x] w fun e w' => e = .returned (.int .u32 (keyI x)) ∧ Drawn0 w w' :=
  halidelaw12_key.calls x _ w (key_pl x h)

theorem fromKey_any (x q : Int) (w : World) (h : U32 q) (e : x = q) : Calls Try.prog 123 #[.int .u32 x] w fun e w' => e = .returned (.int .u32 (unkeyI q)) ∧ Drawn0 w w' := by
  subst e
  exact halidelaw12_fromKey.calls x _ w (fromKey_pl x h)
theorem rises_any (x lo hi d : Int) (w : World) (hx : U32 x) (h1 : U32 lo) (h2 : U32 hi) (hd : 0 ≤ d) (hd2 : d < 32) :
    Calls Try.prog 67 #[.int .u32 x, .int .u32 lo, .int .u32 hi, .int .i64 d] w fun e w' => e = .returned (.int .u32 (risesI lo hi d x)) ∧ Drawn0 w w' := by
  have hu := rough_u32 lo hi d _ h1 h2 (keyI_range x hx.1 hx.2)
  have hk1 := fun w => key_any2 x w hx
  have hk2 := fun w => key_any2 lo w h1
  have hk3 := fun w => key_any2 hi w h2
  have he : mn (mx (keyI x) (mn (keyI lo) (keyI hi))) (mx (keyI lo) (keyI hi)) / 2 ^ d.toNat * 2 ^ d.toNat = roughI lo hi d (keyI x) := rfl
  unfold risesI
  generalize roughI lo hi d (keyI x) = q at hu he ⊢
  obtain ⟨a, ha⟩ : ∃ a, keyI x = a := ⟨_, rfl⟩
  obtain ⟨b, hb⟩ : ∃ a, keyI lo = a := ⟨_, rfl⟩
  obtain ⟨c, hc⟩ : ∃ a, keyI hi = a := ⟨_, rfl⟩
  rw [ha] at hk1
  rw [hb] at hk2
  rw [hc] at hk3
  rw [ha, hb, hc] at he
  clear ha hb hc
  have HE := Aside0.mk he
  have HU := Aside0.mk hu
  clear he hu hx h1 h2
  go_enter Try.func67, Try.ntmps67
  go_wp2_with (first
    | (go_at_call_of 63 (Value.int .u32 x); refine (hk1 _).mono ?_; rintro e w1 ⟨rfl, ⟨n1, rfl⟩⟩)
    | (go_at_call_of 63 (Value.int .u32 lo); refine (hk2 _).mono ?_; rintro e w2 ⟨rfl, ⟨n2, rfl⟩⟩)
    | (go_at_call_of 63 (Value.int .u32 hi); refine (hk3 _).mono ?_; rintro e w3 ⟨rfl, ⟨n3, rfl⟩⟩)
    | (go_at_call 123; refine (fromKey_any _ q _ HU.out ?hq).mono ?_; (case hq => (have h8 := HE.out; have h9 := HU.out; unfold U32 at h9; unfold mn mx at h8; (repeat' split at h8) <;> omega)); rintro e w4 ⟨rfl, ⟨n4, rfl⟩⟩))
  all_goals go_ret
  all_goals exact ⟨rfl, ⟨_, rfl⟩⟩
theorem copy_any (W H : Int) (A : Option Addr) (c : Nat) (l : List Int) (w : World) (hr0 : Kd.C (Kd.int .u32) w A l.length l) (hc0 : l.length ≤ c) (h0 : 0 < l.length) (h1 : (l.length : Int) ≤ 2000) :
    Calls Try.prog 58 #[.agg #[.int .i64 W, .int .i64 H, .slice A l.length c]] w fun e w' => ∃ h cc : Nat, e = .returned (.agg #[.int .i64 W, .int .i64 H, .slice (some ⟨h, 0, none⟩) l.length cc]) ∧
      Kd.R (Kd.int .u32) 85 w' w.heap.size (fun _ => True) (.slice (some ⟨h, 0, none⟩) l.length cc) l ∧ Below w.heap.size w w' := by
  refine (halidehelp_Copy.calls W H A c l W H l w hr0 hc0 ?_).mono ?_
  · unfold halidehelp_Copy.f
    rw [if_pos (by simp; omega)]
    rfl
  · rintro e w' ⟨v, rfl, ho, hb⟩
    obtain ⟨g, cap, cur, rfl, _⟩ := own_block ho h0
    exact ⟨g, cap, rfl, ho, hb⟩
theorem drop_range (drop : Int) : 0 ≤ (wrap64 (drop.tmod 32 + 32)).tmod 32 ∧ (wrap64 (drop.tmod 32 + 32)).tmod 32 < 32 := by
  have h1 := Int.tmod_lt_of_pos drop (show (0 : Int) < 32 by omega)
  have h2 := Int.lt_tmod_of_pos drop (show (0 : Int) < 32 by omega)
  rw [wr _ (by omega) (by omega), Int.tmod_eq_emod_of_nonneg (by omega)]
  omega
def Z74 : Obj := .cells #[.int .i64 0, .int .i64 0, .slice none 0 0] 74 (0, 0)
theorem blk6 {w : World} {g : Nat} (h : w.heap[g]? = some Z74) :
    w.cell? ⟨g, 0, none⟩ = some (.int .i64 0) ∧ w.cell? ⟨g, 1, none⟩ = some (.int .i64 0) ∧ w.cell? ⟨g, 2, none⟩ = some (.slice none 0 0) ∧
    w.frozen? ⟨g, 0, none⟩ = false ∧ w.frozen? ⟨g, 1, none⟩ = false ∧ w.frozen? ⟨g, 2, none⟩ = false :=
  ⟨(blk_cell h 0).trans rfl, (blk_cell h 1).trans rfl, (blk_cell h 2).trans rfl, blk_frozen h 0, blk_frozen h 1, blk_frozen h 2⟩
section
variable {w w0 : World} {g : Nat} {x y z : Value}
theorem put3_blk (h : w.heap[g]? = some Z74) : (((w.setCell ⟨g, 0, none⟩ x).setCell ⟨g, 1, none⟩ y).setCell ⟨g, 2, none⟩ z).heap[g]? = some (.cells #[x, y, z] 74 (0, 0)) :=
  blk_set (blk_set (blk_set h 0 x) 1 y) 2 z
theorem put3_far {q : Nat} {o : Obj} (h : w.heap[q]? = some o) (hne : q ≠ g) : (((w.setCell ⟨g, 0, none⟩ x).setCell ⟨g, 1, none⟩ y).setCell ⟨g, 2, none⟩ z).heap[q]? = some o := by
  rw [Below.heap_setCell _ _ _ _ (by exact hne), Below.heap_setCell _ _ _ _ (by exact hne), Below.heap_setCell _ _ _ _ (by exact hne)]
  exact h
theorem put3_below (h : Below w0.heap.size w0 w) (hg : w0.heap.size ≤ g) : Below w0.heap.size w0 (((w.setCell ⟨g, 0, none⟩ x).setCell ⟨g, 1, none⟩ y).setCell ⟨g, 2, none⟩ z) := below_set (below_set (below_set h hg) hg) hg
theorem put3_new (o : Obj) : ((((w.setCell ⟨g, 0, none⟩ x).setCell ⟨g, 1, none⟩ y).setCell ⟨g, 2, none⟩ z).alloc o).heap[w.heap.size]? = some o := by
  have := blk_new (((w.setCell ⟨g, 0, none⟩ x).setCell ⟨g, 1, none⟩ y).setCell ⟨g, 2, none⟩ z) o
  rwa [World.size_setCell, World.size_setCell, World.size_setCell] at this
theorem put3_R {base : Nat} {ok : Nat → Prop} {v : Value} {xs : List Int} (hb : w.heap[g]? = some Z74) (h : Kd.R (Kd.int .u32) 85 w base ok v xs) :
    Kd.R (Kd.int .u32) 85 (((w.setCell ⟨g, 0, none⟩ x).setCell ⟨g, 1, none⟩ y).setCell ⟨g, 2, none⟩ z) base ok v xs :=
  Kd.R_set (Kd.R_set (Kd.R_set h hb (by decide) 0 x) (blk_set hb 0 x) (by decide) 1 y) (blk_set (blk_set hb 0 x) 1 y) (by decide) 2 z
theorem own_blk_lt {base h n c : Nat} {xs : List Int} (hR : Kd.R (Kd.int .u32) 85 w base (fun _ => True) (.slice (some ⟨h, 0, none⟩) n c) xs) : base ≤ h ∧ h < w.heap.size :=
  ⟨Kd.R_base hR h rfl, own_lt (Kd.own_of_R hR) h rfl⟩
end
theorem chk_pos {W H : Int} {S : List Int} {b ww hh k : Int} (h : chk W H S b ww hh k = 0) : 0 < S.length := by
  obtain ⟨h1, h2, h3, h4, h5, h6, _⟩ := chk0 h
  have := (mul1024 W H h1 h2 h3 h4).1
  omega
theorem blk3 {w : World} {g : Nat} {t : TypeId} {x y z : Value} (h : w.heap[g]? = some (.cells #[x, y, z] t (0, 0))) :
    w.cell? ⟨g, 0, none⟩ = some x ∧ w.cell? ⟨g, 1, none⟩ = some y ∧ w.cell? ⟨g, 2, none⟩ = some z := ⟨(blk_cell h 0).trans rfl, (blk_cell h 1).trans rfl, (blk_cell h 2).trans rfl⟩

theorem sized_any (W H : Int) (A : Option Addr) (c : Nat) (l : List Int) (B : Option Addr) (d : Nat) (m : List Int) (w : World) (h1 : Kd.C (Kd.int .u32) w A l.length l) (h2 : l.length ≤ c) (h3 : Kd.C (Kd.int .u32) w B m.length m) (h4 : m.length ≤ d) (e : l.length = m.length) :
    Calls Try.prog 66 #[.agg #[.int .i64 W, .int .i64 H, .slice A l.length c], .agg #[.int .i64 W, .int .i64 H, .slice B m.length d]] w fun e w' => e = .returned (.bool true) ∧ Below w.heap.size w w' :=
  halidelaw12_sized.calls W H A c l W H B d m true w h1 h2 h3 h4 (by unfold halidelaw12_sized.f; rw [if_pos rfl, if_pos rfl, e]; simp)
theorem C_own {w : World} {base n c : Nat} {A : Option Addr} {xs : List Int} (h : w.ownsRow base 85 1 (.slice A n c) n (nums .u32 xs)) : Kd.C (Kd.int .u32) w A n xs :=
  Kd.C_of_reads (own_reads_of' (enc := Value.int .u32) (d := (0 : Int)) h)
theorem chk_win {W H : Int} {S : List Int} {b ww hh k : Int} (h : chk W H S b ww hh k = 0) : 1 ≤ ww * hh ∧ ww * hh ≤ 225 ∧ 0 ≤ k ∧ k < ww * hh := by
  obtain ⟨h1, h2, h3, h4, h5, h6, h7, h8, h9, h10, h11, h12, h13, h14⟩ := chk0 h
  have := mul15 ww hh h7 h8 h9 h10
  exact ⟨this.1, this.2, h11, h12⟩
/-- A plane of its own samples, ranked. -/
theorem plane_own (W H : Int) (l T O : List Int) (b ww hh k : Int) (g cc : Nat) (w : World) (h : chk W H T b ww hh k = 0) (hr : ∀ x ∈ T, 0 ≤ x ∧ x < 4294967296) (e : T.length = l.length) (eO : outL W H T b ww hh k = O) (hc : l.length ≤ cc)
    (hC : Kd.C (Kd.int .u32) w (some ⟨g, 0, none⟩) l.length T) :
    Calls Try.prog 62 #[.agg #[.int .i64 W, .int .i64 H, .slice (some ⟨g, 0, none⟩) l.length cc], .int .i64 b, .int .i64 ww, .int .i64 hh, .int .i64 k] w fun e w' =>
      ∃ q cq : Nat, e = .returned (.tuple #[.agg #[.int .i64 W, .int .i64 H, .slice (some ⟨q, 0, none⟩) O.length cq], .int .i64 0]) ∧ w'.ownsRow w.heap.size 85 1 (.slice (some ⟨q, 0, none⟩) O.length cq) O.length (nums .u32 O) ∧ Below w.heap.size w w' := by
  subst eO
  have h1 := plane_any W H (some ⟨g, 0, none⟩) cc T b ww hh k w (by rw [e]; exact hC) (by rw [e]; exact hc) hr h
  rw [e] at h1
  refine h1.mono ?_
  rintro e w' ⟨v, rfl, ho, hb⟩
  obtain ⟨q, cq, _, rfl, _⟩ := own_block ho (by rw [out_len h]; exact chk_pos h)
  exact ⟨q, cq, rfl, Kd.own_of_R ho, hb⟩
theorem map_u32 {f : Int → Int} {l : List Int} (hr : ∀ x ∈ l, 0 ≤ x ∧ x < 4294967296) (hf : ∀ x, U32 x → U32 (f x)) : ∀ x ∈ l.map f, 0 ≤ x ∧ x < 4294967296 := by
  intro x hx
  obtain ⟨y, hy, rfl⟩ := List.mem_map.1 hx
  exact hf y (hr y hy)
theorem turn_anti (x y : Int) (hx : U32 x) (hy : U32 y) (h : keyI x ≤ keyI y) : keyI (turnI y) ≤ keyI (turnI x) := by
  rw [turn_key x hx, turn_key y hy]; omega
theorem plane_turned (W H : Int) (l : List Int) (b ww hh k kk : Int) (g cc : Nat) (w : World) (h : chk W H l b ww hh k = 0) (hr : ∀ x ∈ l, 0 ≤ x ∧ x < 4294967296) (hk : kk = ww * hh - 1 - k) (hc : l.length ≤ cc)
    (hC : Kd.C (Kd.int .u32) w (some ⟨g, 0, none⟩) l.length (l.map turnI)) :
    Calls Try.prog 62 #[.agg #[.int .i64 W, .int .i64 H, .slice (some ⟨g, 0, none⟩) l.length cc], .int .i64 b, .int .i64 ww, .int .i64 hh, .int .i64 kk] w fun e w' =>
      ∃ q cq : Nat, e = .returned (.tuple #[.agg #[.int .i64 W, .int .i64 H, .slice (some ⟨q, 0, none⟩) ((outL W H l b ww hh k).map turnI).length cq], .int .i64 0]) ∧
        w'.ownsRow w.heap.size 85 1 (.slice (some ⟨q, 0, none⟩) ((outL W H l b ww hh k).map turnI).length cq) ((outL W H l b ww hh k).map turnI).length (nums .u32 ((outL W H l b ww hh k).map turnI)) ∧ Below w.heap.size w w' := by
  subst hk
  have hw := chk_win h
  refine plane_own W H l (l.map turnI) _ b ww hh (ww * hh - 1 - k) g cc w ?_ (map_u32 hr turn_u32) (List.length_map _) (out_anti turnI h hr turn_u32 turn_anti) hc hC
  rw [chk_len (List.length_map _)]
  exact chk_k h (by omega) (by omega)
theorem plane_through (W H : Int) (l : List Int) (b ww hh k lo hi D : Int) (g cc : Nat) (w : World) (h : chk W H l b ww hh k = 0) (hr : ∀ x ∈ l, 0 ≤ x ∧ x < 4294967296) (hlo : U32 lo) (hhi : U32 hi) (hc : l.length ≤ cc)
    (hC : Kd.C (Kd.int .u32) w (some ⟨g, 0, none⟩) l.length (l.map (risesI lo hi D))) :
    Calls Try.prog 62 #[.agg #[.int .i64 W, .int .i64 H, .slice (some ⟨g, 0, none⟩) l.length cc], .int .i64 b, .int .i64 ww, .int .i64 hh, .int .i64 k] w fun e w' =>
      ∃ q cq : Nat, e = .returned (.tuple #[.agg #[.int .i64 W, .int .i64 H, .slice (some ⟨q, 0, none⟩) ((outL W H l b ww hh k).map (risesI lo hi D)).length cq], .int .i64 0]) ∧
        w'.ownsRow w.heap.size 85 1 (.slice (some ⟨q, 0, none⟩) ((outL W H l b ww hh k).map (risesI lo hi D)).length cq) ((outL W H l b ww hh k).map (risesI lo hi D)).length (nums .u32 ((outL W H l b ww hh k).map (risesI lo hi D))) ∧ Below w.heap.size w w' :=
  plane_own W H l (l.map (risesI lo hi D)) _ b ww hh k g cc w (by rw [chk_len (List.length_map _)]; exact h) (map_u32 hr (fun x hx => rises_u32 lo hi D x hlo hhi hx)) (List.length_map _)
    (out_map _ h hr (fun x hx => rises_u32 lo hi D x hlo hhi hx) (fun x y hx hy => rises_mono lo hi D x y hlo hhi hx hy)) hc hC
/-- What lies in memory while the two planes are filled. -/
structure TMem (w0 : World) (Wd Hd : Int) (ad : Addr) (n c g17 h17 k17 g19 h19 c19 g20 h20 c20 b : Nat) (O M N : List Int) (W : World) : Prop where
  below : Below w0.heap.size w0 W
  b8 : W.heap[w0.heap.size]? = some (.cells #[.int .i64 Wd, .int .i64 Hd, .slice (some ad) n c] 74 (0, 0))
  b17 : W.heap[g17]? = some (.cells #[.int .i64 Wd, .int .i64 Hd, .slice (some ⟨h17, 0, none⟩) O.length k17] 74 (0, 0))
  b19 : W.heap[g19]? = some (.cells #[.int .i64 Wd, .int .i64 Hd, .slice (some ⟨h19, 0, none⟩) n c19] 74 (0, 0))
  b20 : W.heap[g20]? = some (.cells #[.int .i64 Wd, .int .i64 Hd, .slice (some ⟨h20, 0, none⟩) n c20] 74 (0, 0))
  r17 : W.ownsRow b 85 1 (.slice (some ⟨h17, 0, none⟩) O.length k17) O.length (nums .u32 O)
  r19 : W.ownsRow b 85 1 (.slice (some ⟨h19, 0, none⟩) n c19) n (nums .u32 M)
  r20 : W.ownsRow b 85 1 (.slice (some ⟨h20, 0, none⟩) n c20) n (nums .u32 N)
  ne : h19 ≠ h20 ∧ h17 ≠ h19 ∧ h17 ≠ h20
  bb : w0.heap.size < b
namespace TMem
variable {w0 W W1 : World} {Wd Hd : Int} {ad : Addr} {n c g17 h17 k17 g19 h19 c19 g20 h20 c20 b : Nat} {O M N : List Int}
theorem ty {g h : Nat} {cs : Array Value} {v : Value} {xs : List Value} {nn k : Nat} (hb : W.heap[g]? = some (.cells cs 74 (0, 0))) (hr : W.ownsRow b 85 1 (.slice (some ⟨h, 0, none⟩) nn k) nn xs) : g ≠ h := by
  obtain ⟨cells, hc⟩ := own_typed hr h rfl
  exact blk_ne hb hc (by decide)
theorem grow (m : TMem w0 Wd Hd ad n c g17 h17 k17 g19 h19 c19 g20 h20 c20 b O M N W) (h : Below W.heap.size W W1) : TMem w0 Wd Hd ad n c g17 h17 k17 g19 h19 c19 g20 h20 c20 b O M N W1 :=
  ⟨below_then m.below m.below.size h, blk_below m.b8 h, blk_below m.b17 h, blk_below m.b19 h, blk_below m.b20 h,
    own_move m.r17 (fun k hk => h.block k (own_lt m.r17 k hk)), own_move m.r19 (fun k hk => h.block k (own_lt m.r19 k hk)), own_move m.r20 (fun k hk => h.block k (own_lt m.r20 k hk)), m.ne, m.bb⟩
theorem base19 (m : TMem w0 Wd Hd ad n c g17 h17 k17 g19 h19 c19 g20 h20 c20 b O M N W) : w0.heap.size < h19 := Nat.lt_of_lt_of_le m.bb (own_base m.r19 h19 rfl)
theorem base20 (m : TMem w0 Wd Hd ad n c g17 h17 k17 g19 h19 c19 g20 h20 c20 b O M N W) : w0.heap.size < h20 := Nat.lt_of_lt_of_le m.bb (own_base m.r20 h20 rfl)
theorem put19 (m : TMem w0 Wd Hd ad n c g17 h17 k17 g19 h19 c19 g20 h20 c20 b O M N W) (i : Nat) (x : Int) :
    TMem w0 Wd Hd ad n c g17 h17 k17 g19 h19 c19 g20 h20 c20 b O (M.set i x) N (W.setCell ⟨h19, i, none⟩ (.int .u32 x)) := by
  have h8 := ty (v := .bool true) m.b8 m.r19
  have h17' := ty (v := .bool true) m.b17 m.r19
  have h19' := ty (v := .bool true) m.b19 m.r19
  have h20' := ty (v := .bool true) m.b20 m.r19
  have hs := (own_store m.r19 (i : Int) x).1
  rw [Int.toNat_natCast] at hs
  exact ⟨m.below.setCell (Nat.le_of_lt m.base19) _, blk_far m.b8 h8 _, blk_far m.b17 h17' _, blk_far m.b19 h19' _, blk_far m.b20 h20' _,
    own_setCell m.r17 (fun e => m.ne.2.1 (by simpa [Value.ownBlock] using e.symm)) _, hs, own_setCell m.r20 (fun e => m.ne.1 (by simpa [Value.ownBlock] using e)) _, m.ne, m.bb⟩
theorem put20 (m : TMem w0 Wd Hd ad n c g17 h17 k17 g19 h19 c19 g20 h20 c20 b O M N W) (i : Nat) (x : Int) :
    TMem w0 Wd Hd ad n c g17 h17 k17 g19 h19 c19 g20 h20 c20 b O M (N.set i x) (W.setCell ⟨h20, i, none⟩ (.int .u32 x)) := by
  have h8 := ty (v := .bool true) m.b8 m.r20
  have h17' := ty (v := .bool true) m.b17 m.r20
  have h19' := ty (v := .bool true) m.b19 m.r20
  have h20' := ty (v := .bool true) m.b20 m.r20
  have hs := (own_store m.r20 (i : Int) x).1
  rw [Int.toNat_natCast] at hs
  exact ⟨m.below.setCell (Nat.le_of_lt m.base20) _, blk_far m.b8 h8 _, blk_far m.b17 h17' _, blk_far m.b19 h19' _, blk_far m.b20 h20' _,
    own_setCell m.r17 (fun e => m.ne.2.2 (by simpa [Value.ownBlock] using e.symm)) _, own_setCell m.r19 (fun e => m.ne.1 (by simpa [Value.ownBlock] using e.symm)) _, hs, m.ne, m.bb⟩
end TMem
theorem add_block (ad : Addr) (i : Nat) : (ad.add i).block = ad.block := by unfold Addr.add; split <;> rfl
theorem rd_u32 {l : List Int} (h : ∀ x ∈ l, 0 ≤ x ∧ x < 4294967296) (i : Int) : U32 (rd l i) := by
  unfold rd
  rw [List.getD_eq_getElem?_getD]
  rcases Nat.lt_or_ge i.toNat l.length with hj | hj
  · rw [List.getElem?_eq_getElem hj]; exact h _ (List.getElem_mem hj)
  · rw [List.getElem?_eq_none hj]; exact ⟨by simp, by simp⟩
/-- What lies in memory behind the ranks. -/
structure UMem (w0 : World) (Wd Hd : Int) (ad : Addr) (n c g17 h17 k17 g22 h22 k22 g24 h24 k24 b : Nat) (O M N : List Int) (W : World) : Prop where
  below : Below w0.heap.size w0 W
  b8 : W.heap[w0.heap.size]? = some (.cells #[.int .i64 Wd, .int .i64 Hd, .slice (some ad) n c] 74 (0, 0))
  b17 : W.heap[g17]? = some (.cells #[.int .i64 Wd, .int .i64 Hd, .slice (some ⟨h17, 0, none⟩) O.length k17] 74 (0, 0))
  b22 : W.heap[g22]? = some (.cells #[.int .i64 Wd, .int .i64 Hd, .slice (some ⟨h22, 0, none⟩) M.length k22] 74 (0, 0))
  b24 : W.heap[g24]? = some (.cells #[.int .i64 Wd, .int .i64 Hd, .slice (some ⟨h24, 0, none⟩) N.length k24] 74 (0, 0))
  r17 : W.ownsRow b 85 1 (.slice (some ⟨h17, 0, none⟩) O.length k17) O.length (nums .u32 O)
  r22 : W.ownsRow b 85 1 (.slice (some ⟨h22, 0, none⟩) M.length k22) M.length (nums .u32 M)
  r24 : W.ownsRow b 85 1 (.slice (some ⟨h24, 0, none⟩) N.length k24) N.length (nums .u32 N)
theorem row_grow {W W1 : World} {b n : Nat} {v : Value} {xs : List Value} (m : W.ownsRow b 85 1 v n xs) (h : Below W.heap.size W W1) : W1.ownsRow b 85 1 v n xs := own_move m (fun k hk => h.block k (own_lt m k hk))
theorem UMem.grow {w0 W W1 : World} {Wd Hd : Int} {ad : Addr} {n c g17 h17 k17 g22 h22 k22 g24 h24 k24 b : Nat} {O M N : List Int}
    (m : UMem w0 Wd Hd ad n c g17 h17 k17 g22 h22 k22 g24 h24 k24 b O M N W) (h : Below W.heap.size W W1) : UMem w0 Wd Hd ad n c g17 h17 k17 g22 h22 k22 g24 h24 k24 b O M N W1 :=
  ⟨below_then m.below m.below.size h, blk_below m.b8 h, blk_below m.b17 h, blk_below m.b22 h, blk_below m.b24 h, row_grow m.r17 h, row_grow m.r22 h, row_grow m.r24 h⟩
theorem TMem.two {w0 W W1 : World} {Wd Hd : Int} {ad : Addr} {n c g17 h17 k17 g19 h19 c19 g20 h20 c20 b h22 k22 h24 k24 b2 b4 : Nat} {O M N T R : List Int}
    (m : TMem w0 Wd Hd ad n c g17 h17 k17 g19 h19 c19 g20 h20 c20 b O M N W)
    (r24 : W1.ownsRow b4 85 1 (.slice (some ⟨h24, 0, none⟩) R.length k24) R.length (nums .u32 R))
    (r22 : W.ownsRow b2 85 1 (.slice (some ⟨h22, 0, none⟩) T.length k22) T.length (nums .u32 T))
    (h : Below (W.alloc (.cells #[.int .i64 Wd, .int .i64 Hd, .slice (some ⟨h22, 0, none⟩) T.length k22] 74)).heap.size (W.alloc (.cells #[.int .i64 Wd, .int .i64 Hd, .slice (some ⟨h22, 0, none⟩) T.length k22] 74)) W1) :
    UMem w0 Wd Hd ad n c g17 h17 k17 W.heap.size h22 k22 W1.heap.size h24 k24 0 O T R (W1.alloc (.cells #[.int .i64 Wd, .int .i64 Hd, .slice (some ⟨h24, 0, none⟩) R.length k24] 74)) := by
  have hA := below_alloc (Below.refl W.heap.size W) (.cells #[.int .i64 Wd, .int .i64 Hd, .slice (some ⟨h22, 0, none⟩) T.length k22] 74)
  have hB := below_then hA hA.size h
  have m2 := m.grow hB
  have hC := below_alloc (Below.refl W1.heap.size W1) (.cells #[.int .i64 Wd, .int .i64 Hd, .slice (some ⟨h24, 0, none⟩) R.length k24] 74)
  have m3 := m2.grow hC
  exact ⟨m3.below, m3.b8, m3.b17, blk_alloc (blk_below (blk_new W _) h) _, blk_new W1 _, own_weaken m3.r17 (Nat.zero_le _), own_weaken (row_grow (row_grow r22 hB) hC) (Nat.zero_le _), own_weaken (row_grow r24 hC) (Nat.zero_le _)⟩
theorem rd_map (f : Int → Int) (l : List Int) (i : Nat) (h : i < l.length) : rd (l.map f) i = f (rd l i) := by
  unfold rd
  rw [Int.toNat_natCast, List.getD_eq_getElem?_getD, List.getD_eq_getElem?_getD, List.getElem?_map, List.getElem?_eq_getElem h]
  rfl
/-- Some are done. -/
def mixI (f : Int → Int) (i : Nat) (l : List Int) : List Int := (l.take i).map f ++ l.drop i
theorem mixI_zero (f : Int → Int) (l : List Int) : mixI f 0 l = l := by simp [mixI]
theorem mixI_all (f : Int → Int) (l : List Int) : mixI f l.length l = l.map f := by simp [mixI]
theorem mixI_succ (f : Int → Int) (i : Nat) (l : List Int) (h : i < l.length) : (mixI f i l).set i (f (rd l i)) = mixI f (i + 1) l := by
  unfold mixI rd
  have hl : ((l.take i).map f).length = i := by simp; omega
  rw [List.set_append_right _ _ (by omega), hl, Nat.sub_self, List.drop_eq_getElem_cons h, List.take_succ_eq_append_getElem h, List.map_append, List.append_assoc, Int.toNat_natCast,
    show l.getD i 0 = l[i] by simp [List.getD_eq_getElem?_getD, h]]
  rfl
set_option maxHeartbeats 4000000 in
set_option maxRecDepth 100000 in
theorem turned_calls (W H : Int) (A : Option Addr) (c : Nat) (l : List Int) (border ww hh k lo hi drop : Int) (w : World) (hr0 : Kd.C (Kd.int .u32) w A l.length l) (hc0 : l.length ≤ c) (hr : ∀ x ∈ l, 0 ≤ x ∧ x < 4294967296)
    (hlo : U32 lo) (hhi : U32 hi) (hd : -9223372036854775808 ≤ drop ∧ drop ≤ 9223372036854775807) :
    Calls Try.prog 13 #[.agg #[.int .i64 W, .int .i64 H, .slice A l.length c], .int .i64 border, .int .i64 ww, .int .i64 hh, .int .i64 k, .int .u32 lo, .int .u32 hi, .int .i64 drop] w fun e w' => e = .returned (.bool true) ∧ Below w.heap.size w w' := by
  have HR := Aside0.mk hr
  have HR0 := Aside0.mk hr0
  have HC := Aside0.mk hc0
  have B0 := Aside0.mk (below_alloc (Below.refl w.heap.size w) (Obj.cells #[.int .i64 W, .int .i64 H, .slice A l.length c] 74))
  have BK0 := Aside0.mk (blk_new w (Obj.cells #[.int .i64 W, .int .i64 H, .slice A l.length c] 74))
  by_cases hs : (l.length : Int) ≤ 2000 ∧ W ≤ 4000 ∧ H ≤ 4000
  · have hsm := decide_eq_true hs
    by_cases hch : chk W H l border ww hh k = 0
    · have HCH := Aside0.mk hch
      obtain ⟨ad, rfl⟩ : ∃ ad, A = some ad := by
        obtain ⟨ad, h, _⟩ := HR0.out.2.2 (chk_pos hch)
        exact ⟨ad, h⟩
      have hPL := fun w' h1 => plane_any W H (some ad) c l border ww hh k w' h1 hc0 hr hch
      clear hch
      have HOL := Aside0.mk (out_len HCH.out)
      have HOU := Aside0.mk (out_u32 (W := W) (H := H) (b := border) (ww := ww) (hh := hh) (k := k) hr)
      obtain ⟨O, hO⟩ : ∃ O, outL W H l border ww hh k = O := ⟨_, rfl⟩
      have NO := Aside0.mk hO
      rw [hO] at hPL HOL HOU
      clear hO
      have HOP := Aside0.mk (show 0 < O.length by rw [HOL.out]; exact chk_pos HCH.out)
      clear hr hr0 hc0
      go_enter Try.func13, Try.ntmps13
      go_upto_region 9 with (first
        | (go_at_call 60; refine (known_any _).mono ?_; rintro e w1 ⟨rfl, hb1⟩; have BK1 := Aside0.mk (blk_below BK0.out hb1); have B1 := Aside0.mk (below_then B0.out B0.out.size hb1); obtain ⟨c0, c1, c2⟩ := blk3 BK1.out; clear hb1)
        | (go_at_call 61; refine (small_any W H (some ad) c l _ (Kd.C_below HR0.out B1.out) HC.out).mono ?_; rintro e w2 ⟨rfl, hb2⟩; rw [hsm]; have BK2 := Aside0.mk (blk_below BK1.out hb2); have B2 := Aside0.mk (below_then B1.out B1.out.size hb2); obtain ⟨c0, c1, c2⟩ := blk3 BK2.out; clear hb2)
        | (go_at_call 62; refine (hPL _ (Kd.C_below HR0.out B2.out)).mono ?_; clear hPL; rintro e w3 ⟨v17, rfl, ho17, hb3⟩; obtain ⟨h17, k17, _, e17, _⟩ := own_block ho17 HOP.out; subst e17; have BK3 := Aside0.mk (blk_below BK2.out hb3); have B3 := Aside0.mk (below_then B2.out B2.out.size hb3); have HO17 := Aside0.mk ho17; obtain ⟨c0, c1, c2⟩ := blk3 BK3.out; clear hb3 ho17)
        | fail)
      have hw3 : w.heap.size < w3.heap.size := blk_lt BK3.out
      have BK4 := Aside0.mk (blk_alloc BK3.out (Obj.cells #[.int .i64 W, .int .i64 H, .slice (some ⟨h17, 0, none⟩) O.length k17] 74))
      have BK17 := Aside0.mk (blk_new w3 (Obj.cells #[.int .i64 W, .int .i64 H, .slice (some ⟨h17, 0, none⟩) O.length k17] 74))
      have B4 := Aside0.mk (below_alloc B3.out (Obj.cells #[.int .i64 W, .int .i64 H, .slice (some ⟨h17, 0, none⟩) O.length k17] 74))
      have HO4 := Aside0.mk (Kd.R_alloc HO17.out (Obj.cells #[.int .i64 W, .int .i64 H, .slice (some ⟨h17, 0, none⟩) O.length k17] 74))
      have hD : 0 ≤ (wrap64 (drop.tmod 32 + 32)).tmod 32 ∧ (wrap64 (drop.tmod 32 + 32)).tmod 32 < 32 := drop_range drop
      generalize (wrap64 (drop.tmod 32 + 32)).tmod 32 = D at hD ⊢
      generalize w3.alloc (Obj.cells #[.int .i64 W, .int .i64 H, .slice (some ⟨h17, 0, none⟩) O.length k17] 74) = w4 at BK4 BK17 B4 HO4 ⊢
      generalize w3.heap.size = g17 at hw3 BK17 ⊢
      clear c0 c1 c2 BK3 B3 HO17
      obtain ⟨c0, c1, c2⟩ := blk3 BK4.out
      have hCP : ∀ U W' : World, Below w.heap.size w U → U.heap[w.heap.size]? = some (Obj.cells #[.int .i64 W, .int .i64 H, .slice (some ad) l.length c] 74) → Below U.heap.size U W' →
          Calls Try.prog 58 #[.agg #[.int .i64 W, .int .i64 H, .slice (some ad) l.length c]] W' fun e w' => ∃ h cc : Nat, e = .returned (.agg #[.int .i64 W, .int .i64 H, .slice (some ⟨h, 0, none⟩) l.length cc]) ∧
            Kd.R (Kd.int .u32) 85 w' U.heap.size (fun _ => True) (.slice (some ⟨h, 0, none⟩) l.length cc) l ∧ Below W'.heap.size W' w' ∧
            (w'.cell? ⟨w.heap.size, 0, none⟩ = some (.int .i64 W) ∧ w'.cell? ⟨w.heap.size, 1, none⟩ = some (.int .i64 H) ∧ w'.cell? ⟨w.heap.size, 2, none⟩ = some (.slice (some ad) l.length c)) ∧
            w'.heap[w.heap.size]? = some (Obj.cells #[.int .i64 W, .int .i64 H, .slice (some ad) l.length c] 74) ∧ Below w.heap.size w w' ∧ Below U.heap.size U w' := by
        intro U W' h1 h2 h3
        have h4 := below_then h1 h1.size h3
        refine (copy_any W H (some ad) c l W' (Kd.C_below HR0.out h4) HC.out (chk_pos HCH.out) hs.1).mono ?_
        rintro e w' ⟨h, cc, rfl, h5, h6⟩
        have h7 := blk_below (blk_below h2 h3) h6
        exact ⟨h, cc, rfl, Kd.R_lower h5 h3.size, h6, blk3 h7, h7, below_then h4 h4.size h6, below_then h3 h3.size h6⟩
      go_cut [19, 20] from 47 to 50 (fun t u wx => ∃ g19 g20 h19 h20 c19 c20 : Nat, t = .pointer (some ⟨g19, 0, none⟩) ∧ u = .pointer (some ⟨g20, 0, none⟩) ∧ Below w4.heap.size w4 wx ∧ w4.heap.size ≤ g19 ∧ w4.heap.size ≤ g20 ∧ g19 ≠ g20 ∧
        wx.heap[g19]? = some (.cells #[.int .i64 W, .int .i64 H, .slice (some ⟨h19, 0, none⟩) l.length c19] 74 (0, 0)) ∧
        wx.heap[g20]? = some (.cells #[.int .i64 W, .int .i64 H, .slice (some ⟨h20, 0, none⟩) l.length c20] 74 (0, 0)) ∧
        (Kd.int .u32).R 85 wx w4.heap.size (fun _ => True) (.slice (some ⟨h19, 0, none⟩) l.length c19) l ∧
        (Kd.int .u32).R 85 wx w4.heap.size (fun _ => True) (.slice (some ⟨h20, 0, none⟩) l.length c20) l ∧ h19 ≠ h20)
      case first =>
        have t4 := World.new_ne w4 _ c0
        have u4 : w4.heap.size + 1 ≠ w.heap.size := by (have := blk_lt BK4.out; omega)
        go_region_held3 (fun w' => w'.cell? ⟨w.heap.size, 0, none⟩ = some (.int .i64 W) ∧ w'.cell? ⟨w.heap.size, 1, none⟩ = some (.int .i64 H) ∧ w'.cell? ⟨w.heap.size, 2, none⟩ = some (.slice (some ad) l.length c)) (go_keep)
          (first
            | (go_at_call 58; have := hoA; refine (hCP w5 _ hfA hkA ?hc).mono ?_; (case hc => repeat (first | (with_reducible exact Below.refl _ _) | (with_reducible apply below_alloc) | (with_reducible apply below_drew))); rintro e w6 ⟨hB, cB, rfl, hoB, hbB, ⟨dB0, dB1, dB2⟩, hkB, hfB, hsB⟩; try clear this
               try (have p1 := blk_below n1 hbB; obtain ⟨p1a, p1b, p1c, p1d, p1e, p1f⟩ := blk6 p1; have lv1 := blk_lt p1; have v1 : w6.heap.size ≠ w4.heap.size := Nat.ne_of_gt (blk_lt p1); have v1' := Ne.symm v1)
               try (have p1 := blk_below (blk_alloc n1 _) hbB; obtain ⟨p1a, p1b, p1c, p1d, p1e, p1f⟩ := blk6 p1; have lv1 := blk_lt p1; have v1 : w6.heap.size ≠ w4.heap.size := Nat.ne_of_gt (blk_lt p1); have v1' := Ne.symm v1)
               try (have p2 := blk_below n2 hbB; obtain ⟨p2a, p2b, p2c, p2d, p2e, p2f⟩ := blk6 p2)
               try (have p3 : w6.heap[w5.heap.size]? = some Z74 := blk_below (blk_new w5 Z74) hbB; obtain ⟨p3a, p3b, p3c, p3d, p3e, p3f⟩ := blk6 p3; have lq3 := blk_lt p3; have q3 : w6.heap.size ≠ w5.heap.size := Nat.ne_of_gt (blk_lt p3); have q3' := Ne.symm q3)
               try (have p3 : w6.heap[w5.heap.size]? = some Z74 := blk_below (blk_alloc (blk_new w5 Z74) Z74) hbB; have p4 : w6.heap[w5.heap.size + 1]? = some Z74 := blk_below (heap2 w5 Z74 Z74) hbB; obtain ⟨p3a, p3b, p3c, p3d, p3e, p3f⟩ := blk6 p3; obtain ⟨p4a, p4b, p4c, p4d, p4e, p4f⟩ := blk6 p4; have q4 := blk_lt p4)
               have t6 := World.new_ne w6 _ dB0; have u6 : w6.heap.size + 1 ≠ w.heap.size := by (have := blk_lt hkB; omega))
            | (go_at_call 58; refine (hCP w4 _ B4.out BK4.out ?hc).mono ?_; (case hc => repeat (first | (with_reducible exact Below.refl _ _) | (with_reducible apply below_alloc) | (with_reducible apply below_drew))); rintro e w5 ⟨hA, cA, rfl, hoA, hbA, ⟨dA0, dA1, dA2⟩, hkA, hfA, hsA⟩
               try (have n1 : w5.heap[w4.heap.size]? = some Z74 := blk_below (blk_drew (blk_new w4 Z74)) hbA; obtain ⟨n1a, n1b, n1c, n1d, n1e, n1f⟩ := blk6 n1; have lm1 := blk_lt n1; have m1 : w5.heap.size ≠ w4.heap.size := Nat.ne_of_gt (blk_lt n1); have m1' := Ne.symm m1)
               try (have n1 : w5.heap[w4.heap.size]? = some Z74 := blk_below (blk_drew (blk_alloc (blk_new w4 Z74) Z74)) hbA; have n2 : w5.heap[w4.heap.size + 1]? = some Z74 := blk_below (blk_drew (heap2 w4 Z74 Z74)) hbA; obtain ⟨n1a, n1b, n1c, n1d, n1e, n1f⟩ := blk6 n1; obtain ⟨n2a, n2b, n2c, n2d, n2e, n2f⟩ := blk6 n2; have lm2 := blk_lt n1; have m2 : w5.heap.size ≠ w4.heap.size := Nat.ne_of_gt (blk_lt n1); have m2' := Ne.symm m2; have lm3 := blk_lt n2; have m3 : w5.heap.size ≠ w4.heap.size + 1 := Nat.ne_of_gt (blk_lt n2); have m3' := Ne.symm m3)
               have t5 := World.new_ne w5 _ dA0; have u5 : w5.heap.size + 1 ≠ w.heap.size := by (have := blk_lt hkA; omega)))
        all_goals (go_wp2_with fail; go_meet)
        all_goals (
          have s1 := hsA.size
          have s2 := hsB.size
          have j1 := own_blk_lt hoA
          have j2 := own_blk_lt hoB
          have kAB := below_then hsA hsA.size hsB
          have hoA6 := Kd.R_below hoA hsB
          have hoB6 := Kd.R_lower hoB hsA.size
          refine ⟨_, _, hA, hB, cA, cB, rfl, rfl, ?_, ?_, ?_, ?_, ?_, ?_, ?_, ?_, ?_⟩
          · repeat (first | (with_reducible exact kAB) | (with_reducible apply below_alloc) | (with_reducible refine put3_below ?_ (by omega)))
          · omega
          · omega
          · first | omega | assumption
          · repeat (first | (with_reducible assumption) | (with_reducible exact blk_new _ _) | (with_reducible exact heap2 _ _ _) | (with_reducible exact put3_new _) | (with_reducible refine blk_alloc ?_ _) | (with_reducible refine put3_blk ?_) | (with_reducible refine put3_far ?_ (by omega)))
          · repeat (first | (with_reducible assumption) | (with_reducible exact blk_new _ _) | (with_reducible exact heap2 _ _ _) | (with_reducible exact put3_new _) | (with_reducible refine blk_alloc ?_ _) | (with_reducible refine put3_blk ?_) | (with_reducible refine put3_far ?_ (by omega)))
          · repeat (first | (with_reducible exact hoA6) | (with_reducible refine Kd.R_alloc ?_ _) | (with_reducible refine put3_R (by first | (with_reducible assumption) | (with_reducible refine put3_far ?_ (by omega); with_reducible assumption)) ?_))
          · repeat (first | (with_reducible exact hoB6) | (with_reducible refine Kd.R_alloc ?_ _) | (with_reducible refine put3_R (by first | (with_reducible assumption) | (with_reducible refine put3_far ?_ (by omega); with_reducible assumption)) ?_))
          · omega)
      case rest =>
        obtain ⟨g19, g20, h19, h20, c19, c20, rfl, rfl, hbx, hg19, hg20, hg, hk19, hk20, ho19, ho20, hne⟩ := hcut
        have m0 : TMem w W H ad l.length c g17 h17 k17 g19 h19 c19 g20 h20 c20 (w.heap.size + 1) O l l wc := by
          have q17 := own_blk_lt HO4.out
          have q19 := own_blk_lt ho19
          have q20 := own_blk_lt ho20
          have qs : w.heap.size < w4.heap.size := blk_lt BK4.out
          exact ⟨below_then B4.out B4.out.size hbx, blk_below BK4.out hbx, blk_below BK17.out hbx, hk19, hk20,
            own_weaken (own_move (Kd.own_of_R HO4.out) (fun k hk => hbx.block k (own_lt (Kd.own_of_R HO4.out) k hk))) (Nat.lt_of_lt_of_le (blk_lt BK2.out) (Nat.le_refl _)),
            own_weaken (Kd.own_of_R ho19) qs, own_weaken (Kd.own_of_R ho20) qs, ⟨hne, by omega, by omega⟩, Nat.lt_succ_self _⟩
        clear hbx hg19 hg20 hg hk19 hk20 ho19 ho20 hne hCP c0 c1 c2 BK0 BK1 BK2 B0 B1 B2 BK4 B4 HO4 BK17 hw3
        have HM0 := Aside0.mk m0
        clear m0
        go_wp2_with fail
        go_loopw [21] (fun v21 wr => ∃ i : Nat, i ≤ l.length ∧ v21 = .int .i64 i ∧ TMem w W H ad l.length c g17 h17 k17 g19 h19 c19 g20 h20 c20 (w.heap.size + 1) O (mixI turnI i l) (mixI (risesI lo hi D) i l) wr)
          (fun v21 _ => l.length - (intOf v21).toNat)
        case atStart => exact ⟨0, by omega, rfl, by rw [mixI_zero, mixI_zero]; exact HM0.out⟩
        case round =>
          obtain ⟨i, hile, rfl, m⟩ := hrel
          have HM := Aside0.mk m
          obtain ⟨d80, d81, d82⟩ := blk3 m.b8
          obtain ⟨d190, d191, d192⟩ := blk3 m.b19
          obtain ⟨d200, d201, d202⟩ := blk3 m.b20
          clear m
          by_cases hlt : i < l.length
          · obtain ⟨ad', ha, hcell⟩ := Kd.at_int (Kd.C_below HR0.out HM.out.below) i (by omega) (by omega)
            cases ha
            have e19 := own_at HM.out.r19 i (by omega) (by omega)
            have e20 := own_at HM.out.r20 i (by omega) (by omega)
            rw [Int.toNat_natCast] at e19 e20 hcell
            obtain ⟨e19a, e19b⟩ := e19
            obtain ⟨e20a, e20b⟩ := e20
            have hx : U32 (rd l i) := rd_u32 HR.out i
            have hRI := fun W' => rises_any (rd l i) lo hi D W' hx hlo hhi hD.1 hD.2
            have hXB := turn_bits (rd l i) hx
            have hadb : ad.block < w.heap.size := by
              obtain ⟨ad', ha, hcell'⟩ := Kd.at_int HR0.out i (by omega) (by omega)
              cases ha
              exact add_block ad _ ▸ World.block_lt_of_cell? _ _ hcell'
            have z1 := HM.out.base19
            have z2 := HM.out.base20
            have n1 : ad.block ≠ h19 := by omega
            have n1' := Ne.symm n1
            have n1a : (ad.add i).block ≠ h19 := by rw [add_block]; exact n1
            have n1b := Ne.symm n1a
            have n2 : ad.block ≠ h20 := by omega
            have n2a : (ad.add i).block ≠ h20 := by rw [add_block]; exact n2
            have n2b := Ne.symm n2a
            have n2' := Ne.symm n2
            have n3 := TMem.ty (v := .bool true) HM.out.b8 HM.out.r19
            have n3' := Ne.symm n3
            have n4 := TMem.ty (v := .bool true) HM.out.b8 HM.out.r20
            have n4' := Ne.symm n4
            have n5 := TMem.ty (v := .bool true) HM.out.b19 HM.out.r19
            have n5' := Ne.symm n5
            have n6 := TMem.ty (v := .bool true) HM.out.b19 HM.out.r20
            have n6' := Ne.symm n6
            have n7 := TMem.ty (v := .bool true) HM.out.b20 HM.out.r19
            have n7' := Ne.symm n7
            have n8 := TMem.ty (v := .bool true) HM.out.b20 HM.out.r20
            have n8' := Ne.symm n8
            have n9 := HM.out.ne.1
            have n9' := Ne.symm n9
            obtain ⟨x, hx'⟩ : ∃ x, rd l i = x := ⟨_, rfl⟩
            rw [hx'] at hcell hx hRI hXB
            have HX := Aside0.mk hx'
            clear hx'
            have b1 : (0 : Int) ≤ (i : Int) := by omega
            have b2 : (i : Int) < (l.length : Int) := by omega
            go_wp2_with fail
            go_region_held3 (fun w' => w'.cell? ⟨w.heap.size, 2, none⟩ = some (.slice (some ad) l.length c) ∧ w'.cell? ⟨g19, 2, none⟩ = some (.slice (some ⟨h19, 0, none⟩) l.length c19) ∧ w'.cell? ⟨g20, 2, none⟩ = some (.slice (some ⟨h20, 0, none⟩) l.length c20) ∧ w'.cell? (ad.add i) = some (.int .u32 x)) (go_keep)
              (first
                | (go_at_call 67; refine (hRI _).mono ?_; rintro e w5 ⟨rfl, ⟨n, rfl⟩⟩))
            clear n1 n1' n1a n1b n2 n2' n2a n2b n3 n3' n4 n4' n5 n5' n6 n6' n7 n7' n8 n8' n9 n9' d80 d81 d82 d190 d191 d192 d200 d201 d202 e19a e19b e20a e20b hcell hRI hXB
            go_wp2_with fail
            go_roundw
            case rel =>
              have m2 := ((HM.out.grow (pw_below_drewN (Below.refl wr.heap.size wr) (1 + n))).put19 i (turnI x)).put20 i (risesI lo hi D x)
              rw [← HX.out, mixI_succ _ _ _ hlt, mixI_succ _ _ _ hlt] at m2
              rw [← HX.out]
              exact ⟨i + 1, by omega, by go_num, m2⟩
            case measure => simp [intOf]; omega
          · obtain rfl : i = l.length := by omega
            have m1 := HM.out
            rw [mixI_all, mixI_all] at m1
            have HM1 := Aside0.mk m1
            clear m1 HM
            have hPT := fun (W' : World) (kk : Int) (hkk : kk = ww * hh - 1 - k) (hc : Kd.C (Kd.int .u32) W' (some ⟨h19, 0, none⟩) l.length (l.map turnI)) => plane_turned W H l border ww hh k kk h19 c19 W' HCH.out HR.out hkk (own_cap HM1.out.r19) hc
            have hPR := fun (W' : World) (hc : Kd.C (Kd.int .u32) W' (some ⟨h20, 0, none⟩) l.length (l.map (risesI lo hi D))) => plane_through W H l border ww hh k lo hi D h20 c20 W' HCH.out HR.out hlo hhi (own_cap HM1.out.r20) hc
            rw [NO.out] at hPT hPR
            have hww := chk_win HCH.out
            obtain ⟨OT, hOT⟩ : ∃ T, O.map turnI = T := ⟨_, rfl⟩
            obtain ⟨OR, hOR⟩ : ∃ T, O.map (risesI lo hi D) = T := ⟨_, rfl⟩
            have LT := Aside0.mk (show OT.length = O.length by rw [← hOT]; simp)
            have LR := Aside0.mk (show OR.length = O.length by rw [← hOR]; simp)
            rw [hOT] at hPT
            rw [hOR] at hPR
            have NT := Aside0.mk hOT
            have NR := Aside0.mk hOR
            clear hOT hOR
            obtain ⟨d80, d81, d82⟩ := blk3 HM1.out.b8
            obtain ⟨d190, d191, d192⟩ := blk3 HM1.out.b19
            go_upto_region 16 with (first
              | (go_at_call_of 62 (Value.agg #[.int .i64 W, .int .i64 H, .slice (some ⟨h19, 0, none⟩) l.length c19]); refine (hPT _ _ ?hk ?hc).mono ?_; (case hk => rfl); (case hc => exact C_own HM1.out.r19); rintro e w5 ⟨h22, c22, rfl, ho22, hb5⟩; have HM2 := Aside0.mk (HM1.out.grow hb5); have HO22 := Aside0.mk ho22; obtain ⟨f0, f1, f2⟩ := blk3 HM2.out.b20; have z20 := blk_lt HM2.out.b20; clear ho22 hb5)
              | (go_at_call_of 62 (Value.agg #[.int .i64 W, .int .i64 H, .slice (some ⟨h20, 0, none⟩) l.length c20]); refine (hPR _ ?hc).mono ?_; (case hc => exact Kd.C_alloc (C_own HM2.out.r20) _); rintro e w6 ⟨h24, c24, rfl, ho24, hb6⟩; have HM3 := Aside0.mk (HM2.out.two ho24 HO22.out hb6))
              | fail)
            clear d80 d81 d82 d190 d191 d192 f0 f1 f2 z20 ho24 hb6 HO22 HM2 HM1 HM0 hPT hPR
            generalize w6.alloc (Obj.cells #[.int .i64 W, .int .i64 H, .slice (some ⟨h24, 0, none⟩) OR.length c24] 74) = w7 at HM3 ⊢
            generalize w6.heap.size = g24 at HM3 ⊢
            generalize w5.heap.size = g22 at HM3 ⊢
            obtain ⟨d80, d81, d82⟩ := blk3 HM3.out.b8
            obtain ⟨d170, d171, d172⟩ := blk3 HM3.out.b17
            go_wp2_with (first
              | (go_at_call_of 66 (Value.agg #[.int .i64 W, .int .i64 H, .slice (some ⟨h17, 0, none⟩) O.length k17]); refine (sized_any W H _ _ _ _ _ _ _ (C_own HM3.out.r17) (own_cap HM3.out.r17) (Kd.C_below HR0.out HM3.out.below) HC.out HOL.out).mono ?_; rintro e w8 ⟨rfl, hb8⟩; have HM4 := Aside0.mk (HM3.out.grow hb8); obtain ⟨e80, e81, e82⟩ := blk3 HM4.out.b8; obtain ⟨e220, e221, e222⟩ := blk3 HM4.out.b22; clear hb8)
              | (go_at_call_of 66 (Value.agg #[.int .i64 W, .int .i64 H, .slice (some ⟨h22, 0, none⟩) OT.length c22]); refine (sized_any W H _ _ _ _ _ _ _ (C_own HM4.out.r22) (own_cap HM4.out.r22) (Kd.C_below HR0.out HM4.out.below) HC.out (LT.out.trans HOL.out)).mono ?_; rintro e w9 ⟨rfl, hb9⟩; have HM5 := Aside0.mk (HM4.out.grow hb9); obtain ⟨f80, f81, f82⟩ := blk3 HM5.out.b8; obtain ⟨f240, f241, f242⟩ := blk3 HM5.out.b24; clear hb9)
              | (go_at_call_of 66 (Value.agg #[.int .i64 W, .int .i64 H, .slice (some ⟨h24, 0, none⟩) OR.length c24]); refine (sized_any W H _ _ _ _ _ _ _ (C_own HM5.out.r24) (own_cap HM5.out.r24) (Kd.C_below HR0.out HM5.out.below) HC.out (LR.out.trans HOL.out)).mono ?_; rintro e wa ⟨rfl, hba⟩; have HM6 := Aside0.mk (HM5.out.grow hba); clear hba)
              | fail)
            clear HM3 HM4 HM5 d80 d81 d82 d170 d171 d172 e80 e81 e82 e220 e221 e222 f80 f81 f82 f240 f241 f242
            obtain ⟨d80, d81, d82⟩ := blk3 HM6.out.b8
            obtain ⟨d170, d171, d172⟩ := blk3 HM6.out.b17
            obtain ⟨d220, d221, d222⟩ := blk3 HM6.out.b22
            obtain ⟨d240, d241, d242⟩ := blk3 HM6.out.b24
            go_loopw [26] (fun v26 wr => ∃ i : Nat, i ≤ l.length ∧ v26 = .int .i64 i ∧ ∃ q, wr = wa.drewN q) (fun v26 _ => l.length - (intOf v26).toNat)
            case atStart => exact ⟨0, by omega, rfl, 0, rfl⟩
            case round =>
              obtain ⟨i, hile, rfl, q, rfl⟩ := hrel
              by_cases hlt : i < l.length
              · have e22 := (own_at HM6.out.r22 i (by omega) (by have := LT.out; have := HOL.out; omega)).1
                have e24 := (own_at HM6.out.r24 i (by omega) (by have := LR.out; have := HOL.out; omega)).1
                have e17 := (own_at HM6.out.r17 i (by omega) (by have := HOL.out; omega)).1
                rw [Int.toNat_natCast] at e22 e24 e17
                rw [← NT.out, rd_map turnI O i (by have := HOL.out; omega)] at e22
                rw [← NR.out, rd_map (risesI lo hi D) O i (by have := HOL.out; omega)] at e24
                have hx : U32 (rd O i) := rd_u32 HOU.out i
                have hRI := fun W' => rises_any (rd O i) lo hi D W' hx hlo hhi hD.1 hD.2
                have hXB := turn_bits (rd O i) hx
                generalize rd O i = y at e22 e24 e17 hRI hXB
                have b1 : (0 : Int) ≤ (i : Int) := by omega
                have b2 : (i : Int) < (l.length : Int) := by omega
                have b3 : (i : Int) < (O.length : Int) := by (have := HOL.out; omega)
                have b4 : (i : Int) < (OT.length : Int) := by (have := HOL.out; have := LT.out; omega)
                have b5 : (i : Int) < (OR.length : Int) := by (have := HOL.out; have := LR.out; omega)
                go_wp2_with fail
                go_region_held3 (fun w' => w'.cell? ⟨g22, 2, none⟩ = some (.slice (some ⟨h22, 0, none⟩) OT.length c22) ∧ w'.cell? ⟨g17, 2, none⟩ = some (.slice (some ⟨h17, 0, none⟩) O.length k17) ∧ w'.cell? ⟨g24, 2, none⟩ = some (.slice (some ⟨h24, 0, none⟩) OR.length c24) ∧
                    w'.cell? ⟨h22, i, none⟩ = some (.int .u32 (turnI y)) ∧ w'.cell? ⟨h17, i, none⟩ = some (.int .u32 y) ∧ w'.cell? ⟨h24, i, none⟩ = some (.int .u32 (risesI lo hi D y))) (go_keep)
                  (first
                    | (go_at_call 67; refine (hRI _).mono ?_; rintro e w5 ⟨rfl, ⟨n, rfl⟩⟩))
                go_wp2_with fail
                go_roundw
                case rel => exact ⟨i + 1, by omega, by go_num, _, rfl⟩
                case measure => simp [intOf]; omega
              · obtain rfl : i = l.length := by omega
                go_wp2_with fail
                go_ret
                exact ⟨rfl, pw_below_drewN HM6.out.below _⟩
    · have hPE := fun w' h1 => plane_err W H A c l border ww hh k w' h1 hc0 hr hch
      have hce : (chk W H l border ww hh k != 0) = true := by simpa using hch
      generalize chk W H l border ww hh k = ce at hPE hce hch
      clear hr hr0 hc0
      go_enter Try.func13, Try.ntmps13
      go_wp2_with (first
        | (go_at_call 60; refine (known_any _).mono ?_; rintro e w1 ⟨rfl, hb1⟩; have BK1 := Aside0.mk (blk_below BK0.out hb1); have B1 := Aside0.mk (below_then B0.out B0.out.size hb1); obtain ⟨c0, c1, c2⟩ := blk3 BK1.out; clear hb1)
        | (go_at_call 61; refine (small_any W H A c l _ (Kd.C_below HR0.out B1.out) HC.out).mono ?_; rintro e w2 ⟨rfl, hb2⟩; rw [hsm]; have BK2 := Aside0.mk (blk_below BK1.out hb2); have B2 := Aside0.mk (below_then B1.out B1.out.size hb2); obtain ⟨c0, c1, c2⟩ := blk3 BK2.out; clear hb2)
        | (go_at_call 62; refine (hPE _ (Kd.C_below HR0.out B2.out)).mono ?_; clear hPE; rintro e w3 ⟨v17, rfl, ho17, hb3⟩; obtain ⟨A17, k17, e17⟩ := Kd.R_slice ho17; subst e17; have B3 := Aside0.mk (below_then B2.out B2.out.size hb3); clear hb3 ho17)
        | fail)
      go_ret
      exact ⟨rfl, below_alloc B3.out _⟩
  · have hsm := decide_eq_false hs
    clear hs hr hr0 hc0
    go_enter Try.func13, Try.ntmps13
    go_wp2_with (first
      | (go_at_call 60; refine (known_any _).mono ?_; rintro e w1 ⟨rfl, hb1⟩; have BK1 := Aside0.mk (blk_below BK0.out hb1); have B1 := Aside0.mk (below_then B0.out B0.out.size hb1); obtain ⟨c0, c1, c2⟩ := blk3 BK1.out; clear hb1)
      | (go_at_call 61; refine (small_any W H A c l _ (Kd.C_below HR0.out B1.out) HC.out).mono ?_; rintro e w2 ⟨rfl, hb2⟩; rw [hsm]; have B2 := Aside0.mk (below_then B1.out B1.out.size hb2); clear hb2)
      | fail)
    go_ret
    exact ⟨rfl, B2.out⟩
end Go.Proofs.Ytcoegjdnobiogaa.Rk
