/- slices.Concat over lists of spans: its contract. -/
import Derived.Test.YtcoegjdnobiogaaRgS
import Derived.Test.YtcoegjdnobiogaaRgA
set_option linter.unusedVariables false
set_option linter.unusedSimpArgs false
namespace Go.Proofs.Ytcoegjdnobiogaa.PG
open Go.RowKit Go.Proofs.YtcoegjdnobiogaaW.PrintWords Go.Proofs.YtcoegjdnobiogaaW.PrintLast Go.Proofs.YtcoegjdnobiogaaW.PrintMore

namespace Rg
theorem info114 : (Try.prog.info? 114).map (fun i => (i.zero, i.size, i.bytes)) = some (some (.agg #[.int .i64 0, .int .i64 0]), 2, 16) := by kernel_rfl
theorem growAny (n : Nat) (w : World) (hn : n * 16 ≤ 140737488355328) :
    Calls Try.prog 182 #[.slice none 0 0, .int .i64 n] w fun e w' => ∃ v, e = .returned v ∧ Kd.R k114 114 w' w.heap.size (fun _ => True) v [] ∧ Below w.heap.size w w' := by
  rcases Nat.eq_zero_or_pos n with h0 | h0
  · subst h0
    refine (Any8.slices_Grow_room Try.laysGrow none 0 0 0 w (by omega) (by omega) (by omega) (by omega)).mono ?_
    rintro e w' ⟨rfl, rfl⟩
    exact ⟨_, rfl, Kd.R_nil _ _ _ _ _, Below.refl _ _⟩
  · obtain ⟨i0, hi, hzz⟩ := Option.map_eq_some_iff.1 info114
    simp only [Prod.mk.injEq] at hzz
    obtain ⟨hz0, hz1, hz2⟩ := hzz
    refine (Any8.slices_Grow_grow Try.laysGrow i0 _ hi hz0 (by omega) none 0 0 n [] w (by omega) (by omega) (by rw [hz2]; omega) (by omega) (by simp) (fun _ => rfl) (fun a ha => by cases ha)).mono ?_
    rintro e w' ⟨rfl, rfl⟩
    refine ⟨_, rfl, ?_, below_alloc (pw_below_drewN (Below.refl _ _) 1) _⟩
    have hge := grownCap_ge w (0 + n) 0 114
    have hle := grownCap_le_maxLen w (0 + n) 0 114 (by unfold maxLen; omega)
    rw [show Try.laysGrow_ren.t 25 = 114 from rfl]
    generalize grownCap w (0 + n) 0 114 = G at hge hle
    refine ⟨fun _ _ => trivial, [], ⟨by simp, .inr ⟨w.heap.size, G, _, rfl, Nat.le_refl _, heap_alloc_new w.drew _, Nat.zero_le _, hle, ?_, by simp⟩⟩, Reps.none _ _⟩
    have hs : (Value.agg #[.int .i64 0, .int .i64 0]).cells.size = 2 := rfl
    simp only [Array.size_append, size_zeroCells, hs]
    rw [show k114.sz = 2 from rfl]
    simp
    omega
def total : List (List S114) → Nat
  | [] => 0
  | l :: ls => l.length + total ls
theorem total_flatten (ls : List (List S114)) : ls.flatten.length = total ls := by
  induction ls with
  | nil => rfl
  | cons l ls ih => simp [total, ih]
theorem total_snoc (ls : List (List S114)) (l : List S114) : total (ls ++ [l]) = total ls + l.length := by
  rw [← total_flatten, ← total_flatten]; simp
theorem total_append (a b : List (List S114)) : total (a ++ b) = total a + total b := by
  rw [← total_flatten, ← total_flatten, ← total_flatten]; simp
theorem total_take_le (ls : List (List S114)) (i : Nat) : total (ls.take i) ≤ total ls := by
  have h := total_append (ls.take i) (ls.drop i)
  rw [List.take_append_drop] at h
  omega
theorem take_succ' (ls : List (List S114)) (i : Nat) (h : i < ls.length) : ls.take (i + 1) = ls.take i ++ [ls.getD i []] := by
  rw [List.take_succ_eq_append_getElem h]
  simp [h, List.getD_eq_getElem?_getD]
theorem at_spans {w : World} {A : Option Addr} {n : Nat} {ls : List (List S114)} (h : Kd.C (Kd.slice 114 k114) w A n ls) (i : Nat) (hi : i < n) :
    ∃ ad A0 c0, A = some ad ∧ w.cell? (ad.add i) = some (.slice A0 (ls.getD i []).length c0) ∧ (ls.getD i []).length ≤ c0 ∧ Kd.C k114 w A0 (ls.getD i []).length (ls.getD i []) := by
  obtain ⟨ad, cs, ha, _, ⟨A1, c1, rfl, hc1, hC1⟩, hcell⟩ := Kd.C_get h [] (i : Int) (by omega) (by omega)
  have h0 := hcell 0 _ rfl
  simp only [Int.toNat_natCast] at h0 hc1 hC1
  refine ⟨ad, A1, c1, ha, ?_, hc1, hC1⟩
  rwa [show (Kd.slice 114 k114).sz = 1 from rfl, Nat.mul_one, Nat.add_zero] at h0
set_option maxHeartbeats 1000000 in
set_option maxRecDepth 100000 in
theorem concatAny (A : Option Addr) (c : Nat) (ls : List (List S114)) (w : World) (hr : Kd.C (Kd.slice 114 k114) w A ls.length ls) (hl : total ls * 16 < 140737488355328) (hl2 : ls.length ≤ 4611686018427387904) :
    Calls Try.prog 162 #[.slice A ls.length c] w fun e w' => ∃ v, e = .returned v ∧ Kd.R k114 114 w' w.heap.size (fun _ => True) v ls.flatten ∧ Below w.heap.size w w' := by
  have HR := Aside0.mk hr
  clear hr
  go_enter Try.func162, Try.ntmps162
  go_wp2
  go_loopw [3, 11] (fun v3 v11 wr => ∃ i : Nat, i ≤ ls.length ∧ v11 = .int .i64 i ∧ v3 = .int .i64 (total (ls.take i) : Nat) ∧ wr = w) (fun _ v11 _ => ls.length - (intOf v11).toNat)
  case atStart => exact ⟨0, by omega, rfl, rfl, rfl⟩
  case round =>
    obtain ⟨i, hi, rfl, rfl, rfl⟩ := hrel
    by_cases hlt : i < ls.length
    · obtain ⟨ad, A1, c1, ha, h0, hc1, hC1⟩ := at_spans HR.out i hlt
      subst ha
      have hT := total_take_le ls (i + 1)
      have hS : total (ls.take (i + 1)) = total (ls.take i) + (ls.getD i []).length := by rw [take_succ' ls i hlt, total_snoc]
      have HS := hid hS
      rw [hS] at hT
      clear hS hC1
      generalize (ls.getD i []).length = n at *
      go_wp2
      go_roundw
      case rel => exact ⟨i + 1, by omega, by go_num, by rw [HS.out]; go_num, by first | rfl | trivial⟩
      case measure => simp [intOf]; omega
    · have hi2 : i = ls.length := by omega
      have HT : Hid (total (ls.take i) = total ls) := by rw [hi2, List.take_length]; exact rfl
      clear hi2
      obtain ⟨w0, rfl⟩ : ∃ w0 : World, w0 = wr := ⟨_, rfl⟩
      go_wp2_with (go_at_call 182; rw [HT.out]; refine (growAny _ _ (by omega)).mono ?_; rintro e w1 ⟨v, rfl, hv, hb⟩)
      go_loopw [6, 27] (fun v6 v27 w2 => ∃ i : Nat, i ≤ ls.length ∧ v27 = .int .i64 i ∧ Aside0 (Kd.R k114 114 w2 w0.heap.size (fun _ => True) v6 (ls.take i).flatten) ∧ Aside0 (Below w0.heap.size w0 w2)) (fun _ v27 _ => ls.length - (intOf v27).toNat)
      case atStart => exact ⟨0, by omega, rfl, ⟨by simpa using hv⟩, ⟨hb⟩⟩
      case round =>
        obtain ⟨i, hi, rfl, HV, HBw⟩ := hrel
        by_cases hlt : i < ls.length
        · obtain ⟨ad, A1, c1, ha, h0, hc1, hC1⟩ := at_spans (Kd.C_below HR.out HBw.out) i hlt
          subst ha
          have HC := Aside0.mk hC1
          have hT := total_take_le ls (i + 1)
          have hS : total (ls.take (i + 1)) = total (ls.take i) + (ls.getD i []).length := by rw [take_succ' ls i hlt, total_snoc]
          rw [hS] at hT
          have HF := hid (show (ls.take (i + 1)).flatten = (ls.take i).flatten ++ ls.getD i [] by rw [take_succ' ls i hlt]; simp)
          clear hS hC1
          obtain ⟨y, hy⟩ : ∃ y, y = ls.getD i [] := ⟨_, rfl⟩
          rw [← hy] at h0 hc1 HC hT HF
          clear hy
          have hfl : (ls.take i).flatten.length = total (ls.take i) := total_flatten _
          have HFL := hid hfl
          clear hfl
          go_wp2_with (at_builtin; refine Kd.R_append_rows k114 (w0 := w0) w0.heap.size rfl (.tmp 31) (.tmp 32) 110 114 (.agg #[.int .i64 0, .int .i64 0]) 16 rfl Try.underlying110 info114 rfl (by decide) (by omega) u6 (ls.take i).flatten y _ _ _ (fun _ => True) (fun _ => False) rfl rfl HV.out HC.out ?aM (fun _ h => h.elim) (fun _ _ => trivial) HBw.out HBw.out.size ?aL ?_)
          case aM => intro x cs h; obtain ⟨_, _, rfl, rfl, rfl⟩ := h; exact k114_mkM _ _ _ x
          case aL => rw [HFL.out]; omega
          intro v1 w1 ho hb1 hg hat
          rw [← HF.out] at ho
          have HO := Aside0.mk ho
          have HB1 := Aside0.mk hb1
          clear ho hb1 hg hat
          go_wp2
          go_roundw
          case rel => exact ⟨i + 1, by omega, by go_num, HO, HB1⟩
          case measure => simp [intOf]; omega
        · have hi2 : i = ls.length := by omega
          have HE := hid (show (ls.take i).flatten = ls.flatten by rw [hi2, List.take_length])
          clear hi2
          go_wp2
          go_ret
          exact ⟨_, rfl, HE.out ▸ HV.out, HBw.out⟩
end Rg
def E_concat.f (l0 : List (List S114)) : Option (List S114) := if Rg.total l0 < 8796093022208 ∧ l0.length ≤ 4611686018427387904 then some l0.flatten else none
theorem E_concat.calls (A0 : Option Addr) (c0 : Nat) (l0 : List (List S114)) (r : List S114) (w : World) (hr0 : Kd.C (Kd.slice 114 k114) w A0 l0.length l0) (hc0 : l0.length ≤ c0) (h : E_concat.f l0 = some r) :
    Calls Try.prog 162 #[.slice A0 l0.length c0] w fun e w' => ∃ v0_ : Value, e = .returned (v0_) ∧ Kd.R k114 114 w' w.heap.size (fun _ => True) v0_ r ∧ Below w.heap.size w w' := by
  unfold E_concat.f at h
  by_cases hh : Rg.total l0 < 8796093022208 ∧ l0.length ≤ 4611686018427387904
  · rw [if_pos hh] at h
    injection h with h
    subst h
    exact Rg.concatAny A0 c0 l0 w hr0 (by omega) hh.2
  · rw [if_neg hh] at h
    cases h
end Go.Proofs.Ytcoegjdnobiogaa.PG
