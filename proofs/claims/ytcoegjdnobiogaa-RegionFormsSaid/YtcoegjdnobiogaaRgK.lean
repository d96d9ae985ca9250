/- region.Count: its contract. -/
import Derived.Test.YtcoegjdnobiogaaPHx4
import Derived.Outline
import Derived.WalkLawsBesides
import Derived.WalkSpells
import Derived.LoopTactic
set_option linter.unusedVariables false
set_option linter.unusedSimpArgs false
namespace Go.Proofs.Ytcoegjdnobiogaa.PG
open Go.RowKit Go.Proofs.YtcoegjdnobiogaaW.PrintWords Go.Proofs.YtcoegjdnobiogaaW.PrintLast Go.Proofs.YtcoegjdnobiogaaW.PrintMore

/-- What spans of a band, of bands, are counted to. -/
def sumSp (x y : Int) : Int → List S114 → Int
  | n, [] => n
  | n, s :: l => sumSp x y (wrap64 (n + wrap64 (wrap64 (s.f1 - s.f0) * wrap64 (y - x)))) l
def sumB : Int → List S112 → Int
  | n, [] => n
  | n, b :: l => sumB (sumSp b.f0 b.f1 n b.f2) l
def E_count.f (k : Nat) (l0 : List S58) : Option (Int × Int) := (region_right.f k l0).bind fun e => if e = 0 then (region_sweep_k75.f k l0 ([] : List S58) ()).bind fun B => some (sumB 0 B, 0) else some (0, e)
namespace Rg
theorem drop_T112 (B : List S112) (i : Nat) (h : i < B.length) : B.drop i = rd_T112 B (i : Int) :: B.drop (i + 1) := by
  rw [List.drop_eq_getElem_cons h]
  simp [rd_T112, h, List.getD_eq_getElem?_getD]
theorem drop_T114 (B : List S114) (i : Nat) (h : i < B.length) : B.drop i = rd_T114 B (i : Int) :: B.drop (i + 1) := by
  rw [List.drop_eq_getElem_cons h]
  simp [rd_T114, h, List.getD_eq_getElem?_getD]
end Rg

set_option maxHeartbeats 4000000 in
set_option maxRecDepth 100000 in
theorem E_count.calls (k : Nat) (A0 : Option Addr) (c0 : Nat) (l0 : List S58) (r1 r2 : Int) (w : World) (hr0 : Kd.C k58 w A0 l0.length l0) (hc0 : l0.length ≤ c0) (h : E_count.f k l0 = some (r1, r2)) :
    Calls Try.prog 38 #[.slice A0 l0.length c0] w fun e w' => e = .returned (.tuple #[.int .i64 r1, .int .i64 r2]) ∧ Below w.heap.size w w' := by
  unfold E_count.f at h
  obtain ⟨e, he, h⟩ := Option.bind_eq_some_iff.mp h
  by_cases h0 : e = 0
  · subst h0
    rw [if_pos rfl] at h
    obtain ⟨B, hB, h⟩ := Option.bind_eq_some_iff.mp h
    injection h with h
    injection h with h1 h2
    subst h1 h2
    have hR := fun W (hb : Below w.heap.size w W) => region_right.calls k A0 c0 l0 0 W (Kd.C_below hr0 hb) hc0 he
    have hS : ∀ W (hb : Below w.heap.size w W), Calls Try.prog 73 #[.slice A0 l0.length c0, .slice none 0 0, .func (.func 75) #[] #[]] W fun e w' => ∃ (Ao : Option Addr) (co : Nat), e = .returned (.slice Ao B.length co) ∧ Aside0 (Kd.C k112 w' Ao B.length B) ∧ Aside0 (B.length ≤ maxLen) ∧ Below w.heap.size w w' := by
      intro W hb
      have hs := region_sweep_k75.calls k (fun k_ => k_ < w.heap.size) A0 c0 l0 (fun k_ => k_ < w.heap.size) none 0 ([] : List S58) () B W (Kd.V_mk hc0 (Kd.F_below (Kd.C_F k58_heap hr0) hb)) (Kd.V_nil _ _ _ _ _) hB
      refine hs.mono ?_
      rintro e w' ⟨v, rfl, hv, hb2⟩
      obtain ⟨Ao, co, rfl⟩ := Kd.N_slice hv
      have hC := (Kd.N_reads' hv)
      exact ⟨Ao, co, rfl, ⟨hC.2.2⟩, ⟨hC.2.2.2.1⟩, below_then hb hb.size hb2⟩
    clear hr0 h he hB hc0
    go_enter Try.func38, Try.ntmps38
    go_wp2_with (first
      | (go_at_call 68; refine (hR _ (Below.refl _ _)).mono ?_; rintro e w1 ⟨rfl, hb1⟩; have HB1 := Aside0.mk hb1; clear hb1)
      | (go_at_call 73; refine (hS _ HB1.out).mono ?_; rintro e w2 ⟨Ao, co, rfl, HC, HM, hb2⟩; have HB2 := Aside0.mk hb2; clear hb2))
    clear hR hS
    have hM := HM.out
    unfold maxLen at hM
    go_loopw [5, 18] (fun v5 v18 wr => ∃ (i : Nat) (n : Int), i ≤ B.length ∧ v18 = .int .i64 i ∧ v5 = .int .i64 n ∧ Aside0 (sumB n (B.drop i) = sumB 0 B) ∧ Aside0 (Below w2.heap.size w2 wr)) (fun _ v18 _ => B.length - (intOf v18).toNat)
    case atStart => exact ⟨0, 0, by omega, rfl, rfl, ⟨rfl⟩, ⟨Below.refl _ _⟩⟩
    case round =>
      obtain ⟨i, n, hi, rfl, rfl, HI, HBl⟩ := hrel
      by_cases hlt : i < B.length
      · obtain ⟨ad, A2, c2, ha, h0, h1, h2, l2, g2⟩ := at_T112 (Kd.C_below HC.out HBl.out) (i : Int) (by omega) (by omega)
        subst ha
        simp only [Int.toNat_natCast] at h0 h1 h2
        have hm2 := g2.2.1
        unfold maxLen at hm2
        have HG := Aside0.mk g2
        have HD : Aside0 (B.drop i = rd_T112 B (i : Int) :: B.drop (i + 1)) := ⟨Rg.drop_T112 B i hlt⟩
        clear g2
        obtain ⟨b, hb⟩ : ∃ b, rd_T112 B (i : Int) = b := ⟨_, rfl⟩
        rw [hb] at h0 h1 h2 l2 hm2 HG HD
        clear hb
        obtain ⟨x, y, S⟩ := b
        dsimp only at h0 h1 h2 l2 hm2 HG
        go_wp2
        have HB3 := Aside0.mk (below_then HBl.out HBl.out.size (below_alloc (Below.refl wr.heap.size wr) (Obj.cells #[.int .i64 x, .int .i64 y, .slice A2 S.length c2] 112)))
        have HG3 := Aside0.mk (Kd.C_below HG.out (below_alloc (Below.refl wr.heap.size wr) (Obj.cells #[.int .i64 x, .int .i64 y, .slice A2 S.length c2] 112)))
        have HX := Aside0.mk (heap_alloc_new wr (Obj.cells #[.int .i64 x, .int .i64 y, .slice A2 S.length c2] 112))
        clear h0 h1 h2 HG HBl
        generalize wr.alloc (Obj.cells #[.int .i64 x, .int .i64 y, .slice A2 S.length c2] 112) = w3 at *
        generalize wr.heap.size = g7 at *
        go_loopw [5, 25] (fun v5 v25 wi => ∃ (j : Nat) (m : Int), j ≤ S.length ∧ v25 = .int .i64 j ∧ v5 = .int .i64 m ∧ Aside0 (sumSp x y m (S.drop j) = sumSp x y n S) ∧ Aside0 (Below w3.heap.size w3 wi)) (fun _ v25 _ => S.length - (intOf v25).toNat)
        case atStart => exact ⟨0, n, by omega, rfl, rfl, ⟨rfl⟩, ⟨Below.refl _ _⟩⟩
        case round =>
          obtain ⟨j, m, hj, rfl, rfl, HJ, HBi⟩ := hrel
          by_cases hlj : j < S.length
          · obtain ⟨aj, ha, s0, s1⟩ := at_T114 (Kd.C_below HG3.out HBi.out) (j : Int) (by omega) (by omega)
            subst ha
            simp only [Int.toNat_natCast] at s0 s1
            have HE : Aside0 (S.drop j = rd_T114 S (j : Int) :: S.drop (j + 1)) := ⟨Rg.drop_T114 S j hlj⟩
            obtain ⟨s, hs⟩ : ∃ s, rd_T114 S (j : Int) = s := ⟨_, rfl⟩
            rw [hs] at s0 s1 HE
            clear hs
            obtain ⟨p, q⟩ := s
            dsimp only at s0 s1
            have hx := (HBi.out.block g7 (Array.getElem?_eq_some_iff.1 HX.out).1).trans HX.out
            have x0 : wr.cell? ⟨g7, 0, none⟩ = some (.int .i64 x) := blk_cell hx 0
            have x1 : wr.cell? ⟨g7, 1, none⟩ = some (.int .i64 y) := blk_cell hx 1
            have hg7 : g7 < wr.heap.size := (Array.getElem?_eq_some_iff.1 hx).1
            clear hx
            have HJ2 : Aside0 (sumSp x y (wrap64 (m + wrap64 (wrap64 (q - p) * wrap64 (y - x)))) (S.drop (j + 1)) = sumSp x y n S) := ⟨by rw [← HJ.out, HE.out]; rfl⟩
            go_wp2
            go_roundw
            case rel => exact ⟨j + 1, _, by omega, by go_num, rfl, HJ2, ⟨below_then HBi.out HBi.out.size (below_alloc (Below.refl wr.heap.size wr) _)⟩⟩
            case measure => simp [intOf]; omega
          · have hj2 : j = S.length := by omega
            have HJ2 : Aside0 (sumSp x y n S = m) := ⟨by rw [← HJ.out, hj2, List.drop_length]; rfl⟩
            clear hj2
            have HI2 : Aside0 (sumB m (B.drop (i + 1)) = sumB 0 B) := ⟨by rw [← HI.out, HD.out, ← HJ2.out]; rfl⟩
            go_wp2
            go_roundw
            case rel => exact ⟨i + 1, m, by omega, by go_num, rfl, HI2, ⟨below_then HB3.out HB3.out.size HBi.out⟩⟩
            case measure => simp [intOf]; omega
      · have hi2 : i = B.length := by omega
        have HI2 : Aside0 (n = sumB 0 B) := ⟨by rw [← HI.out, hi2, List.drop_length]; rfl⟩
        clear hi2
        go_wp2
        go_ret2
        exact ⟨by (have e := HI2.out; show Ending.returned (.tuple #[.int .i64 n, .int .i64 0]) = _; rw [e]), below_then HB2.out HB2.out.size HBl.out⟩
  · rw [if_neg h0] at h
    injection h with h
    injection h with h1 h2
    subst h1 h2
    have hR := fun W (hb : Below w.heap.size w W) => region_right.calls k A0 c0 l0 e W (Kd.C_below hr0 hb) hc0 he
    have h0b : (e != 0) = true := by simpa using h0
    clear hr0 he hc0 h0
    go_enter Try.func38, Try.ntmps38
    go_wp2_with (go_at_call 68; refine (hR _ (Below.refl _ _)).mono ?_; rintro e w1 ⟨rfl, hb1⟩)
    go_ret2
    exact ⟨rfl, hb1⟩
end Go.Proofs.Ytcoegjdnobiogaa.PG
