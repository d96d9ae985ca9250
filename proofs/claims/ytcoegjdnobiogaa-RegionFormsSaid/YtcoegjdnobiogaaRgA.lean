/- region.in: is a column in spans: its contract. -/
import Derived.Test.YtcoegjdnobiogaaPGx0
import Derived.Test.YtcoegjdnobiogaaFv
import Derived.Outline
import Derived.WalkLawsBesides
import Derived.WalkSpells
import Derived.LoopTactic
set_option linter.unusedVariables false
set_option linter.unusedSimpArgs false
namespace Go.Proofs.Ytcoegjdnobiogaa.PG
open Go.RowKit Go.Proofs.YtcoegjdnobiogaaW.PrintWords Go.Proofs.YtcoegjdnobiogaaW.PrintLast Go.Proofs.YtcoegjdnobiogaaW.PrintMore

namespace Rg
theorem hid {p : Prop} (h : p) : Hid p := h
theorem ret_bool {a b : Bool} (h : a = b) : Ending.returned (.bool a) = .returned (.bool b) := by rw [h]
theorem ret_int {k : IntKind} {a b : Int} (h : a = b) : Ending.returned (.int k a) = .returned (.int k b) := by rw [h]
theorem inClosure (f t x : Int) (B : Nat) (W : World) (hB : W.cell? ⟨B, 0, none⟩ = some (.int .i64 x)) :
    Calls Try.prog 184 #[.agg #[.int .i64 f, .int .i64 t], .pointer (some ⟨B, 0, none⟩)] W fun e w' => e = .returned (.bool (decide (f ≤ x ∧ x < t))) ∧ Below W.heap.size W w' := by
  have hlt := World.block_lt_of_cell? W _ hB
  have hB2 : (W.alloc (.cells #[.int .i64 f, .int .i64 t] 114)).cell? ⟨B, 0, none⟩ = some (.int .i64 x) := by rw [World.cell?_alloc_lt _ _ _ hlt, hB]
  clear hB
  by_cases h1 : f ≤ x
  · have h1b : decide (f ≤ x) = true := decide_eq_true h1
    by_cases h2 : x < t
    · have h2b : decide (x < t) = true := decide_eq_true h2
      have HB := hid (show decide (f ≤ x ∧ x < t) = true from decide_eq_true ⟨h1, h2⟩)
      clear h1 h2
      go_enter Try.func184, Try.ntmps184
      go_wp2
      go_ret
      exact ⟨ret_bool (by first | rfl | rw [HB.out]), below_alloc (Below.refl _ _) _⟩
    · have h2b : decide (x < t) = false := decide_eq_false h2
      have HB := hid (show decide (f ≤ x ∧ x < t) = false from decide_eq_false fun h => h2 h.2)
      clear h1 h2
      go_enter Try.func184, Try.ntmps184
      go_wp2
      go_ret
      exact ⟨ret_bool (by first | rfl | rw [HB.out]), below_alloc (Below.refl _ _) _⟩
  · have h1b : decide (f ≤ x) = false := decide_eq_false h1
    have HB := hid (show decide (f ≤ x ∧ x < t) = false from decide_eq_false fun h => h1 h.1)
    clear h1
    go_enter Try.func184, Try.ntmps184
    go_wp2
    go_ret
    exact ⟨ret_bool (by first | rfl | rw [HB.out]), below_alloc (Below.refl _ _) _⟩
/-- slices.IndexFunc over spans, whatever the function that it is handed: a plain test of the two ends. -/
def idx (p : S114 → Bool) : Nat → List S114 → Int
  | _, [] => -1
  | i, s :: l => if p s then (i : Int) else idx p (i + 1) l
theorem idx_some (p : S114 → Bool) (l : List S114) : ∀ i, decide (0 ≤ idx p i l) = l.any p := by
  induction l with
  | nil => intro i; simp [idx]
  | cons s l ih =>
    intro i
    unfold idx
    by_cases h : p s = true
    · simp [h]
    · simp [h, ih]
set_option maxHeartbeats 1000000 in
theorem indexIn (A : Option Addr) (c : Nat) (l : List S114) (x : Int) (B : Nat) (w : World) (hr : Kd.C k114 w A l.length l) (hB : w.cell? ⟨B, 0, none⟩ = some (.int .i64 x)) (hl : l.length ≤ 9223372036854775807) :
    Calls Try.prog 203 #[.slice A l.length c, .func (.func 184) #[] #[.pointer (some ⟨B, 0, none⟩)]] w fun e w' => e = .returned (.int .i64 (idx (fun s => decide (s.f0 ≤ x ∧ x < s.f1)) 0 l)) ∧ Below w.heap.size w w' := by
  have HR := Aside0.mk hr
  have HB := Aside0.mk hB
  clear hr hB
  go_enter Try.func203, Try.ntmps203
  go_wp2
  go_loopw [8] (fun v8 wr => ∃ i : Nat, i ≤ l.length ∧ v8 = .int .i64 i ∧ Aside0 (Below w.heap.size w wr) ∧ Aside0 (idx (fun s => decide (s.f0 ≤ x ∧ x < s.f1)) i (l.drop i) = idx (fun s => decide (s.f0 ≤ x ∧ x < s.f1)) 0 l)) (fun v8 _ => l.length - (intOf v8).toNat)
  case atStart => exact ⟨0, by omega, rfl, ⟨Below.refl _ _⟩, ⟨rfl⟩⟩
  case round =>
    obtain ⟨i, hi, rfl, HBl, HI⟩ := hrel
    by_cases hlt : i < l.length
    · obtain ⟨ad, ha, h0, h1⟩ := at_T114 (Kd.C_below HR.out HBl.out) (i : Int) (by omega) (by omega)
      subst ha
      simp only [Int.toNat_natCast] at h0 h1
      have hBw : wr.cell? ⟨B, 0, none⟩ = some (.int .i64 x) := (HBl.out.cell (World.block_lt_of_cell? w _ HB.out)).trans HB.out
      have HBw := Aside0.mk hBw
      clear hBw
      have hget : rd_T114 l (i : Int) = l[i] := by simp [rd_T114, hlt, List.getD_eq_getElem?_getD]
      have hdrop : l.drop i = rd_T114 l (i : Int) :: l.drop (i + 1) := by rw [hget]; exact List.drop_eq_getElem_cons hlt
      have HD := hid hdrop
      clear hget hdrop
      by_cases hp : (rd_T114 l (i : Int)).f0 ≤ x ∧ x < (rd_T114 l (i : Int)).f1
      · have hp1 : decide ((rd_T114 l (i : Int)).f0 ≤ x ∧ x < (rd_T114 l (i : Int)).f1) = true := decide_eq_true hp
        have HI2 : Aside0 ((i : Int) = idx (fun s => decide (s.f0 ≤ x ∧ x < s.f1)) 0 l) := ⟨by rw [← HI.out, HD.out, idx, if_pos hp1]⟩
        obtain ⟨hp2, hp3⟩ := hp
        have hp4 : decide ((rd_T114 l (i : Int)).f0 ≤ x) = true := decide_eq_true hp2
        have hp5 : decide (x < (rd_T114 l (i : Int)).f1) = true := decide_eq_true hp3
        clear hp1
        go_wp2_with (go_at_call 184; refine (inClosure _ _ x B _ HBw.out).mono ?_; rintro e w' ⟨rfl, hb⟩)
        go_ret
        exact ⟨ret_int HI2.out, below_then HBl.out HBl.out.size hb⟩
      · have hp1 : decide ((rd_T114 l (i : Int)).f0 ≤ x ∧ x < (rd_T114 l (i : Int)).f1) = false := decide_eq_false hp
        have HI2 : Aside0 (idx (fun s => decide (s.f0 ≤ x ∧ x < s.f1)) (i + 1) (l.drop (i + 1)) = idx (fun s => decide (s.f0 ≤ x ∧ x < s.f1)) 0 l) := ⟨by rw [← HI.out, HD.out, idx, hp1]; simp⟩
        have hp2 : x < (rd_T114 l (i : Int)).f0 ∨ (rd_T114 l (i : Int)).f1 ≤ x := by omega
        have HP := hid hp1
        clear hp hp1
        go_wp2_with (go_at_call 184; refine (inClosure _ _ x B _ HBw.out).mono ?_; rintro e w' ⟨rfl, hb⟩; rw [HP.out])
        go_roundw
        case rel => exact ⟨i + 1, by omega, by go_num, ⟨below_then HBl.out HBl.out.size hb⟩, HI2⟩
        case measure => simp [intOf]; omega
    · have hi2 : i = l.length := by omega
      have HI2 : Aside0 ((-1 : Int) = idx (fun s => decide (s.f0 ≤ x ∧ x < s.f1)) 0 l) := ⟨by rw [← HI.out, hi2, List.drop_length, idx]⟩
      clear hi2
      go_wp2
      go_ret
      exact ⟨ret_int HI2.out, HBl.out⟩
theorem containsIn (A : Option Addr) (c : Nat) (l : List S114) (x : Int) (B : Nat) (w : World) (hr : Kd.C k114 w A l.length l) (hB : w.cell? ⟨B, 0, none⟩ = some (.int .i64 x)) (hl : l.length ≤ 9223372036854775807) :
    Calls Try.prog 183 #[.slice A l.length c, .func (.func 184) #[] #[.pointer (some ⟨B, 0, none⟩)]] w fun e w' => e = .returned (.bool (l.any fun s => decide (s.f0 ≤ x ∧ x < s.f1))) ∧ Below w.heap.size w w' := by
  have hc := indexIn A c l x B w hr hB hl
  have hs := idx_some (fun s => decide (s.f0 ≤ x ∧ x < s.f1)) l 0
  generalize idx (fun s => decide (s.f0 ≤ x ∧ x < s.f1)) 0 l = j at hc hs
  have HS := hid hs
  clear hr hB hs
  go_enter Try.func183, Try.ntmps183
  go_wp2_with (go_at_call 203; refine hc.mono ?_; rintro e w' ⟨rfl, hb⟩)
  go_ret
  exact ⟨ret_bool (by rw [← HS.out]), hb⟩
theorem inAny (A : Option Addr) (c : Nat) (l : List S114) (x : Int) (w : World) (hr : Kd.C k114 w A l.length l) (hl : l.length ≤ 9223372036854775807) :
    Calls Try.prog 163 #[.slice A l.length c, .int .i64 x] w fun e w' => e = .returned (.bool (l.any fun s => decide (s.f0 ≤ x ∧ x < s.f1))) ∧ Below w.heap.size w w' := by
  have hc := containsIn A c l x w.heap.size (w.alloc (.cells #[.int .i64 x] 3)) (Kd.C_below hr (below_alloc (Below.refl _ _) _)) (by rw [World.cell?_alloc_at _ _ _ _ rfl]; rfl) hl
  clear hr
  generalize (l.any fun s => decide (s.f0 ≤ x ∧ x < s.f1)) = b at hc ⊢
  go_enter Try.func163, Try.ntmps163
  go_wp2_with (go_at_call 183; refine hc.mono ?_; rintro e w' ⟨rfl, hb⟩)
  go_ret
  exact ⟨rfl, (below_alloc (Below.refl _ _) _).trans (hb.mono (by simp))⟩
end Rg
end Go.Proofs.Ytcoegjdnobiogaa.PG
