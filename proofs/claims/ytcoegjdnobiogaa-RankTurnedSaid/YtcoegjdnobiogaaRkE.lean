/- rank.at and rank.Sorted, in the printer's form. -/
import Derived.Test.YtcoegjdnobiogaaRkB
set_option linter.unusedVariables false
set_option linter.unusedSimpArgs false
namespace Go.Proofs.Ytcoegjdnobiogaa
open Go.RowKit Go.Proofs.YtcoegjdnobiogaaW.PrintWords Go.Proofs.YtcoegjdnobiogaaW.PrintLast Go.Proofs.YtcoegjdnobiogaaW.PrintMore

/-- May rank's 'at' be asked: the plane may be, the window, the rank, the place. -/
def E_at.okB (W H : Int) (S : List Int) (border ww hh k c r : Int) : Bool :=
  decide (1 ≤ W ∧ W ≤ 1024 ∧ 1 ≤ H ∧ H ≤ 1024 ∧ (S.length : Int) = W * H ∧ 1 ≤ border ∧ border ≤ 3 ∧ 1 ≤ ww ∧ ww ≤ 15 ∧ 1 ≤ hh ∧ hh ≤ 15 ∧ 0 ≤ k ∧ k < ww * hh ∧ 0 ≤ c ∧ c ≤ 1024 ∧ 0 ≤ r ∧ r ≤ 1024) &&
  S.all fun x => decide (0 ≤ x ∧ x < 4294967296)
def E_at.val (W H : Int) (S : List Int) (border ww hh k c r : Int) : Int := (Rk.sortK (Rk.rowsTo (Rk.smp W H S border ww hh c r) ww.toNat hh.toNat)).getD k.toNat 0
def E_at.f (W H : Int) (S : List Int) (border ww hh k c r : Int) : Option Int :=
  if E_at.okB W H S border ww hh k c r = true then some (E_at.val W H S border ww hh k c r) else none
theorem E_at.calls (a0_0 : Int) (a0_1 : Int) (A0_2 : Option Addr) (c0_2 : Nat) (l0_2 : List Int) (a0_3 : Int) (a0_4 : Int) (a0_5 : Int) (a1 : Int) (a2 : Int) (a3 : Int) (r : Int) (w : World) (hr0_2 : Kd.C (Kd.int .u32) w A0_2 l0_2.length l0_2) (hc0_2 : l0_2.length ≤ c0_2) (h : E_at.f a0_0 a0_1 l0_2 a0_3 a0_4 a0_5 a1 a2 a3 = some r) :
    Calls Try.prog 155 #[.agg #[.int .i64 a0_0, .int .i64 a0_1, .slice A0_2 l0_2.length c0_2, .int .i64 a0_3, .int .i64 a0_4, .int .i64 a0_5], .int .i64 a1, .int .i64 a2, .int .i64 a3] w fun e w' => e = .returned (.int .u32 r) ∧ Below w.heap.size w w' := by
  unfold E_at.f at h
  by_cases ho : E_at.okB a0_0 a0_1 l0_2 a0_3 a0_4 a0_5 a1 a2 a3 = true
  · rw [if_pos ho] at h
    injection h with h
    subst h
    unfold E_at.okB at ho
    rw [Bool.and_eq_true, decide_eq_true_eq, List.all_eq_true] at ho
    obtain ⟨⟨h1, h2, h3, h4, h5, h6, h7, h8, h9, h10, h11, h12, h13, h14, h15, h16, h17⟩, h18⟩ := ho
    exact Rk.at_any a0_0 a0_1 A0_2 c0_2 l0_2 a0_3 a0_4 a0_5 a1 a2 a3 w h1 h2 h3 h4 h5 h6 h7 h8 h9 h10 h11 h12 h13 h14 h15 h16 h17 hr0_2 (fun x hx => by simpa using h18 x hx)
  · rw [if_neg ho] at h
    cases h

theorem Rk.info85 : (Try.prog.info? 85).map (fun i => (i.zero, i.size, i.bytes)) = some (some (.int .u32 0), 1, 4) := by kernel_rfl

set_option maxHeartbeats 1000000 in
theorem Rk.clone_any (ad : Addr) (c : Nat) (S : List Int) (w : World) (hr : Kd.C (Kd.int .u32) w (some ad) S.length S) (hc : S.length ≤ c) (hl : S.length * 4 ≤ 140737488355328) :
    Calls Try.prog 156 #[.slice (some ad) S.length c] w fun e w' => ∃ v, e = .returned v ∧ Kd.R (Kd.int .u32) 85 w' w.heap.size (fun _ => True) v S ∧ Below w.heap.size w w' := by
  have hnil := fun W => Lib.run_eql_slice_nil (P := Try.prog) W 72 85 (some ad) S.length c 0 0 Try.underlying72
  have HR := Aside0.mk hr
  clear hr hc
  go_enter Try.func156, Try.ntmps156
  go_wp2_with (at_builtin; refine Kd.R_append_rows (Kd.int .u32) (w0 := w) w.heap.size rfl (.tmp 5) (.tmp 6) 72 85 (.int .u32 0) 4 rfl Try.underlying72 Rk.info85 rfl (by decide) (by omega) (.slice (some ⟨w.heap.size, 0, none⟩) 0 0) ([] : List Int) S _ _ _ (fun _ => True) (fun _ => False) rfl rfl ?aO ?aR (fun _ _ h => h) (fun _ h => h.elim) ?aF ?aB ?aS ?aL ?_)
  case aO => exact Kd.R_of_own (xs := ([] : List Int)) (own_lit w w.heap.size 85 .u32 [] (Nat.le_refl _) (by simp)) (fun _ _ => trivial)
  case aR => exact Kd.C_below HR.out (below_alloc (Below.refl _ _) _)
  case aF => exact fun _ _ => trivial
  case aB => exact below_alloc (Below.refl _ _) _
  case aS => simp
  case aL => simpa using hl
  intro v1 w1 ho hb hg hat
  go_wp2
  go_ret
  exact ⟨v1, rfl, ho, hb⟩

/-- A row of the call's own that isn't empty: its block, whole. -/
theorem Rk.own_block {w : World} {base : Nat} {e : TypeId} {k : IntKind} {ok : Nat → Prop} {v : Value} {S : List Int} (h : Kd.R (Kd.int k) e w base ok v S) (h0 : 0 < S.length) :
    ∃ g cap cur, v = .slice (some ⟨g, 0, none⟩) S.length cap ∧ base ≤ g ∧ w.heap[g]? = some (.cells cur e (0, 0)) ∧ S.length ≤ cap ∧ cap ≤ maxLen ∧ cur.size = cap ∧ ∀ j, j < S.length → cur[j]? = some (.int k (S.getD j 0)) := by
  have ho := Kd.own_of_R h
  rcases ho.2 with ⟨_, h1⟩ | ⟨g, cap, cur, rfl, hb, hh, h1, h2, h3, h4⟩
  · omega
  · refine ⟨g, cap, cur, rfl, hb, hh, h1, h2, by omega, fun j hj => ?_⟩
    have h5 : (cur.toList.take (S.length * 1))[j]? = some (.int k (S.getD j 0)) := by
      rw [h4]
      simp [encs, List.getElem?_eq_getElem hj, List.getD_eq_getElem?_getD]
    rw [List.getElem?_take_of_lt (by omega), Array.getElem?_toList] at h5
    exact h5
theorem Rk.own_mk {w : World} {base g cap : Nat} {k : IntKind} {e : TypeId} {ok : Nat → Prop} {S : List Int} {cur : Array Value} (hb : base ≤ g) (hok : ok g) (hh : w.heap[g]? = some (.cells cur e (0, 0))) (h1 : S.length ≤ cap) (h2 : cap ≤ maxLen) (h3 : cur.size = cap)
    (hc : ∀ j, j < S.length → cur[j]? = some (.int k (S.getD j 0))) :
    Kd.R (Kd.int k) e w base ok (.slice (some ⟨g, 0, none⟩) S.length cap) S := by
  refine Kd.R_of_own (xs := S) ⟨?_, .inr ⟨g, cap, cur, rfl, hb, hh, h1, h2, by omega, ?_⟩⟩ (fun q hq => (show g = q by simpa [Value.ownBlock] using hq) ▸ hok)
  · simp [encs]
  · apply List.ext_getElem?
    intro j
    rcases Nat.lt_or_ge j S.length with hj | hj
    · rw [List.getElem?_take_of_lt (by omega), Array.getElem?_toList, hc j hj]
      simp [encs, List.getElem?_eq_getElem hj, List.getD_eq_getElem?_getD]
    · rw [List.getElem?_take_eq_none (by omega), List.getElem?_eq_none (by simpa [encs] using hj)]

def E_sorted.f (l : List Int) : Option (List Int) :=
  if 0 < l.length ∧ l.length ≤ 35184372088832 ∧ (∀ x ∈ l, 0 ≤ x ∧ x < 4294967296) then some (Rk.sortK l) else none
set_option maxHeartbeats 1000000 in
theorem E_sorted.calls (A0 : Option Addr) (c0 : Nat) (l0 : List Int) (r : List Int) (w : World) (hr0 : Kd.C (Kd.int .u32) w A0 l0.length l0) (hc0 : l0.length ≤ c0) (h : E_sorted.f l0 = some r) :
    Calls Try.prog 117 #[.slice A0 l0.length c0] w fun e w' => ∃ v0_ : Value, e = .returned v0_ ∧ Kd.R (Kd.int .u32) 85 w' w.heap.size (fun _ => True) v0_ r ∧ Below w.heap.size w w' := by
  unfold E_sorted.f at h
  by_cases hh : 0 < l0.length ∧ l0.length ≤ 35184372088832 ∧ (∀ x ∈ l0, 0 ≤ x ∧ x < 4294967296)
  · rw [if_pos hh] at h
    injection h with h
    subst h
    obtain ⟨h0, hl, hg⟩ := hh
    have hA : ∃ ad, A0 = some ad := by
      cases A0 with
      | none => obtain ⟨q, hq, _⟩ := hr0.2.2 h0; cases hq
      | some ad => exact ⟨ad, rfl⟩
    obtain ⟨ad, rfl⟩ := hA
    have hC : Calls Try.prog 156 #[.slice (some ad) l0.length c0] w fun e w' => ∃ g cap, e = .returned (.slice (some ⟨g, 0, none⟩) l0.length cap) ∧ w.heap.size ≤ g ∧ (∃ cs, w'.heap[g]? = some (.cells cs 85 (0, 0)) ∧ cs.size = cap ∧ ∀ j, j < l0.length → cs[j]? = some (.int .u32 (l0.getD j 0))) ∧ (l0.length ≤ cap ∧ cap ≤ maxLen) ∧ Below w.heap.size w w' := by
      refine (Rk.clone_any ad c0 l0 w hr0 hc0 (by omega)).mono ?_
      rintro e w' ⟨v, rfl, hv, hb⟩
      obtain ⟨g, cap, cur, rfl, h1, h2, h3, h4, h5, h6⟩ := Rk.own_block hv h0
      exact ⟨g, cap, rfl, h1, ⟨cur, h2, h5, h6⟩, ⟨h3, h4⟩, hb⟩
    clear hr0
    have HG := Aside0.mk hg
    clear hg
    go_enter Try.func117, Try.ntmps117
    go_wp2_with (first
      | (go_at_call 156; refine hC.mono ?_; rintro e w1 ⟨g, cap, rfl, hge, ⟨cs, hcs, hsz, hcc⟩, hcap, hb⟩; have HC := Aside0.mk hcs; have HS := Aside0.mk hsz; have HX := Aside0.mk hcc; clear hcs hsz hcc)
      | (go_at_call 157; refine (Rk.sort_any g cap l0 85 w1 ⟨cs, HC.out, HX.out⟩ (by omega) HG.out cap (fun cs' h' => by rw [HC.out] at h'; cases h'; exact HS.out)).mono ?_; rintro e w2 ⟨rfl, hc2, hg2, cs', hh', hs'⟩))
    go_ret
    have hlen : (Rk.sortK l0).length = l0.length := (Rk.sortK_perm l0).length_eq
    refine ⟨_, rfl, ?_, hb.grown hg2 hb.size (fun q hq => by cases hq; omega)⟩
    have key := Rk.own_mk (S := Rk.sortK l0) (base := w.heap.size) (ok := fun _ => True) (k := .u32) hge trivial hh' (by omega) hcap.2 hs' (fun j hj => by
      have h5 := hc2 j (by omega)
      unfold World.cell? at h5
      rw [hh'] at h5
      simpa using h5)
    rw [hlen] at key
    exact key
  · rw [if_neg hh] at h
    cases h
end Go.Proofs.Ytcoegjdnobiogaa
