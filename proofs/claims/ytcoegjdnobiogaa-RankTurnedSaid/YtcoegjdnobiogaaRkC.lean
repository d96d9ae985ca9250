/- rank's sort: by keys. -/
import Derived.Test.YtcoegjdnobiogaaRkA
import Derived.Shelf.SlSortCmp.Whole1
import Derived.Test.YtcoegjdnobiogaaLaysR
import Derived.Shelf.SlGeneric
import Derived.Ground.SlsfProg
set_option linter.unusedVariables false
set_option linter.unusedSimpArgs false
namespace Go.Proofs.Ytcoegjdnobiogaa.Rk
open Go.RowKit Go.Shelf Go.Lib Go.Sort Go.Proofs.YtcoegjdnobiogaaW.PrintWords

def keyI (x : Int) : Int := if x < 2147483648 then x + 2147483648 else 4294967295 - x
def insK (x : Int) : List Int → List Int
  | [] => [x]
  | y :: l => if keyI x ≤ keyI y then x :: y :: l else y :: insK x l
/-- By keys, rising. -/
def sortK : List Int → List Int
  | [] => []
  | x :: l => insK x (sortK l)
theorem insK_perm (x : Int) (l : List Int) : (insK x l).Perm (x :: l) := by
  induction l with
  | nil => exact List.Perm.refl _
  | cons y l ih =>
    unfold insK
    split
    · exact List.Perm.refl _
    · exact (ih.cons y).trans (List.Perm.swap x y l)
theorem sortK_perm (L : List Int) : (sortK L).Perm L := by
  induction L with
  | nil => exact List.Perm.refl _
  | cons x l ih => exact (insK_perm x _).trans (ih.cons x)
theorem insK_sorted (x : Int) (l : List Int) (h : l.Pairwise fun a b => keyI a ≤ keyI b) : (insK x l).Pairwise fun a b => keyI a ≤ keyI b := by
  induction l with
  | nil => simp [insK]
  | cons y l ih =>
    rw [List.pairwise_cons] at h
    unfold insK
    split
    · rename_i hxy
      rw [List.pairwise_cons, List.pairwise_cons]
      refine ⟨fun z hz => ?_, h.1, h.2⟩
      rcases List.mem_cons.1 hz with rfl | hz
      · exact hxy
      · exact Int.le_trans hxy (h.1 z hz)
    · rename_i hxy
      rw [List.pairwise_cons]
      refine ⟨fun z hz => ?_, ih h.2⟩
      rcases List.mem_cons.1 ((insK_perm x l).mem_iff.1 hz) with rfl | hz
      · omega
      · exact h.1 z hz
theorem sortK_sorted (L : List Int) : (sortK L).Pairwise fun a b => keyI a ≤ keyI b := by
  induction L with
  | nil => exact List.Pairwise.nil
  | cons x l ih => exact insK_sorted x _ ih
def cmpI (a b : Int) : Int := if a < b then -1 else if b < a then 1 else 0
theorem keyI_range (x : Int) (h : 0 ≤ x) (h2 : x < 4294967296) : 0 ≤ keyI x ∧ keyI x < 4294967296 := by unfold keyI; split <;> omega
theorem keyI_inj (x y : Int) (h : 0 ≤ x) (h2 : x < 4294967296) (g : 0 ≤ y) (g2 : y < 4294967296) (e : keyI x = keyI y) : x = y := by
  unfold keyI at e; split at e <;> split at e <;> omega

theorem sortK_unique (L M : List Int) (hr : ∀ x ∈ L, 0 ≤ x ∧ x < 4294967296) (hp : M.Perm L) (hs : M.Pairwise fun a b => keyI a ≤ keyI b) : M = sortK L := by
  refine List.Perm.eq_of_pairwise (le := fun a b => keyI a ≤ keyI b) ?_ hs (sortK_sorted L) (hp.trans (sortK_perm L).symm)
  intro a b ha hb h1 h2
  have h3 := hr a (hp.mem_iff.1 ha)
  have h4 := hr b ((sortK_perm L).mem_iff.1 hb)
  exact keyI_inj a b h3.1 h3.2 h4.1 h4.2 (by omega)

theorem isNaN_any (x : Int) (W : World) : Calls Try.prog 191 #[.int .u32 x] W fun e w' => e = .returned (.bool false) ∧ W = w' := by
  go_enter Try.func191, Try.ntmps191
  go_wp2
  go_ret
  exact ⟨by simp, rfl⟩

theorem key_any (x : Int) (W : World) (h : 0 ≤ x) (h2 : x < 4294967296) : Calls Try.prog 153 #[.int .u32 x] W fun e w' => e = .returned (.int .u32 (keyI x)) ∧ W = w' := by
  by_cases h3 : x < 2147483648
  · have HB : Hid (keyI x = x + 2147483648) := by simp [keyI, h3, Hid]
    go_enter Try.func153, Try.ntmps153
    go_wp2
    go_ret
    exact ⟨ret_int (by rw [HB.out]), rfl⟩
  · have HB : Hid (keyI x = 4294967295 - x) := by simp [keyI, h3, Hid]
    go_enter Try.func153, Try.ntmps153
    go_wp2
    go_ret
    exact ⟨ret_int (by rw [HB.out]), rfl⟩

theorem cmp_any (x y : Int) (W : World) : Calls Try.prog 178 #[.int .u32 x, .int .u32 y] W fun e w' => e = .returned (.int .i64 (cmpI x y)) ∧ W = w' := by
  by_cases h1 : x < y
  · have HB : Hid (cmpI x y = -1) := by simp [cmpI, h1, Hid]
    go_enter Try.func178, Try.ntmps178
    go_wp2_with (go_at_call 191; refine (isNaN_any _ _).mono ?_; rintro e w' ⟨rfl, rfl⟩)
    go_ret
    exact ⟨ret_int (by rw [HB.out]), rfl⟩
  · by_cases h2 : y < x
    · have HB : Hid (cmpI x y = 1) := by simp [cmpI, h1, h2, Hid]
      go_enter Try.func178, Try.ntmps178
      go_wp2_with (go_at_call 191; refine (isNaN_any _ _).mono ?_; rintro e w' ⟨rfl, rfl⟩)
      go_ret
      exact ⟨ret_int (by rw [HB.out]), rfl⟩
    · have HB : Hid (cmpI x y = 0) := by simp [cmpI, h1, h2, Hid]
      go_enter Try.func178, Try.ntmps178
      go_wp2_with (go_at_call 191; refine (isNaN_any _ _).mono ?_; rintro e w' ⟨rfl, rfl⟩)
      go_ret
      exact ⟨ret_int (by rw [HB.out]), rfl⟩

theorem closure177 (x y : Int) (W : World) (h : 0 ≤ x) (h2 : x < 4294967296) (g : 0 ≤ y) (g2 : y < 4294967296) :
    Calls Try.prog 177 #[.int .u32 x, .int .u32 y] W fun e w' => e = .returned (.int .i64 (cmpI (keyI x) (keyI y))) ∧ W = w' := by
  go_enter Try.func177, Try.ntmps177
  go_wp2_with (first | (go_at_call 153; refine (key_any _ _ (by omega) (by omega)).mono ?_; rintro e w' ⟨rfl, rfl⟩) | (go_at_call 178; refine (cmp_any _ _ _).mono ?_; rintro e w' ⟨rfl, rfl⟩))
  go_ret
  exact ⟨rfl, rfl⟩

def encU (u : UInt32) : Value := .int .u32 (u.toNat : Int)
def cfU (x y : UInt32) : Int := cmpI (keyI x.toNat) (keyI y.toNat)
theorem ltU (x y : UInt32) : ltOf cfU x y = decide (keyI x.toNat < keyI y.toNat) := by
  unfold ltOf cfU cmpI
  by_cases h1 : keyI x.toNat < keyI y.toNat
  · simp [h1]
  · by_cases h2 : keyI y.toNat < keyI x.toNat <;> simp [h1, h2]
theorem swoU : SWO (ltOf cfU) where
  irrefl x := by rw [ltU]; simp
  trans x y z h1 h2 := by rw [ltU] at *; simp at *; omega
  ntrans x y z h1 h2 := by rw [ltU] at *; simp at *; omega
theorem u32_lt (u : UInt32) : (u.toNat : Int) < 4294967296 := by have := u.toNat_lt; omega
theorem cmpReadsU (blk off size : Nat) (w : World) : CmpReads Try.prog 177 #[] encU cfU blk off size w :=
  fun _ _ _ _ x y => (closure177 x.toNat y.toNat _ (by omega) (u32_lt x) (by omega) (u32_lt y)).mono fun _ _ ⟨he, hw⟩ => ⟨he, 0, hw.symm⟩
theorem totU (x y : UInt32) (h : (ltOf cfU) x y = false) (g : (ltOf cfU) y x = false) : x = y := by
  rw [ltU] at *
  simp at h g
  have := keyI_inj x.toNat y.toNat (by omega) (u32_lt x) (by omega) (u32_lt y) (by omega)
  exact UInt32.toNat_inj.1 (by omega)
theorem grownBy_sortW {α : Type} [Inhabited α] {enc : α → Value} {w : World} {g n o : Nat} {os : Array Obj} (d : Array α) : w.grownBy (sortWorld enc w g o n d os) (some g) := by
  refine ⟨rfl, rfl, rfl, ?_, ?_⟩
  · simp [sortWorld, grow, Sort.ahead]
  · intro i hi hne
    have h1 : i ≠ g := fun e => hne (by rw [e])
    have h2 : i < (putRow enc (Sort.ahead w n) g o d).heap.size := by simpa [Sort.ahead] using hi
    simp only [sortWorld, grow]
    rw [Array.getElem?_append_left h2]
    simp [putRow, mapBlock, Array.getElem?_modify, Sort.ahead, Ne.symm h1]
theorem heap_sortW {α : Type} [Inhabited α] {enc : α → Value} {w : World} {g n : Nat} {os : Array Obj} {cur : Array Value} {e : TypeId} {fr : Nat × Nat} (d : Array α) (hb : w.heap[g]? = some (.cells cur e fr)) :
    (sortWorld enc w g 0 n d os).heap[g]? = some (.cells (putCells enc 0 d cur) e fr) := by
  have hg : g < w.heap.size := (Array.getElem?_eq_some_iff.1 hb).1
  unfold sortWorld
  rw [heap_grow_old _ _ (by simpa [Sort.ahead] using hg)]
  simp [putRow, mapBlock, Sort.ahead, Array.getElem?_modify, hb, onCells]

def toU (x : Int) : UInt32 := UInt32.ofNat x.toNat
theorem toU_nat (x : Int) (h : 0 ≤ x) (h2 : x < 4294967296) : ((toU x).toNat : Int) = x := by
  unfold toU
  rw [UInt32.toNat_ofNat_of_lt' (by show x.toNat < 4294967296; omega)]
  omega
theorem map_toU (L : List Int) (hr : ∀ x ∈ L, 0 ≤ x ∧ x < 4294967296) : (L.map toU).map (fun u => (u.toNat : Int)) = L := by
  rw [List.map_map]
  conv => rhs; rw [← List.map_id L]
  exact List.map_congr_left fun x hx => toU_nat x (hr x hx).1 (hr x hx).2
theorem holds_of (b : Nat) (L : List Int) (t : TypeId) (w : World) (cs : Array Value) (hb : w.heap[b]? = some (.cells cs t (0, 0))) (hc : ∀ j, j < L.length → cs[j]? = some (.int .u32 (L.getD j 0)))
    (hr : ∀ x ∈ L, 0 ≤ x ∧ x < 4294967296) : Holds encU w b 0 (L.map toU).toArray := by
  intro j hj
  have hj' : j < L.length := by simpa using hj
  constructor
  · rw [Nat.zero_add]
    unfold World.cell?
    rw [hb]
    show cs[j]? = _
    rw [hc j hj']
    simp [encU, hj', List.getD_eq_getElem?_getD]
    exact (toU_nat _ (hr _ (List.getElem_mem hj')).1 (hr _ (List.getElem_mem hj')).2).symm
  · unfold World.frozen?
    rw [hb]
    simp

set_option maxHeartbeats 1000000 in
theorem sort_any (b cap : Nat) (L : List Int) (t : TypeId) (w : World) (hb : ∃ cs, w.heap[b]? = some (.cells cs t (0, 0)) ∧ ∀ j, j < L.length → cs[j]? = some (.int .u32 (L.getD j 0))) (hl : L.length ≤ 140737488355328)
    (hr : ∀ x ∈ L, 0 ≤ x ∧ x < 4294967296) (m : Nat) (hm : ∀ cs, w.heap[b]? = some (.cells cs t (0, 0)) → cs.size = m) :
    Calls Try.prog 157 #[.slice (some ⟨b, 0, none⟩) L.length cap] w fun e w' =>
      e = .returned (.tuple #[]) ∧ (∀ j, j < L.length → w'.cell? ⟨b, j, none⟩ = some (.int .u32 ((sortK L).getD j 0))) ∧ w.grownBy w' (some b) ∧ ∃ cs', w'.heap[b]? = some (.cells cs' t (0, 0)) ∧ cs'.size = m := by
  obtain ⟨cs, hb1, hb2⟩ := hb
  have hH := holds_of b L t w cs hb1 hb2 hr
  have hlt : b < w.heap.size := (Array.getElem?_eq_some_iff.1 hb1).1
  have eg : ∀ args w, (callFunc 177 args).run Try.prog w = .ok (.enter 177 args) w := enters_of Try.func177 (by kernel_rfl) rfl
  have hcon := Any.slices_SortFunc Try.sortU encU (fun _ => rfl) cfU swoU 177 #[] b 0 cap (L.map toU).toArray w eg (cmpReadsU b 0 _ w).lays hH hlt (by simp; omega)
  change Calls Try.prog 176 _ _ _ at hcon
  have hcon2 : Calls Try.prog 176 #[.slice (some ⟨b, 0, none⟩) L.length cap, .func (.func 177) #[] #[]] w fun e w' =>
      e = .returned (.tuple #[]) ∧ (∀ j, j < L.length → w'.cell? ⟨b, j, none⟩ = some (.int .u32 ((sortK L).getD j 0))) ∧ w.grownBy w' (some b) ∧ ∃ cs', w'.heap[b]? = some (.cells cs' t (0, 0)) ∧ cs'.size = m := by
    rw [show (L.map toU).toArray.size = L.length by simp] at hcon
    refine hcon.mono ?_
    rintro e w' ⟨rfl, d', n, os, hp, hs, rfl⟩
    refine ⟨rfl, fun j hj => ?_, grownBy_sortW d', _, heap_sortW d' hb1, ?_⟩
    rotate_left
    · rw [← hm cs hb1]
      simp [putCells]
    have hsz : d'.size = (L.map toU).toArray.size := hp.1
    have hold := (holds_sortWorld encU w b 0 n _ d' os hlt hH hsz j (by rw [hsz]; simpa using hj)).1
    rw [Nat.zero_add] at hold
    have hj2 : j < d'.size := by rw [hsz]; simpa using hj
    have hK : sortK L = d'.toList.map (fun u => (u.toNat : Int)) := by
      have hperm : d'.toList.Perm (L.map toU) := by
        have h3 := hp.2.2
        have e1 : d'.extract 0 L.length = d' := by
          have : L.length = d'.size := by rw [hsz]; simp
          rw [this]; exact Array.extract_size
        have e2 : (L.map toU).toArray.extract 0 L.length = (L.map toU).toArray := by
          have : L.length = (L.map toU).toArray.size := by simp
          rw [this]; exact Array.extract_size
        rw [e1, e2] at h3
        exact h3
      symm
      refine sortK_unique L _ hr ?_ ?_
      · have := hperm.map (fun u : UInt32 => (u.toNat : Int))
        rwa [map_toU L hr] at this
      · rw [List.pairwise_map, List.pairwise_iff_getElem]
        intro i j hi hj hij
        have hi' : i < d'.size := by simpa using hi
        have hj' : j < d'.size := by simpa using hj
        have := hs i j (Nat.zero_le _) hij (by rw [hsz] at hj'; simpa using hj')
        rw [getElem!_pos d' j hj', getElem!_pos d' i hi', ltU] at this
        simp at this
        simpa using this
    rw [hold, hK]
    simp [encU, hj2, List.getD_eq_getElem?_getD]
  clear hcon hH
  go_enter Try.func157, Try.ntmps157
  go_wp2_with (go_at_call 176; refine hcon2.mono ?_; rintro e w' ⟨rfl, h1, h2, h3⟩)
  go_end0
  exact ⟨rfl, h1, h2, h3⟩
end Go.Proofs.Ytcoegjdnobiogaa.Rk
