/- The plain law: what turns the keys round turns the ranks round; what rises by key may be done ahead. -/
import Derived.Test.YtcoegjdnobiogaaRkP
import Derived.Test.YtcoegjdnobiogaaPRx6
import Derived.Laws.Bits64
set_option linter.unusedVariables false
set_option linter.unusedSimpArgs false
namespace Go.Proofs.Ytcoegjdnobiogaa.Rk
open Go.RowKit Go.Proofs.YtcoegjdnobiogaaW.PrintWords Go.Proofs.YtcoegjdnobiogaaW.PrintLast Go.Proofs.YtcoegjdnobiogaaW.PrintMore PR

def U32 (x : Int) : Prop := 0 ≤ x ∧ x < 4294967296
theorem xor31 (r : Nat) (h : r < 2147483648) : r ^^^ 2147483648 = 2147483648 + r := by
  apply Nat.eq_of_testBit_eq
  intro i
  rw [Nat.testBit_xor, show (2147483648 : Nat) = 2 ^ 31 from rfl, Nat.testBit_two_pow]
  rcases Nat.lt_trichotomy i 31 with h1 | rfl | h1
  · rw [Nat.testBit_two_pow_add_gt h1, decide_eq_false (by omega), Bool.xor_false]
  · rw [Nat.testBit_two_pow_add_eq, Nat.testBit_lt_two_pow (by simpa using h)]; simp
  · have hp : 2 ^ 32 ≤ 2 ^ i := Nat.pow_le_pow_right (by omega) (by omega)
    rw [Nat.testBit_lt_two_pow (by omega), Nat.testBit_lt_two_pow (by omega)]
    simp; omega
/-- Its highest bit turned. -/
def turnI (x : Int) : Int := if x < 2147483648 then x + 2147483648 else x - 2147483648
theorem turn_bits (x : Int) (h : U32 x) : bits .xor .u32 x 2147483648 = turnI x := by
  obtain ⟨h1, h2⟩ := h
  obtain ⟨n, rfl⟩ : ∃ n : Nat, x = n := ⟨x.toNat, by omega⟩
  have hn : n < 2 ^ 32 := by omega
  have hx : n ^^^ 2147483648 < 2 ^ 32 := Nat.xor_lt_two_pow hn (by decide)
  have key : bits .xor .u32 (n : Int) (2147483648 : Int) = ((n ^^^ 2147483648 : Nat) : Int) := by
    unfold bits
    have h1 : (BitVec.ofInt 32 (n : Int)).toNat = n := by
      rw [BitVec.toNat_ofInt]; simp; omega
    have h2 : (BitVec.ofInt 32 (2147483648 : Int)).toNat = 2147483648 := by decide
    show IntKind.u32.wrap ((BitVec.ofInt 32 (n : Int) ^^^ BitVec.ofInt 32 (2147483648 : Int)).toNat : Int) = _
    rw [BitVec.toNat_xor, h1, h2, IntKind.wrap_u32]
    omega
  rw [key]
  unfold turnI
  by_cases hc : (n : Int) < 2147483648
  · rw [if_pos hc, xor31 n (by omega)]; omega
  · rw [if_neg hc]
    have : n = (n - 2147483648) ^^^ 2147483648 := by rw [xor31 _ (by omega)]; omega
    rw [this, Nat.xor_assoc, Nat.xor_self, Nat.xor_zero]; omega
theorem turn_u32 (x : Int) (h : U32 x) : U32 (turnI x) := by unfold U32 turnI at *; split <;> omega
theorem turn_key (x : Int) (h : U32 x) : keyI (turnI x) = 4294967295 - keyI x := by unfold U32 turnI keyI at *; split <;> split <;> (try split) <;> omega

theorem sortK_map (f : Int → Int) (L : List Int) (hr : ∀ x ∈ L, U32 x) (hf : ∀ x, U32 x → U32 (f x)) (hm : ∀ x y, U32 x → U32 y → keyI x ≤ keyI y → keyI (f x) ≤ keyI (f y)) :
    sortK (L.map f) = (sortK L).map f := by
  symm
  refine sortK_unique _ _ ?_ ((sortK_perm L).map f) ?_
  · intro x hx
    obtain ⟨y, hy, rfl⟩ := List.mem_map.1 hx
    exact hf y (hr y hy)
  · rw [List.pairwise_map]
    refine (sortK_sorted L).imp_of_mem ?_
    intro a b ha hb hab
    exact hm a b (hr a ((sortK_perm L).mem_iff.1 ha)) (hr b ((sortK_perm L).mem_iff.1 hb)) hab
theorem sortK_anti (f : Int → Int) (L : List Int) (hr : ∀ x ∈ L, U32 x) (hf : ∀ x, U32 x → U32 (f x)) (hm : ∀ x y, U32 x → U32 y → keyI x ≤ keyI y → keyI (f y) ≤ keyI (f x)) :
    sortK (L.map f) = ((sortK L).map f).reverse := by
  symm
  refine sortK_unique _ _ ?_ ((List.reverse_perm _).trans ((sortK_perm L).map f)) ?_
  · intro x hx
    obtain ⟨y, hy, rfl⟩ := List.mem_map.1 hx
    exact hf y (hr y hy)
  · rw [List.pairwise_reverse, List.pairwise_map]
    refine (sortK_sorted L).imp_of_mem ?_
    intro a b ha hb hab
    exact hm a b (hr a ((sortK_perm L).mem_iff.1 ha)) (hr b ((sortK_perm L).mem_iff.1 hb)) hab
theorem rowsTo_map (f : Int → Int) (g h : Nat → Nat → Int) (n : Nat) (he : ∀ y x, h y x = f (g y x)) : ∀ y, rowsTo h n y = (rowsTo g n y).map f
  | 0 => rfl
  | y + 1 => by
    rw [rowsTo, rowsTo, List.map_append, rowsTo_map f g h n he y, List.map_map]
    congr 1
    exact List.map_congr_left fun x _ => he y x
theorem rowsTo_map2 (f : Int → Int) (g h : Nat → Nat → Int) (n : Nat) : ∀ y, (∀ a b, a < y → b < n → h a b = f (g a b)) → rowsTo h n y = (rowsTo g n y).map f
  | 0, _ => rfl
  | y + 1, he => by
    rw [rowsTo, rowsTo, List.map_append, rowsTo_map2 f g h n y (fun a b ha hb => he a b (by omega) hb), List.map_map]
    congr 1
    exact List.map_congr_left fun x hx => he y x (by omega) (by simpa using hx)

theorem smp_map (f : Int → Int) (W H : Int) (S : List Int) (b ww hh c r : Int) (hW : 1 ≤ W) (hH : 1 ≤ H) (hl : (S.length : Int) = W * H) (y x : Nat) :
    smp W H (S.map f) b ww hh c r y x = f (smp W H S b ww hh c r y x) := by
  have h1 := bd_range b H (r - hh / 2 + y) hH
  have h2 := bd_range b W (c - ww / 2 + x) hW
  unfold smp rd
  generalize bd b H (r - hh / 2 + y) = p at h1 ⊢
  generalize bd b W (c - ww / 2 + x) = q at h2 ⊢
  have h3 : 0 ≤ p * W := Int.mul_nonneg h1.1 (by omega)
  have h4 : (p + 1) * W ≤ H * W := Int.mul_le_mul_of_nonneg_right (by omega) (by omega)
  rw [Int.add_mul, Int.one_mul, Int.mul_comm H W] at h4
  have h5 : (p * W + q).toNat < S.length := by omega
  rw [List.getD_eq_getElem?_getD, List.getD_eq_getElem?_getD, List.getElem?_map, List.getElem?_eq_getElem h5]
  rfl
theorem win_len (W H : Int) (S : List Int) (b ww hh c r : Int) (h1 : 0 ≤ ww) (h2 : 0 ≤ hh) : ((sortK (rowsTo (smp W H S b ww hh c r) ww.toNat hh.toNat)).length : Int) = ww * hh := by
  rw [(sortK_perm _).length_eq, rowsTo_length]
  rw [Int.natCast_mul, Int.toNat_of_nonneg h1, Int.toNat_of_nonneg h2, Int.mul_comm]

theorem val_map (f : Int → Int) {W H : Int} {S : List Int} {b ww hh k : Int} (h : chk W H S b ww hh k = 0) (hr : ∀ x ∈ S, 0 ≤ x ∧ x < 4294967296) (hf : ∀ x, U32 x → U32 (f x))
    (hm : ∀ x y, U32 x → U32 y → keyI x ≤ keyI y → keyI (f x) ≤ keyI (f y)) (c r : Int) :
    E_at.val W H (S.map f) b ww hh k c r = f (E_at.val W H S b ww hh k c r) := by
  obtain ⟨h1, h2, h3, h4, h5, h6, h7, h8, h9, h10, h11, h12, h13, h14⟩ := chk0 h
  unfold E_at.val
  rw [rowsTo_map f _ _ _ (fun y x => smp_map f W H S b ww hh c r h1 h2 h6 y x), sortK_map f _ (rowsTo_mem _ _ _ (fun a b' => smp_range W H S b ww hh c r a b' hr)) hf hm]
  have hl := win_len W H S b ww hh c r (by omega) (by omega)
  have hk : k.toNat < (sortK (rowsTo (smp W H S b ww hh c r) ww.toNat hh.toNat)).length := by omega
  rw [List.getD_eq_getElem?_getD, List.getD_eq_getElem?_getD, List.getElem?_map, List.getElem?_eq_getElem hk]
  rfl
theorem val_anti (f : Int → Int) {W H : Int} {S : List Int} {b ww hh k : Int} (h : chk W H S b ww hh k = 0) (hr : ∀ x ∈ S, 0 ≤ x ∧ x < 4294967296) (hf : ∀ x, U32 x → U32 (f x))
    (hm : ∀ x y, U32 x → U32 y → keyI x ≤ keyI y → keyI (f y) ≤ keyI (f x)) (c r : Int) :
    E_at.val W H (S.map f) b ww hh (ww * hh - 1 - k) c r = f (E_at.val W H S b ww hh k c r) := by
  obtain ⟨h1, h2, h3, h4, h5, h6, h7, h8, h9, h10, h11, h12, h13, h14⟩ := chk0 h
  unfold E_at.val
  rw [rowsTo_map f _ _ _ (fun y x => smp_map f W H S b ww hh c r h1 h2 h6 y x), sortK_anti f _ (rowsTo_mem _ _ _ (fun a b' => smp_range W H S b ww hh c r a b' hr)) hf hm]
  have hl := win_len W H S b ww hh c r (by omega) (by omega)
  have hk : k.toNat < (sortK (rowsTo (smp W H S b ww hh c r) ww.toNat hh.toNat)).length := by omega
  rw [List.getD_eq_getElem?_getD, List.getD_eq_getElem?_getD, List.getElem?_reverse (by simp; omega), List.getElem?_map, List.length_map,
    show (sortK (rowsTo (smp W H S b ww hh c r) ww.toNat hh.toNat)).length - 1 - (ww * hh - 1 - k).toNat = k.toNat by omega, List.getElem?_eq_getElem hk]
  rfl
theorem chk_len {W H : Int} {S T : List Int} {b ww hh k : Int} (e : T.length = S.length) : chk W H T b ww hh k = chk W H S b ww hh k := by unfold chk; rw [e]
theorem chk_k {W H : Int} {S : List Int} {b ww hh k k' : Int} (h : chk W H S b ww hh k = 0) (h1 : 0 ≤ k') (h2 : k' < ww * hh) : chk W H S b ww hh k' = 0 := by
  obtain ⟨g1, g2, g3, g4, g5, g6, g7, g8, g9, g10, g11, g12, g13, g14⟩ := chk0 h
  unfold chk
  rw [if_pos ⟨g1, g2, g3, g4, g5⟩, if_pos g6, if_pos ⟨g7, g8, g9, g10⟩, if_pos ⟨h1, h2⟩, if_pos ⟨g13, g14⟩]
theorem out_len {W H : Int} {S : List Int} {b ww hh k : Int} (h : chk W H S b ww hh k = 0) : (outL W H S b ww hh k).length = S.length := by
  obtain ⟨g1, g2, g3, g4, g5, g6, g7, g8, g9, g10, g11, g12, g13, g14⟩ := chk0 h
  unfold outL
  rw [rowsTo_length]
  have : ((H.toNat * W.toNat : Nat) : Int) = S.length := by rw [Int.natCast_mul, Int.toNat_of_nonneg (by omega), Int.toNat_of_nonneg (by omega), Int.mul_comm, g6]
  omega
theorem out_map (f : Int → Int) {W H : Int} {S : List Int} {b ww hh k : Int} (h : chk W H S b ww hh k = 0) (hr : ∀ x ∈ S, 0 ≤ x ∧ x < 4294967296) (hf : ∀ x, U32 x → U32 (f x))
    (hm : ∀ x y, U32 x → U32 y → keyI x ≤ keyI y → keyI (f x) ≤ keyI (f y)) : outL W H (S.map f) b ww hh k = (outL W H S b ww hh k).map f :=
  rowsTo_map f _ _ _ (fun y x => val_map f h hr hf hm x y) _
theorem out_anti (f : Int → Int) {W H : Int} {S : List Int} {b ww hh k : Int} (h : chk W H S b ww hh k = 0) (hr : ∀ x ∈ S, 0 ≤ x ∧ x < 4294967296) (hf : ∀ x, U32 x → U32 (f x))
    (hm : ∀ x y, U32 x → U32 y → keyI x ≤ keyI y → keyI (f y) ≤ keyI (f x)) : outL W H (S.map f) b ww hh (ww * hh - 1 - k) = (outL W H S b ww hh k).map f :=
  rowsTo_map f _ _ _ (fun y x => val_anti f h hr hf hm x y) _
theorem val_u32 {W H : Int} {S : List Int} {b ww hh k : Int} (hr : ∀ x ∈ S, 0 ≤ x ∧ x < 4294967296) (c r : Int) : U32 (E_at.val W H S b ww hh k c r) := by
  unfold E_at.val
  rw [List.getD_eq_getElem?_getD]
  rcases Nat.lt_or_ge k.toNat (sortK (rowsTo (smp W H S b ww hh c r) ww.toNat hh.toNat)).length with hj | hj
  · rw [List.getElem?_eq_getElem hj]
    exact rowsTo_mem _ _ _ (fun a b' => smp_range W H S b ww hh c r a b' hr) _ ((sortK_perm _).mem_iff.1 (List.getElem_mem hj))
  · rw [List.getElem?_eq_none hj]; exact ⟨by simp, by simp⟩
theorem out_u32 {W H : Int} {S : List Int} {b ww hh k : Int} (hr : ∀ x ∈ S, 0 ≤ x ∧ x < 4294967296) : ∀ x ∈ outL W H S b ww hh k, U32 x :=
  rowsTo_mem _ _ _ (fun a b' => val_u32 hr b' a)

/-! ### what rises -/
theorem key_pl (x : Int) (h : U32 x) : halidelaw12_key.f x = some (keyI x) := by
  unfold U32 at h
  unfold halidelaw12_key.f keyI
  by_cases h1 : x < 2147483648
  · rw [if_pos (by omega), if_pos h1]; congr 1; omega
  · rw [if_neg (by omega), if_neg h1]; congr 1; omega
def unkeyI (q : Int) : Int := if q < 2147483648 then 4294967295 - q else q - 2147483648
theorem fromKey_pl (q : Int) (h : U32 q) : halidelaw12_fromKey.f q = some (unkeyI q) := by
  unfold U32 at h
  unfold halidelaw12_fromKey.f unkeyI
  by_cases h1 : q < 2147483648
  · rw [if_neg (by omega), if_pos h1]; congr 1; omega
  · rw [if_pos (by omega), if_neg h1]; congr 1; omega
theorem unkey_u32 (q : Int) (h : U32 q) : U32 (unkeyI q) := by unfold U32 unkeyI at *; split <;> omega
theorem key_unkey (q : Int) (h : U32 q) : keyI (unkeyI q) = q := by unfold U32 unkeyI keyI at *; split <;> split <;> omega
/-- What the clamp and the rough make of a key. -/
def roughI (lo hi d t : Int) : Int := mn (mx t (mn (keyI lo) (keyI hi))) (mx (keyI lo) (keyI hi)) / 2 ^ d.toNat * 2 ^ d.toNat
def risesI (lo hi d x : Int) : Int := unkeyI (roughI lo hi d (keyI x))
theorem rough_u32 (lo hi d t : Int) (h1 : U32 lo) (h2 : U32 hi) (h : U32 t) : U32 (roughI lo hi d t) := by
  have k1 := keyI_range lo h1.1 h1.2
  have k2 := keyI_range hi h2.1 h2.2
  unfold roughI
  have hq : U32 (mn (mx t (mn (keyI lo) (keyI hi))) (mx (keyI lo) (keyI hi))) := by
    unfold U32 at *
    unfold mn mx
    split <;> split <;> (try split) <;> omega
  generalize mn (mx t (mn (keyI lo) (keyI hi))) (mx (keyI lo) (keyI hi)) = q at hq ⊢
  have hp : (0 : Int) < 2 ^ d.toNat := Int.pow_pos (by decide)
  unfold U32 at *
  have := Int.ediv_mul_le q (show (2 : Int) ^ d.toNat ≠ 0 by omega)
  have := Int.mul_nonneg (Int.ediv_nonneg hq.1 (by omega : (0 : Int) ≤ 2 ^ d.toNat)) (by omega : (0 : Int) ≤ 2 ^ d.toNat)
  omega
theorem rough_mono (lo hi d t u : Int) (h : t ≤ u) : roughI lo hi d t ≤ roughI lo hi d u := by
  unfold roughI
  have hp : (0 : Int) < 2 ^ d.toNat := Int.pow_pos (by decide)
  refine Int.mul_le_mul_of_nonneg_right (Int.ediv_le_ediv hp ?_) (by omega)
  generalize keyI lo = a
  generalize keyI hi = b
  unfold mn mx
  split <;> split <;> (try split) <;> (try split) <;> (try split) <;> (try split) <;> (try split) <;> (try split) <;> omega
theorem rises_u32 (lo hi d x : Int) (h1 : U32 lo) (h2 : U32 hi) (h : U32 x) : U32 (risesI lo hi d x) :=
  unkey_u32 _ (rough_u32 lo hi d _ h1 h2 (keyI_range x h.1 h.2))
theorem rises_mono (lo hi d x y : Int) (h1 : U32 lo) (h2 : U32 hi) (hx : U32 x) (hy : U32 y) (h : keyI x ≤ keyI y) : keyI (risesI lo hi d x) ≤ keyI (risesI lo hi d y) := by
  unfold risesI
  rw [key_unkey _ (rough_u32 lo hi d _ h1 h2 (keyI_range x hx.1 hx.2)), key_unkey _ (rough_u32 lo hi d _ h1 h2 (keyI_range y hy.1 hy.2))]
  exact rough_mono lo hi d _ _ h
theorem rises_pl (x lo hi d : Int) (hx : U32 x) (h1 : U32 lo) (h2 : U32 hi) (hd : 0 ≤ d) (hd2 : d < 32) : halidelaw12_rises.f x lo hi d = some (risesI lo hi d x) := by
  unfold halidelaw12_rises.f
  rw [key_pl x hx, key_pl lo h1, key_pl hi h2]
  simp only [Option.bind_some]
  rw [if_pos hd]
  have e : shl .u32 (shr .u32 (mn (mx (keyI x) (mn (keyI lo) (keyI hi))) (mx (keyI lo) (keyI hi))) d) d = roughI lo hi d (keyI x) := by
    have hu := rough_u32 lo hi d _ h1 h2 (keyI_range x hx.1 hx.2)
    unfold shl shr
    rw [Nat.min_eq_left (show d.toNat ≤ IntKind.u32.bits by show d.toNat ≤ 32; omega), IntKind.wrap_u32]
    unfold roughI at hu ⊢
    unfold U32 at hu
    omega
  rw [e, fromKey_pl _ (rough_u32 lo hi d _ h1 h2 (keyI_range x hx.1 hx.2))]
  rfl
end Go.Proofs.Ytcoegjdnobiogaa.Rk
