/- The arithmetic of packing, pixel by pixel: no program in sight. -/
import Derived.Test.YtlhhihdfcbkmmaaP4
set_option linter.unusedVariables false
set_option linter.unusedSimpArgs false
namespace Go.Proofs.Ytlhhihdfcbkmmaa
open Go.RowKit
/-- How many of a packed pixel's own have come, k pixels being done. -/
def cntP (W M y X k : Nat) : Nat := min (min (k - (y * W + X * M)) M) (W - X * M)
/-- What it is then. -/
def stP (f : Nat → Int) (c : Nat) : Int := if c = 0 then 0 else mk4 255 0 (sumF f c) 0
theorem cnt_parts {W M k : Nat} : k = (k / W) * W + k % W ∧ k % W = (k % W / M) * M + k % W % M := ⟨(Nat.div_add_mod' k W).symm, (Nat.div_add_mod' (k % W) M).symm⟩
theorem cnt_at {W M k : Nat} (hW : 0 < W) (hM : 0 < M) : cntP W M (k / W) (k % W / M) k = k % W % M ∧ cntP W M (k / W) (k % W / M) (k + 1) = k % W % M + 1 := by
  obtain ⟨e1, e2⟩ := cnt_parts (W := W) (M := M) (k := k)
  have h1 := Nat.mod_lt k hW
  have h2 := Nat.mod_lt (k % W) hM
  unfold cntP
  generalize k / W * W = a at *
  generalize k % W / M * M = b at *
  generalize k % W % M = i at *
  generalize k % W = x at *
  omega
theorem cnt_other {W M y X k : Nat} (hW : 0 < W) (hM : 0 < M) (hne : ¬ (y = k / W ∧ X = k % W / M)) : cntP W M y X (k + 1) = cntP W M y X k := by
  refine Classical.byContradiction fun hc => hne ?_
  unfold cntP at hc
  obtain ⟨r, hr⟩ : ∃ r, k = (X * M + r) + y * W := ⟨k - (y * W + X * M), by generalize y * W = a at *; generalize X * M = b at *; omega⟩
  have h1 : X * M + r < W := by generalize y * W = a at *; generalize X * M = b at *; omega
  have h2 : r < M := by generalize y * W = a at *; generalize X * M = b at *; omega
  have e1 : k / W = y := by rw [hr, Nat.add_mul_div_right _ _ hW, Nat.div_eq_of_lt h1, Nat.zero_add]
  have e2 : k % W = X * M + r := by rw [hr, Nat.add_mul_mod_self_right, Nat.mod_eq_of_lt h1]
  refine ⟨e1.symm, ?_⟩
  rw [e2, Nat.add_comm, Nat.add_mul_div_right _ _ hM, Nat.div_eq_of_lt h2, Nat.zero_add]
theorem black_or {x : Nat} (hx : x < 16777216) : 4278190080 + x = 4278190080 ||| x := by
  have h := Nat.shiftLeft_add_eq_or_of_lt (i := 24) (b := x) hx 255
  exact h
theorem bool3 (x y z : Bool) : ((x || y) || (x || z)) = (x || (y || z)) := by cases x <;> cases y <;> cases z <;> rfl
theorem or_black (s a i : Nat) (hs : s < 2 ^ i) (ha : a * 2 ^ i < 256) (hi : i ≤ 8) : (4278190080 + s * 256) ||| (4278190080 + a * 2 ^ i * 256) = 4278190080 + (s + a * 2 ^ i) * 256 := by
  have hp : 2 ^ i ≤ 256 := Nat.pow_le_pow_right (n := 2) (by decide) hi
  have hall : s * 256 < 16777216 ∧ a * 2 ^ i * 256 < 16777216 ∧ (s + a * 2 ^ i) * 256 < 16777216 := by
    generalize a * 2 ^ i = q at *
    generalize 2 ^ i = r at *
    omega
  obtain ⟨hs2, ha2, hsum⟩ := hall
  have e4 : s * 256 ||| a * 2 ^ i * 256 = (s + a * 2 ^ i) * 256 := by
    have e2 : a * 2 ^ i * 256 = a <<< (i + 8) := by rw [Nat.shiftLeft_eq, Nat.pow_add, Nat.mul_assoc]
    have e3 : s * 256 < 2 ^ (i + 8) := by rw [Nat.pow_add]; exact Nat.mul_lt_mul_of_pos_right hs (by decide)
    rw [Nat.or_comm, e2, ← Nat.shiftLeft_add_eq_or_of_lt e3, ← e2, Nat.add_mul, Nat.add_comm]
  rw [black_or hs2, black_or ha2, black_or hsum, ← e4]
  apply Nat.eq_of_testBit_eq
  intro j
  rw [Nat.testBit_or, Nat.testBit_or, Nat.testBit_or, Nat.testBit_or, Nat.testBit_or]
  exact bool3 _ _ _
theorem mk4_green {g : Int} (h0 : 0 ≤ g) (h1 : g < 256) : mk4 255 0 g 0 = 4278190080 + g * 256 := by unfold mk4; omega
/-- A pixel is laid into its packed one. -/
theorem or_step (s a : Int) (i : Nat) (h0 : 0 ≤ s) (hs : s < 2 ^ i) (ha0 : 0 ≤ a) (ha : a * 2 ^ i + s < 256) (hi : i ≤ 8) (old : Int) (ho : old = mk4 255 0 s 0 ∨ (old = 0 ∧ s = 0)) :
    bits .or .u32 old (bits .or .u32 4278190080 (a * 2 ^ i * 256)) = mk4 255 0 (s + a * 2 ^ i) 0 := by
  obtain ⟨s, rfl⟩ := Int.eq_ofNat_of_zero_le h0
  obtain ⟨a, rfl⟩ := Int.eq_ofNat_of_zero_le ha0
  have hs' : s < 2 ^ i := by exact_mod_cast hs
  have hc : (a : Int) * 2 ^ i = ((a * 2 ^ i : Nat) : Int) := by rw [Int.natCast_mul, Int.natCast_pow]; rfl
  rw [hc] at ha ⊢
  have hor := or_black s a i hs' (by generalize a * 2 ^ i = q at *; omega) hi
  generalize a * 2 ^ i = q at *
  rw [bits_join .u32 32 (by decide) wraps_u32 24 4278190080 ((q : Int) * 256) (by omega) (by omega) (by omega) (by omega) (by omega) (by omega), mk4_green (by omega) (by omega)]
  have e1 : (4278190080 : Int) + (q : Int) * 256 = ((4278190080 + q * 256 : Nat) : Int) := by omega
  rw [e1]
  rcases ho with rfl | ⟨rfl, h⟩
  · rw [mk4_green (by omega) (by omega)]
    have e2 : (4278190080 : Int) + (s : Int) * 256 = ((4278190080 + s * 256 : Nat) : Int) := by omega
    rw [e2, (bits_nat .u32 32 (by decide) wraps_u32 _ _ (by omega) (by omega)).2, hor]
    omega
  · have : s = 0 := by omega
    subst this
    have e2 := (bits_nat .u32 32 (by decide) wraps_u32 0 (4278190080 + q * 256) (by omega) (by omega)).2
    rw [Nat.zero_or] at e2
    refine e2.trans ?_
    omega
theorem sumF_lt {f : Nat → Int} {T : Nat} : ∀ (c : Nat), (∀ i, i < c → 0 ≤ f i ∧ ∃ n : Int, 0 ≤ n ∧ n < 2 ^ T ∧ f i = n * 2 ^ (T * i)) → 0 ≤ sumF f c ∧ sumF f c < 2 ^ (T * c)
  | 0, _ => by simp [sumF]
  | c + 1, h => by
    obtain ⟨h1, h2⟩ := sumF_lt c (fun i hi => h i (by omega))
    obtain ⟨h3, n, hn0, hn1, e⟩ := h c (by omega)
    have hp : (0 : Int) < 2 ^ (T * c) := Int.pow_pos (by decide)
    have e2 : (2 : Int) ^ (T * (c + 1)) = 2 ^ T * 2 ^ (T * c) := by rw [Nat.mul_add, Nat.mul_one, Nat.add_comm, Int.pow_add]
    have h4 : (n + 1) * 2 ^ (T * c) ≤ 2 ^ T * 2 ^ (T * c) := Int.mul_le_mul_of_nonneg_right (by omega) (by omega)
    rw [Int.add_mul, Int.one_mul] at h4
    simp only [sumF]
    rw [e2]
    omega
theorem sumF_zero {f : Nat → Int} {c : Nat} : ∀ (d : Nat), (∀ i, c ≤ i → i < c + d → f i = 0) → sumF f (c + d) = sumF f c
  | 0, _ => rfl
  | d + 1, h => by
    have := sumF_zero d (fun i h1 h2 => h i h1 (by omega))
    show sumF f (c + d) + f (c + d) = _
    rw [this, h (c + d) (by omega) (by omega), Int.add_zero]
/-- The packed picture when k pixels are done. -/
def packS (ps ts : List Int) (W M T w N k : Nat) : List Int := (List.range N).map fun j => stP (packTerm ps ts W M T (j / w) (j % w)) (cntP W M (j / w) (j % w) k)
theorem packS_length (ps ts : List Int) (W M T w N k : Nat) : (packS ps ts W M T w N k).length = N := by simp [packS]
theorem packS_zero (ps ts : List Int) (W M T w N : Nat) : packS ps ts W M T w N 0 = List.replicate N 0 := by
  apply List.ext_getElem
  · simp [packS]
  · intro i h1 h2
    have h : cntP W M (i / w) (i % w) 0 = 0 := by unfold cntP; omega
    simp [packS, h, stP]
section
variable {ps ts : List Int} {W M T w H k : Nat}
/-- Where pixel k goes. -/
theorem pack_at (hW : 0 < W) (hM : 0 < M) (hw : w = (W + M - 1) / M) (hk : k < W * H) : k % W / M < w ∧ k / W < H ∧ k / W * w + k % W / M < w * H ∧ (k / W * w + k % W / M) / w = k / W ∧ (k / W * w + k % W / M) % w = k % W / M := by
  have h1 := Nat.mod_lt k hW
  have h2 : k % W / M < w := by
    rw [hw, show W + M - 1 = (W - 1) + M by omega, Nat.add_div_right _ hM]
    have := Nat.div_le_div_right (c := M) (show k % W ≤ W - 1 by omega)
    omega
  have h3 : k / W < H := Nat.div_lt_of_lt_mul hk
  have h4 := place_lt h2 h3
  rw [Nat.mul_comm H w] at h4
  refine ⟨h2, h3, h4, ?_, ?_⟩
  · rw [Nat.add_comm, Nat.add_mul_div_right _ _ (Nat.lt_of_le_of_lt (Nat.zero_le _) h2), Nat.div_eq_of_lt h2, Nat.zero_add]
  · rw [Nat.add_comm, Nat.add_mul_mod_self_right, Nat.mod_eq_of_lt h2]
theorem packS_get (hW : 0 < W) (hM : 0 < M) (hw : w = (W + M - 1) / M) (hk : k < W * H) :
    (packS ps ts W M T w (w * H) k).getD (k / W * w + k % W / M) 0 = stP (packTerm ps ts W M T (k / W) (k % W / M)) (k % W % M) := by
  obtain ⟨h1, h2, h3, h4, h5⟩ := pack_at hW hM hw hk
  rw [List.getD_eq_getElem?_getD, List.getElem?_eq_getElem (by rw [packS_length]; exact h3)]
  simp only [packS, List.getElem_map, List.getElem_range, Option.getD_some]
  rw [h4, h5, (cnt_at hW hM).1]
theorem packS_succ (hW : 0 < W) (hM : 0 < M) (hw : w = (W + M - 1) / M) (hk : k < W * H) :
    (packS ps ts W M T w (w * H) k).set (k / W * w + k % W / M) (stP (packTerm ps ts W M T (k / W) (k % W / M)) (k % W % M + 1)) = packS ps ts W M T w (w * H) (k + 1) := by
  obtain ⟨h1, h2, h3, h4, h5⟩ := pack_at hW hM hw hk
  apply List.ext_getElem
  · simp [packS]
  · intro i hi1 hi2
    simp only [packS, List.getElem_set, List.getElem_map, List.getElem_range]
    by_cases e : k / W * w + k % W / M = i
    · rw [if_pos e, ← e, h4, h5, (cnt_at hW hM).2]
    · rw [if_neg e, cnt_other hW hM]
      rintro ⟨e1, e2⟩
      refine e ?_
      rw [← e1, ← e2]
      exact Nat.div_add_mod' i w
theorem packS_all (hW : 0 < W) (hM : 0 < M) (hw : w = (W + M - 1) / M) (hM1 : (M : Int).toNat = M) :
    packS ps ts W M T w (w * H) (W * H) = (List.range (w * H)).map fun j => packPx ps ts W M T (j / w) (j % w) := by
  unfold packS
  refine List.map_congr_left fun j hj => ?_
  have hj' : j < w * H := List.mem_range.1 hj
  have hw0 : 0 < w := by
    rcases Nat.eq_zero_or_pos w with h | h
    · rw [h] at hj'; omega
    · exact h
  have hX := Nat.mod_lt j hw0
  have hY : j / w < H := Nat.div_lt_of_lt_mul hj'
  have hXW : j % w * M < W := by
    have hw' : w = (W - 1) / M + 1 := by rw [hw, show W + M - 1 = (W - 1) + M by omega, Nat.add_div_right _ hM]
    have h1 : j % w ≤ (W - 1) / M := by
      generalize j % w = a at *
      generalize (W - 1) / M = b at *
      omega
    have h2 : j % w * M ≤ (W - 1) / M * M := Nat.mul_le_mul_right _ h1
    have h3 := Nat.div_mul_le_self (W - 1) M
    omega
  have hrow : j / w * W + W ≤ W * H := by
    have := Nat.mul_le_mul_right W (show j / w + 1 ≤ H by omega)
    rw [Nat.add_mul, Nat.one_mul, Nat.mul_comm H W] at this
    exact this
  have hc : cntP W M (j / w) (j % w) (W * H) = min M (W - j % w * M) := by
    unfold cntP
    clear hw
    generalize j / w * W = a at *
    generalize j % w * M = b at *
    generalize W * H = c at *
    omega
  have hc0 : min M (W - j % w * M) ≠ 0 := by omega
  rw [hc]
  unfold stP packPx
  rw [if_neg hc0, hM1]
  obtain ⟨d, hd⟩ : ∃ d, M = min M (W - j % w * M) + d := ⟨M - min M (W - j % w * M), by omega⟩
  have hz : sumF (packTerm ps ts W M T (j / w) (j % w)) (min M (W - j % w * M) + d) = sumF (packTerm ps ts W M T (j / w) (j % w)) (min M (W - j % w * M)) := by
    refine sumF_zero d fun i h1 h2 => ?_
    unfold packTerm
    rw [if_neg]
    intro h
    have h' : j % w * M + i < W := by exact_mod_cast h
    omega
  rw [← hd] at hz
  rw [hz]
end
end Go.Proofs.Ytlhhihdfcbkmmaa
