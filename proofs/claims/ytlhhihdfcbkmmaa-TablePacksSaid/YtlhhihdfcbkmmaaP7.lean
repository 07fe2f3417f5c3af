/- Packing as the document says it: what is laid together from the last pixel to the first. No program in sight. -/
import Derived.Test.YtlhhihdfcbkmmaaP6
set_option linter.unusedVariables false
set_option linter.unusedSimpArgs false
namespace Go.Proofs.Ytlhhihdfcbkmmaa
open Go.RowKit
def fromR (f : Nat → Int) (r k : Nat) : Int := if r ≤ k then f k else 0
theorem sumF_none {f : Nat → Int} (n : Nat) (h : ∀ i, i < n → f i = 0) : sumF f n = 0 := by
  have := sumF_zero (f := f) (c := 0) n (fun i _ h2 => h i (by omega))
  rw [Nat.zero_add] at this
  exact this
theorem sumR_step {f : Nat → Int} {k : Nat} : ∀ {n : Nat}, k < n → sumF (fromR f k) n = sumF (fromR f (k + 1)) n + f k
  | 0, h => absurd h (by omega)
  | n + 1, h => by
    show sumF (fromR f k) n + fromR f k n = sumF (fromR f (k + 1)) n + fromR f (k + 1) n + f k
    rcases Nat.lt_or_ge k n with h1 | h1
    · have e1 : fromR f k n = f n := if_pos (by omega)
      have e2 : fromR f (k + 1) n = f n := if_pos (by omega)
      rw [sumR_step h1, e1, e2]; omega
    · obtain rfl : k = n := by omega
      have e1 : fromR f k k = f k := if_pos (Nat.le_refl _)
      have e2 : fromR f (k + 1) k = 0 := if_neg (by omega)
      have z1 : sumF (fromR f k) k = 0 := sumF_none k (fun i hi => if_neg (by omega))
      have z2 : sumF (fromR f (k + 1)) k = 0 := sumF_none k (fun i hi => if_neg (by omega))
      rw [z1, z2, e1, e2]; omega
theorem sumR_zero {f : Nat → Int} (n : Nat) : sumF (fromR f 0) n = sumF f n := by
  have : fromR f 0 = f := by funext k; exact if_pos (Nat.zero_le _)
  rw [this]
theorem sumR_all {f : Nat → Int} (n : Nat) : sumF (fromR f n) n = 0 := sumF_none n (fun i hi => if_neg (by omega))
/-- So many colours fit. -/
theorem few_fit {ts : List Int} (h : ts.length ≤ 256) : (ts.length : Int) ≤ 2 ^ (8 / (2 : Int) ^ (packI ts.length).toNat).toNat := by
  unfold packI
  split
  · simp; omega
  · split
    · simp; omega
    · split
      · simp; omega
      · simp; omega
section
variable {ps ts : List Int} {W M T y x : Nat}
theorem term_ok (hf : (ts.length : Int) ≤ 2 ^ T) {k : Nat} (h : x * M + k < W → ps.getD (y * W + x * M + k) 0 ∈ ts) :
    0 ≤ packTerm ps ts W M T y x k ∧ ∃ n : Int, 0 ≤ n ∧ n < 2 ^ T ∧ packTerm ps ts W M T y x k = n * 2 ^ (T * k) := by
  unfold packTerm
  have e1 : ((y : Int) * W + x * M + k).toNat = y * W + x * M + k := by
    have : (y : Int) * W + x * M + k = ((y * W + x * M + k : Nat) : Int) := by push_cast; rfl
    rw [this, Int.toNat_natCast]
  have e2 : ((T : Int) * k).toNat = T * k := by
    have : (T : Int) * k = ((T * k : Nat) : Int) := by push_cast; rfl
    rw [this, Int.toNat_natCast]
  by_cases hx : x * M + k < W
  · have hx' : (x : Int) * M + k < W := by exact_mod_cast hx
    rw [if_pos hx', e1, e2]
    have hi := idxN_lt (h hx)
    refine ⟨Int.mul_nonneg (Int.natCast_nonneg _) (Int.pow_nonneg (by decide)), _, Int.natCast_nonneg _, ?_, rfl⟩
    omega
  · have hx' : ¬ (x : Int) * M + k < W := by intro h'; exact hx (by exact_mod_cast h')
    rw [if_neg hx']
    exact ⟨Int.le_refl _, 0, Int.le_refl _, Int.pow_pos (by decide), by simp⟩
theorem term_at {k n : Nat} (hx : x * M + k < W) (hn : idxN ts (ps.getD (y * W + x * M + k) 0) = n) : packTerm ps ts W M T y x k = (n : Int) * 2 ^ (T * k) := by
  unfold packTerm
  have e1 : ((y : Int) * W + x * M + k).toNat = y * W + x * M + k := by
    have : (y : Int) * W + x * M + k = ((y * W + x * M + k : Nat) : Int) := by push_cast; rfl
    rw [this, Int.toNat_natCast]
  have e2 : ((T : Int) * k).toNat = T * k := by
    have : (T : Int) * k = ((T * k : Nat) : Int) := by push_cast; rfl
    rw [this, Int.toNat_natCast]
  have hx' : (x : Int) * M + k < W := by exact_mod_cast hx
  rw [if_pos hx', e1, e2, hn]
theorem term_off {k : Nat} (hx : ¬ x * M + k < W) : packTerm ps ts W M T y x k = 0 := by
  unfold packTerm
  have hx' : ¬ (x : Int) * M + k < W := by intro h'; exact hx (by exact_mod_cast h')
  rw [if_neg hx']
/-- All pixels of a packed one, from the r-th on, are in the table. -/
def DoneR (ps ts : List Int) (W M y x r : Nat) : Prop := ∀ k, r ≤ k → k < M → x * M + k < W → ps.getD (y * W + x * M + k) 0 ∈ ts
theorem sumR_lt {r : Nat} (hf : (ts.length : Int) ≤ 2 ^ T) (hMT : T * M = 8) (h : DoneR ps ts W M y x r) : 0 ≤ sumF (fromR (packTerm ps ts W M T y x) r) M ∧ sumF (fromR (packTerm ps ts W M T y x) r) M < 256 := by
  have := sumF_lt (f := fromR (packTerm ps ts W M T y x) r) (T := T) M (fun i hi => by
    by_cases hr : r ≤ i
    · have e : fromR (packTerm ps ts W M T y x) r i = packTerm ps ts W M T y x i := if_pos hr
      rw [e]
      exact term_ok hf (fun hx => h i hr hi hx)
    · have e : fromR (packTerm ps ts W M T y x) r i = 0 := if_neg hr
      rw [e]
      exact ⟨Int.le_refl _, 0, Int.le_refl _, Int.pow_pos (by decide), by simp⟩)
  rw [hMT] at this
  exact this
/-- All pixels ahead of a packed one are in the table. -/
def Scan (ps ts : List Int) (W M y x : Nat) : Prop := ∀ i, i < ps.length → (i / W < y ∨ (i / W = y ∧ i % W / M < x)) → ps.getD i 0 ∈ ts
theorem Scan.zero : Scan ps ts W M 0 0 := fun i _ h => by
  rcases h with h | ⟨_, h⟩
  · exact absurd h (Nat.not_lt_zero _)
  · exact absurd h (Nat.not_lt_zero _)
theorem Scan.step (hM : 0 < M) (h : Scan ps ts W M y x) (hd : DoneR ps ts W M y x 0) (hW : 0 < W) : Scan ps ts W M y (x + 1) := fun i hi hp => by
  by_cases hh : i / W < y ∨ (i / W = y ∧ i % W / M < x)
  · exact h i hi hh
  · have h1 : i / W = y := by omega
    have h2 : i % W / M = x := by
      rcases hp with hp | hp
      · omega
      · generalize i % W / M = q at *; omega
    obtain ⟨e1, e2⟩ := cnt_parts (W := W) (M := M) (k := i)
    rw [h1] at e1
    rw [h2] at e2
    have h3 := Nat.mod_lt i hW
    have e : i = y * W + x * M + i % W % M := by rw [Nat.add_assoc, ← e2]; exact e1
    rw [e]
    refine hd _ (Nat.zero_le _) (Nat.mod_lt _ hM) ?_
    rw [← e2]; exact h3
theorem Scan.row {V : Nat} (hM : 0 < M) (hW : 0 < W) (hV : V = (W + M - 1) / M) (h : Scan ps ts W M y V) : Scan ps ts W M (y + 1) 0 := fun i hi hp => by
  refine h i hi ?_
  rcases hp with hp | ⟨_, hp⟩
  · rcases Nat.lt_or_ge (i / W) y with h1 | h1
    · exact .inl h1
    · refine .inr ⟨by omega, ?_⟩
      have h2 := Nat.mod_lt i hW
      rw [hV, show W + M - 1 = (W - 1) + M by omega, Nat.add_div_right _ hM]
      have := Nat.div_le_div_right (c := M) (show i % W ≤ W - 1 by omega)
      exact Nat.lt_succ_of_le this
  · exact absurd hp (Nat.not_lt_zero _)
theorem Scan.all {H : Nat} (hl : ps.length = W * H) (h : Scan ps ts W M H 0) : ps.all (fun p => ts.contains p) = true := by
  rw [List.all_eq_true]
  intro p hp
  obtain ⟨i, hi, rfl⟩ := List.getElem_of_mem hp
  have := h i hi (.inl (Nat.div_lt_of_lt_mul (by rw [← hl]; exact hi)))
  rw [List.getD_eq_getElem?_getD, List.getElem?_eq_getElem hi] at this
  simpa using this
end
theorem packOk_not {m : ImgP} {ts : List Int} {J : Nat} (hJ : J < m.P.length) (h : m.P.getD J 0 ∉ ts) : packOk m ts = false := by
  unfold packOk
  have : m.P.all (fun p => ts.contains p) = false := by
    rw [List.all_eq_false]
    refine ⟨m.P[J], List.getElem_mem hJ, ?_⟩
    rw [List.getD_eq_getElem?_getD, List.getElem?_eq_getElem hJ] at h
    simpa using h
  rw [this, Bool.and_false]
end Go.Proofs.Ytlhhihdfcbkmmaa
