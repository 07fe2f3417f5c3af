/- The arithmetic of packing: no program in sight. -/
import Derived.Test.YtlhhihdfcbkmmaaP3
set_option linter.unusedVariables false
set_option linter.unusedSimpArgs false
namespace Go.Proofs.Ytlhhihdfcbkmmaa
open Go.RowKit
/-- The first place of a colour; how many there are, if it is none. -/
def idxN (ts : List Int) (p : Int) : Nat := ts.findIdx (· == p)
/-- The sum of the first n. -/
def sumF (f : Nat → Int) : Nat → Int
  | 0 => 0
  | n + 1 => sumF f n + f n
/-- What the k-th pixel of a packed one adds. -/
def packTerm (ps ts : List Int) (W M T : Int) (y X k : Nat) : Int :=
  if (X : Int) * M + k < W then (idxN ts (ps.getD (y * W + X * M + k).toNat 0) : Int) * 2 ^ (T * k).toNat else 0
def packPx (ps ts : List Int) (W M T : Int) (y X : Nat) : Int := mk4 255 0 (sumF (packTerm ps ts W M T y X) M.toNat) 0
def packOk (m : ImgP) (ts : List Int) : Bool := goodB m.W m.H m.P.length && decide (1 ≤ ts.length ∧ ts.length ≤ 256) && m.P.all (fun p => ts.contains p)
/-- The packed picture, row by row. -/
def packF (m : ImgP) (ts : List Int) : ImgP :=
  if packOk m ts then
    let b := packI ts.length
    let M : Int := 2 ^ b.toNat
    let w := blocksI m.W b
    ⟨w, m.H, (List.range (w * m.H).toNat).map fun j => packPx m.P ts m.W M (8 / M) (j / w.toNat) (j % w.toNat)⟩
  else ⟨0, 0, []⟩
theorem idxN_lt {ts : List Int} {p : Int} (h : p ∈ ts) : idxN ts p < ts.length := by
  unfold idxN
  exact List.findIdx_lt_length_of_exists ⟨p, h, by simp⟩
theorem idxN_not {ts : List Int} {p : Int} (h : p ∉ ts) : idxN ts p = ts.length := by
  unfold idxN
  rw [List.findIdx_eq_length]
  intro x hx
  simp only [beq_eq_false_iff_ne]
  rintro rfl
  exact h hx
/-- Nothing ahead of n is p: so the first place is n or behind it. -/
theorem idxN_at {ts : List Int} {p : Int} {n : Nat} (hn : n < ts.length) (h : ∀ j, j < n → ts.getD j 0 ≠ p) (hp : ts.getD n 0 = p) : idxN ts p = n := by
  unfold idxN
  rw [List.findIdx_eq hn]
  refine ⟨by rw [List.getD_eq_getElem?_getD, List.getElem?_eq_getElem hn] at hp; simpa using hp, fun j hj => ?_⟩
  have := h j hj
  rw [List.getD_eq_getElem?_getD, List.getElem?_eq_getElem (by omega)] at this
  simpa using this
theorem not_mem_of {ts : List Int} {p : Int} (h : ∀ j, j < ts.length → ts.getD j 0 ≠ p) : p ∉ ts := by
  intro hm
  obtain ⟨j, hj, e⟩ := List.getElem_of_mem hm
  refine h j hj ?_
  rw [List.getD_eq_getElem?_getD, List.getElem?_eq_getElem hj]
  simpa using e
/-- M is two to some number up to three, T is eight by M; so many colours fit T bits. -/
theorem packMT (n : Int) : let M := (2 : Int) ^ (packI n).toNat; 1 ≤ M ∧ M ≤ 8 ∧ 1 ≤ 8 / M ∧ 8 / M ≤ 8 ∧ M * (8 / M) = 8 := by
  rcases packI_range n with h | h | h | h <;> rw [h] <;> decide
end Go.Proofs.Ytlhhihdfcbkmmaa
