/- Plain arithmetic of pixels and blocks: no program in sight. -/
import Derived.Below
import Derived.WalkKit
set_option linter.unusedVariables false
set_option linter.unusedSimpArgs false
namespace Go.Proofs.Ytlhhihdfcbkmmaa
open Go.RowKit

/-- A pixel of four, each round at 256. -/
def mk4 (a b c d : Int) : Int := a % 256 * 16777216 + b % 256 * 65536 + c % 256 * 256 + d % 256
theorem mk4_range (a b c d : Int) : 0 ≤ mk4 a b c d ∧ mk4 a b c d < 4294967296 := by unfold mk4; omega
theorem wrap64_id {x : Int} (h1 : -9223372036854775808 ≤ x) (h2 : x ≤ 9223372036854775807) : wrap64 x = x := by unfold wrap64; omega
theorem tmod256 (a : Int) : -256 < a.tmod 256 ∧ a.tmod 256 < 256 := by
  rcases Int.le_total 0 a with h | h
  · rw [Int.tmod_eq_emod_of_nonneg h]; omega
  · have e : a = -(-a) := by omega
    rw [e, Int.neg_tmod, Int.tmod_eq_emod_of_nonneg (by omega)]; omega
theorem modq (a : Int) : (wrap64 (a.tmod 256 + 256)).tmod 256 = a % 256 := by
  have h := tmod256 a
  rw [wrap64_id (by omega) (by omega), Int.tmod_eq_emod_of_nonneg (by omega)]
  rcases Int.le_total 0 a with h0 | h0
  · rw [Int.tmod_eq_emod_of_nonneg h0]; omega
  · have e : a = -(-a) := by omega
    rw [e, Int.neg_tmod, Int.tmod_eq_emod_of_nonneg (by omega)]; omega

/-! ### bits -/
theorem wraps_u32 (n : Int) (h0 : 0 ≤ n) (h1 : n < 2 ^ 32) : IntKind.u32.wrap n = n := by rw [IntKind.wrap_u32]; omega
theorem and255 (x : Int) (h0 : 0 ≤ x) (h1 : x < 4294967296) : bits .and .u32 x 255 = x % 256 := bits_mask .u32 32 (by decide) wraps_u32 8 (by decide) x h0 h1
theorem or8 (x y : Int) (hx0 : 0 ≤ x) (hx : x % 256 = 0) (hx1 : x < 4294967296) (hy0 : 0 ≤ y) (hy : y < 256) : bits .or .u32 x y = x + y :=
  bits_join .u32 32 (by decide) wraps_u32 8 x y hx0 hx hx1 hy0 hy (by omega)
/-- Alpha, red, green, blue. -/
def pa (p : Int) : Int := p / 16777216
def pr (p : Int) : Int := p / 65536 % 256
def pg (p : Int) : Int := p / 256 % 256
def pb (p : Int) : Int := p % 256
/-- A function of the four of three pixels, one by one. -/
def eachP (p q r : Int) (f : Int → Int → Int → Int) : Int := mk4 (f (pa p) (pa q) (pa r)) (f (pr p) (pr q) (pr r)) (f (pg p) (pg q) (pg r)) (f (pb p) (pb q) (pb r))
def addP (p q : Int) : Int := mk4 (pa p + pa q) (pr p + pr q) (pg p + pg q) (pb p + pb q)
def subP (p q : Int) : Int := mk4 (pa p - pa q) (pr p - pr q) (pg p - pg q) (pb p - pb q)
def avgP (p q : Int) : Int := mk4 ((pa p + pa q) / 2) ((pr p + pr q) / 2) ((pg p + pg q) / 2) ((pb p + pb q) / 2)
def cutI (n : Int) : Int := if n < 0 then 0 else if n > 255 then 255 else n
def fullP (l t tl : Int) : Int := mk4 (cutI (pa l + pa t - pa tl)) (cutI (pr l + pr t - pr tl)) (cutI (pg l + pg t - pg tl)) (cutI (pb l + pb t - pb tl))
def halfI (a b : Int) : Int := cutI (a + (a - b).tdiv 2)
def halfP (p tl : Int) : Int := mk4 (halfI (pa p) (pa tl)) (halfI (pr p) (pr tl)) (halfI (pg p) (pg tl)) (halfI (pb p) (pb tl))
def absI (a : Int) : Int := if a < 0 then -a else a
def pickP (l t tl : Int) : Int :=
  if absI (pa t - pa tl) + absI (pr t - pr tl) + absI (pg t - pg tl) + absI (pb t - pb tl) < absI (pa l - pa tl) + absI (pr l - pr tl) + absI (pg l - pg tl) + absI (pb l - pb tl) then l else t
/-- A number that is a pixel. -/
def IsPx (p : Int) : Prop := 0 ≤ p ∧ p < 4294967296
theorem pa_range {p : Int} (h : IsPx p) : 0 ≤ pa p ∧ pa p < 256 := by unfold pa; unfold IsPx at h; omega
theorem pr_range (p : Int) : 0 ≤ pr p ∧ pr p < 256 := by unfold pr; omega
theorem pg_range (p : Int) : 0 ≤ pg p ∧ pg p < 256 := by unfold pg; omega
theorem pb_range (p : Int) : 0 ≤ pb p ∧ pb p < 256 := by unfold pb; omega

/-! ### sizes -/
/-- May an image be? -/
def goodB (W H : Int) (n : Nat) : Bool := decide (1 ≤ W ∧ W ≤ 16384 ∧ 1 ≤ H ∧ H ≤ 16384 ∧ (n : Int) = W * H)
theorem goodB_iff {W H : Int} {n : Nat} : goodB W H n = true ↔ 1 ≤ W ∧ W ≤ 16384 ∧ 1 ≤ H ∧ H ≤ 16384 ∧ (n : Int) = W * H := by unfold goodB; simp
theorem mul_small {W H : Int} (h1 : 1 ≤ W) (h2 : W ≤ 16384) (h3 : 1 ≤ H) (h4 : H ≤ 16384) : 1 ≤ W * H ∧ W * H ≤ 268435456 :=
  ⟨by have := Int.mul_le_mul h1 h3 (by omega) (by omega); omega, by have := Int.mul_le_mul h2 h4 (by omega) (by omega); omega⟩
/-- How many blocks cover a size. -/
def blocksI (n b : Int) : Int := if 0 ≤ n ∧ n ≤ 16777216 ∧ 0 ≤ b ∧ b ≤ 30 then (n + 2 ^ b.toNat - 1) / 2 ^ b.toNat else 0
/-- Two to how many pixels are one. -/
def packI (n : Int) : Int := if n ≤ 2 then 3 else if n ≤ 4 then 2 else if n ≤ 16 then 1 else 0
theorem pow30 {b : Int} (h : 0 ≤ b) (h' : b ≤ 30) : (1 : Int) ≤ 2 ^ b.toNat ∧ (2 : Int) ^ b.toNat ≤ 1073741824 := by
  have h1 : 2 ^ b.toNat ≤ 2 ^ 30 := Nat.pow_le_pow_right (by decide) (by omega)
  have h2 : 1 ≤ 2 ^ b.toNat := Nat.one_le_two_pow
  have e : ((2 ^ b.toNat : Nat) : Int) = (2 : Int) ^ b.toNat := by simp
  omega
theorem ceil_div {n q : Int} (hq : 1 ≤ q) : (n + q - 1) / q = if n % q = 0 then n / q else n / q + 1 := by
  have e := Int.mul_ediv_add_emod n q
  have h1 := Int.emod_nonneg n (show q ≠ 0 by omega)
  have h2 := Int.emod_lt_of_pos n (show 0 < q by omega)
  split
  · have : n + q - 1 = (q - 1) + q * (n / q) := by omega
    rw [this, Int.add_mul_ediv_left _ _ (by omega), Int.ediv_eq_zero_of_lt (by omega) (by omega)]; omega
  · have : n + q - 1 = (n % q - 1) + q * (n / q + 1) := by rw [Int.mul_add]; omega
    rw [this, Int.add_mul_ediv_left _ _ (by omega), Int.ediv_eq_zero_of_lt (by omega) (by omega)]; omega

/-! ### images -/
structure ImgP where
  W : Int
  H : Int
  P : List Int
def unpackAt (ps ts : List Int) (W w b : Int) (k : Nat) : Int :=
  let x := (k : Int) % w
  let g := pg (ps.getD ((k : Int) / w * W + x / 2 ^ b.toNat).toNat 0)
  let n := g / 2 ^ (x % 2 ^ b.toNat * (8 / 2 ^ b.toNat)).toNat % 2 ^ (8 / 2 ^ b.toNat : Int).toNat
  if n < (ts.length : Int) then ts.getD n.toNat 0 else 0
def unpackOk (m : ImgP) (ts : List Int) (w : Int) : Bool :=
  goodB m.W m.H m.P.length && decide (1 ≤ ts.length ∧ ts.length ≤ 256) && decide (1 ≤ w) && decide (w ≤ 16384) && decide (blocksI w (packI ts.length) = m.W)
def unpackF (m : ImgP) (ts : List Int) (w : Int) : ImgP :=
  if unpackOk m ts w then ⟨w, m.H, (List.range (w * m.H).toNat).map (unpackAt m.P ts m.W w (packI ts.length))⟩ else ⟨0, 0, []⟩
end Go.Proofs.Ytlhhihdfcbkmmaa
