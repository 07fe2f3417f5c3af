/- The arithmetic of unpacking: no program in sight. -/
import Derived.Test.YtlhhihdfcbkmmaaP
set_option linter.unusedVariables false
set_option linter.unusedSimpArgs false
namespace Go.Proofs.Ytlhhihdfcbkmmaa
open Go.RowKit
theorem packI_range (n : Int) : packI n = 0 ∨ packI n = 1 ∨ packI n = 2 ∨ packI n = 3 := by
  unfold packI; split
  · simp
  · split
    · simp
    · split <;> simp
/-- Where a pixel's number stands, in a row that is narrower by D. -/
theorem unpack_at {W H wd D X Y : Int} (hD : 1 ≤ D) (hW : W = (wd + D - 1) / D) (hX0 : 0 ≤ X) (hX1 : X < wd) (hY0 : 0 ≤ Y) (hY1 : Y < H) :
    0 ≤ X / D ∧ X / D < W ∧ 0 ≤ Y * W ∧ Y * W + X / D < W * H := by
  have h1 : 0 ≤ X / D := Int.ediv_nonneg hX0 (by omega)
  have h2 : X / D < W := by
    rw [hW]
    have e : wd + D - 1 = (wd - 1) + D * 1 := by omega
    rw [e, Int.add_mul_ediv_left _ _ (by omega)]
    have := Int.ediv_le_ediv (show 0 < D by omega) (show X ≤ wd - 1 by omega)
    omega
  have h3 : Y * W ≤ (H - 1) * W := Int.mul_le_mul_of_nonneg_right (by omega) (by omega)
  have h4 : (H - 1) * W = W * H - W := by rw [Int.sub_mul, Int.mul_comm, Int.one_mul]
  exact ⟨h1, h2, Int.mul_nonneg hY0 (by omega), by omega⟩
theorem and_mask64 (j : Nat) (hj : j ≤ 8) (x : Int) (h0 : 0 ≤ x) (h1 : x < 256) : bits .and .i64 x (2 ^ j - 1) = x % 2 ^ j :=
  bits_mask .i64 8 (by decide) (fun n a b => by rw [IntKind.wrap_i64]; omega) j hj x h0 (by omega)
theorem unpackAt_eq {ps ts : List Int} {W wd b : Int} {k J : Nat} {p : Int} (hJ : (k : Int) / wd * W + (k : Int) % wd / 2 ^ b.toNat = (J : Int)) (hp : ps.getD J 0 = p) :
    ∃ Q : Nat, pg p / 2 ^ ((k : Int) % wd % 2 ^ b.toNat * (8 / 2 ^ b.toNat)).toNat % 2 ^ (8 / 2 ^ b.toNat : Int).toNat = (Q : Int) ∧
      unpackAt ps ts W wd b k = if (Q : Int) < (ts.length : Int) then ts.getD Q 0 else 0 := by
  have h0 : 0 ≤ pg p / 2 ^ ((k : Int) % wd % 2 ^ b.toNat * (8 / 2 ^ b.toNat)).toNat % 2 ^ (8 / 2 ^ b.toNat : Int).toNat :=
    Int.emod_nonneg _ (by have := Int.pow_pos (n := 2) (m := (8 / 2 ^ b.toNat : Int).toNat) (by decide); omega)
  obtain ⟨Q, hQ⟩ := Int.eq_ofNat_of_zero_le h0
  refine ⟨Q, hQ, ?_⟩
  unfold unpackAt
  simp only [hJ, Int.toNat_natCast, hp, hQ]
theorem place_div {V x y : Nat} (h : x < V) : ((y * V + x : Nat) : Int) / V = y ∧ ((y * V + x : Nat) : Int) % V = x := by
  have h1 : (y * V + x) / V = y := by
    rw [Nat.add_comm, Nat.add_mul_div_right _ _ (by omega), Nat.div_eq_of_lt h, Nat.zero_add]
  have h2 : (y * V + x) % V = x := by rw [Nat.add_comm, Nat.add_mul_mod_self_right, Nat.mod_eq_of_lt h]
  exact ⟨by rw [← Int.natCast_ediv, h1], by rw [← Int.natCast_emod, h2]⟩
theorem place_lt {V G x y : Nat} (hx : x < V) (hy : y < G) : y * V + x < G * V := by
  have : (y + 1) * V ≤ G * V := Nat.mul_le_mul_right _ hy
  rw [Nat.add_mul, Nat.one_mul] at this
  omega
theorem pow_small {T : Int} (h1 : 1 ≤ T) (h2 : T ≤ 8) : (2 : Int) ≤ 2 ^ T.toNat ∧ (2 : Int) ^ T.toNat ≤ 256 := by
  have a := Nat.pow_le_pow_right (n := 2) (by decide) (show 1 ≤ T.toNat by omega)
  have b := Nat.pow_le_pow_right (n := 2) (by decide) (show T.toNat ≤ 8 by omega)
  have e : ((2 ^ T.toNat : Nat) : Int) = (2 : Int) ^ T.toNat := by simp
  omega
theorem mul_le64 {a T : Int} (h0 : 0 ≤ a) (h1 : a < 8) (h2 : 1 ≤ T) (h3 : T ≤ 8) : 0 ≤ a * T ∧ a * T ≤ 64 :=
  ⟨Int.mul_nonneg h0 (by omega), by have := Int.mul_le_mul (show a ≤ 8 by omega) h3 (by omega) (by decide); omega⟩
end Go.Proofs.Ytlhhihdfcbkmmaa
