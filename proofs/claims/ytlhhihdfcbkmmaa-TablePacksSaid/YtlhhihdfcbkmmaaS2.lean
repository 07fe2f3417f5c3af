import Derived.Test.YtlhhihdfcbkmmaaS
set_option linter.unusedVariables false
set_option linter.unusedSimpArgs false
namespace Go.Proofs.Ytlhhihdfcbkmmaa
open Go.RowKit
theorem ret_bool {a b : Bool} (h : a = b) : Ending.returned (.bool a) = .returned (.bool b) := by rw [h]

set_option maxHeartbeats 400000 in
theorem good_any (W H : Int) (A : Option Addr) (n c : Nat) (w : World) :
    Calls Try.prog 41 #[.agg #[.int .i64 W, .int .i64 H, .slice A n c]] w fun e w' => e = .returned (.bool (goodB W H n)) ∧ Below w.heap.size w w' := by
  go_enter Try.func41, Try.ntmps41
  go_wp2
  all_goals
    have hw : 1 ≤ W → W ≤ 16384 → 1 ≤ H → H ≤ 16384 → wrap64 (W * H) = W * H := fun a b c d => by have := mul_small a b c d; exact wrap64_id (by omega) (by omega)
    go_ret
    refine ⟨ret_bool ?_, ext_alloc (Below.refl _ _) _⟩
    unfold goodB
    first
      | (rw [hw (by assumption) (by assumption) (by assumption) (by assumption)]; rw [Bool.eq_iff_iff]; simp; omega)
      | (symm; rw [decide_eq_false_iff_not]; omega)
set_option maxHeartbeats 400000 in
theorem goodr_any (W H : Int) (A : Option Addr) (n c : Nat) (w : World) :
    Calls Try.prog 37 #[.agg #[.int .i64 W, .int .i64 H, .slice A n c]] w fun e w' => e = .returned (.bool (goodB W H n)) ∧ Below w.heap.size w w' := by
  go_enter Try.func37, Try.ntmps37
  go_wp2
  all_goals
    have hw : 1 ≤ W → W ≤ 16384 → 1 ≤ H → H ≤ 16384 → wrap64 (W * H) = W * H := fun a b c d => by have := mul_small a b c d; exact wrap64_id (by omega) (by omega)
    go_ret
    refine ⟨ret_bool ?_, ext_alloc (Below.refl _ _) _⟩
    unfold goodB
    first
      | (rw [hw (by assumption) (by assumption) (by assumption) (by assumption)]; rw [Bool.eq_iff_iff]; simp; omega)
      | (symm; rw [decide_eq_false_iff_not]; omega)
set_option maxHeartbeats 400000 in
theorem tgood_any (A : Option Addr) (n c : Nat) (w : World) :
    Calls Try.prog 42 #[.slice A n c] w fun e w' => e = .returned (.bool (decide (1 ≤ n ∧ n ≤ 256))) ∧ w = w' := by
  go_enter Try.func42, Try.ntmps42
  go_wp2
  all_goals
    go_ret
    refine ⟨ret_bool ?_, rfl⟩
    rw [Bool.eq_iff_iff]; simp; omega
set_option maxHeartbeats 400000 in
theorem tbits_any (n : Int) (w : World) :
    Calls Try.prog 20 #[.int .i64 n] w fun e w' => e = .returned (.int .i64 (packI n)) ∧ w = w' := by
  go_enter Try.func20, Try.ntmps20
  go_wp2
  all_goals
    go_ret
    refine ⟨ret_int ?_, rfl⟩
    unfold packI
    repeat (first | rw [if_pos (by omega)] | rw [if_neg (by omega)])
set_option maxHeartbeats 400000 in
theorem rpack_any (n : Int) (w : World) :
    Calls Try.prog 21 #[.int .i64 n] w fun e w' => e = .returned (.int .i64 (packI n)) ∧ w = w' := by
  go_enter Try.func21, Try.ntmps21
  go_wp2
  all_goals
    go_ret
    refine ⟨ret_int ?_, rfl⟩
    unfold packI
    repeat (first | rw [if_pos (by omega)] | rw [if_neg (by omega)])
set_option maxHeartbeats 400000 in
theorem blocks_any (n b : Int) (w : World) :
    Calls Try.prog 44 #[.int .i64 n, .int .i64 b] w fun e w' => e = .returned (.int .i64 (blocksI n b)) ∧ w = w' := by
  go_enter Try.func44, Try.ntmps44
  go_wp2
  all_goals
    go_ret
    refine ⟨ret_int ?_, rfl⟩
    unfold blocksI
    by_cases h : 0 ≤ n ∧ n ≤ 16777216 ∧ 0 ≤ b ∧ b ≤ 30
    · first
        | (have := pow30 h.2.2.1 h.2.2.2
           rw [if_pos h, wrap64_id (x := 2 ^ b.toNat) (by omega) (by omega), wrap64_id (x := n + 2 ^ b.toNat) (by omega) (by omega), wrap64_id (by omega) (by omega)])
        | omega
    · first | omega | rw [if_neg h]
set_option maxHeartbeats 400000 in
theorem part_any (p k : Int) (hp : IsPx p) (h : 0 ≤ k ∧ k ≤ 3) (w : World) :
    Calls Try.prog 48 #[.int .u32 p, .int .i64 k] w fun e w' => e = .returned (.int .i64 (p / 2 ^ (24 - 8 * k).toNat % 256)) ∧ w = w' := by
  go_enter Try.func48, Try.ntmps48
  go_wp2
  go_ret
  refine ⟨ret_int ?_, rfl⟩
  have h1 : 0 ≤ p / 2 ^ (24 - 8 * k).toNat := Int.ediv_nonneg hp.1 (Int.pow_nonneg (by decide))
  rw [Int.tmod_eq_emod_of_nonneg h1]
  exact wrap64_id (by omega) (by omega)
theorem part0 (p : Int) (hp : IsPx p) (w : World) : Calls Try.prog 48 #[.int .u32 p, .int .i64 0] w fun e w' => e = .returned (.int .i64 (pa p)) ∧ w = w' :=
  (part_any p 0 hp (by omega) w).mono (by rintro e w' ⟨rfl, rfl⟩; refine ⟨ret_int ?_, rfl⟩; have := pa_range hp; unfold pa at *; show p / 16777216 % 256 = _; omega)
theorem part1 (p : Int) (hp : IsPx p) (w : World) : Calls Try.prog 48 #[.int .u32 p, .int .i64 1] w fun e w' => e = .returned (.int .i64 (pr p)) ∧ w = w' := part_any p 1 hp (by omega) w
theorem part2 (p : Int) (hp : IsPx p) (w : World) : Calls Try.prog 48 #[.int .u32 p, .int .i64 2] w fun e w' => e = .returned (.int .i64 (pg p)) ∧ w = w' := part_any p 2 hp (by omega) w
theorem part3 (p : Int) (hp : IsPx p) (w : World) : Calls Try.prog 48 #[.int .u32 p, .int .i64 3] w fun e w' => e = .returned (.int .i64 (pb p)) ∧ w = w' :=
  (part_any p 3 hp (by omega) w).mono (by rintro e w' ⟨rfl, rfl⟩; refine ⟨ret_int ?_, rfl⟩; unfold pb; show p / 1 % 256 = _; omega)
set_option maxHeartbeats 400000 in
theorem parts_any (p : Int) (hp : IsPx p) (w : World) :
    Calls Try.prog 47 #[.int .u32 p] w fun e w' => e = .returned (.tuple #[.int .u8 (pa p), .int .u8 (pr p), .int .u8 (pg p), .int .u8 (pb p)]) ∧ w = w' := by
  have := pa_range hp
  have e : p / 16777216 % 256 = p / 16777216 := by unfold pa at this; omega
  go_enter Try.func47, Try.ntmps47
  go_wp2
  refine bodyPost_ret (v := .tuple #[.int .u8 (pa p), .int .u8 (pr p), .int .u8 (pg p), .int .u8 (pb p)]) (by simp [results, Try.results47, go_sem, pa, pr, pg, pb, e]) rfl ⟨rfl, rfl⟩
set_option maxHeartbeats 400000 in
theorem blocksr_any (n b : Int) (w : World) :
    Calls Try.prog 45 #[.int .i64 n, .int .i64 b] w fun e w' => e = .returned (.int .i64 (blocksI n b)) ∧ w = w' := by
  by_cases h : 0 ≤ n ∧ n ≤ 16777216 ∧ 0 ≤ b ∧ b ≤ 30
  · obtain ⟨h1, h2, h3, h4⟩ := h
    obtain ⟨b, rfl⟩ := Int.eq_ofNat_of_zero_le h3
    go_enter Try.func45, Try.ntmps45
    go_wp2
    go_loop [5, 6] (fun s k => ∃ i : Nat, i ≤ b ∧ k = .int .i64 i ∧ s = .int .i64 (2 ^ i)) (fun _ k => b - (intOf k).toNat)
    case atStart => exact ⟨0, Nat.zero_le _, rfl, by simp⟩
    case round =>
      obtain ⟨i, hi, rfl, rfl⟩ := hrel
      have hp := pow30 (b := (i : Int)) (by omega) (by omega)
      simp only [Int.toNat_natCast] at hp
      go_wp2
      · go_round
        case rel => exact ⟨i + 1, by omega, by go_num, by rw [Int.pow_succ]⟩
        case measure => simp [intOf]; omega
      · have hb : i = b := by omega
        subst hb
        have hz : (n % 2 ^ i == 0) = true := by assumption
        go_ret
        refine ⟨ret_int ?_, rfl⟩
        unfold blocksI
        rw [if_pos (by omega), Int.toNat_natCast, ceil_div hp.1, if_pos (by simpa using hz)]
      · have hb : i = b := by omega
        subst hb
        have hz : (n % 2 ^ i == 0) = false := by assumption
        go_ret
        refine ⟨ret_int ?_, rfl⟩
        unfold blocksI
        have hd : 0 ≤ n / 2 ^ i ∧ n / 2 ^ i ≤ n := ⟨Int.ediv_nonneg h1 (by omega), Int.ediv_le_self _ h1⟩
        rw [if_pos (by omega), Int.toNat_natCast, ceil_div hp.1, if_neg (by simpa using hz)]
        exact wrap64_id (by omega) (by omega)
  · go_enter Try.func45, Try.ntmps45
    go_wp2
    all_goals
      first
        | (go_ret; exact ⟨ret_int (by unfold blocksI; rw [if_neg h]), rfl⟩)
        | omega
end Go.Proofs.Ytlhhihdfcbkmmaa
