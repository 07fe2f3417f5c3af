import Derived.Test.YtlhhihdfcbkmmaaG9
set_option linter.unusedVariables false
set_option linter.unusedSimpArgs false
namespace Go.Proofs.Ytlhhihdfcbkmmaa
open Go.RowKit
theorem setAt_mem : ∀ i : Fin 16, (setAt i.1).length ≤ 4 ∧ ∀ n : Fin 4, n.1 < (setAt i.1).length → 0 ≤ (setAt i.1).getD n.1 0 ∧ (setAt i.1).getD n.1 0 ≤ 3 ∧ (0 < n.1 → (setAt i.1).getD (n.1 - 1) 0 < (setAt i.1).getD n.1 0) := by decide +kernel
def fdiff (xs ys : List Int) : Nat := ((List.range xs.length).find? fun n => xs.getD n 0 != ys.getD n 0).getD 0
theorem setAt_pair : ∀ i k : Fin 16, i.1 < k.1 → (setAt i.1).length < (setAt k.1).length ∨ (setAt i.1).length = (setAt k.1).length ∧ fdiff (setAt i.1) (setAt k.1) < (setAt i.1).length ∧
    (∀ m : Fin 4, m.1 < fdiff (setAt i.1) (setAt k.1) → (setAt i.1).getD m.1 0 = (setAt k.1).getD m.1 0) ∧ (setAt i.1).getD (fdiff (setAt i.1) (setAt k.1)) 0 < (setAt k.1).getD (fdiff (setAt i.1) (setAt k.1)) 0 := by decide +kernel
set_option maxRecDepth 100000 in
set_option maxHeartbeats 1000000 in
theorem planStacks_any (a b : Int) (ha : 0 ≤ a ∧ a < 256) (hb : 0 ≤ b ∧ b < 256) (w : World) : Calls Try.prog 8 #[.int .u8 a, .int .u8 b] w fun e w' => e = .returned (.bool true) ∧ Below w.heap.size w w' := by
  obtain ⟨i, hi⟩ := Int.eq_ofNat_of_zero_le (show 0 ≤ a % 16 by omega)
  obtain ⟨k, hk⟩ := Int.eq_ofNat_of_zero_le (show 0 ≤ b % 16 by omega)
  have hi16 : i < 16 := by omega
  have hk16 : k < 16 := by omega
  have t1 : a.tmod 16 = (i : Int) := by rw [tmodIn ha.1]; exact hi
  have t2 : b.tmod 16 = (k : Int) := by rw [tmodIn hb.1]; exact hk
  clear hi hk
  go_enter Try.func8, Try.ntmps8
  go_wp2_with fail
  refine (stacks_any w).mono ?_
  rintro e w1 ⟨g, c, rfl, hg, hcells, hb1⟩
  go_wp2_with fail
  refine (answers20_any w1).mono ?_
  rintro e w2 ⟨rfl, hb2⟩
  have HB := Lib.hid (ext_then hb1 hb2)
  obtain ⟨A, ca, cellA, rA⟩ := hcells i hi16
  obtain ⟨B, cb, cellB, rB⟩ := hcells k hk16
  have cellA' := (hb2.cell (p := ⟨g, i, none⟩) hg).trans cellA
  have cellB' := (hb2.cell (p := ⟨g, k, none⟩) hg).trans cellB
  have rA' := rA.mono hb2
  have rB' := rB.mono hb2
  have y1 : IntKind.u8.wrap (i : Int) = i := by rw [IntKind.wrap_u8]; omega
  have y2 : IntKind.u8.wrap (k : Int) = k := by rw [IntKind.wrap_u8]; omega
  clear hcells hb1 hb2 cellA cellB rA rB hg
  go_wp2_with fail
  go_quiet (fail)
  clear t1 t2 y1 y2
  have rA := rA'.mono (ext_drewN (Below.refl _ _) nq)
  have rB := rB'.mono (ext_drewN (Below.refl _ _) nq)
  have HB2 := Lib.hid (ext_drewN HB.out nq)
  clear HB rA' rB' cellA' cellB'
  generalize w2.drewN nq = w3 at *
  go_wp2_with fail
  go_loopw [10] (fun v wr => ∃ n : Nat, n ≤ (setAt i).length ∧ v = .int .i64 n ∧ Below w3.heap.size w3 wr) (fun v _ => (setAt i).length - (intOf v).toNat)
  case atStart => exact ⟨0, Nat.zero_le _, rfl, Below.refl _ _⟩
  case round =>
    obtain ⟨n, hn, rfl, hw⟩ := hrel
    have hA4 := (setAt_mem ⟨i, hi16⟩).1
    dsimp only at hA4
    by_cases hnl : n < (setAt i).length
    · have hm := (setAt_mem ⟨i, hi16⟩).2 ⟨n, by omega⟩ hnl
      dsimp only at hm
      obtain ⟨bA, oA, rfl, hbA, cA⟩ := rA.at_ (by omega)
      have e1 := (hw.cell (p := ⟨bA, oA + n, none⟩) hbA).trans (cA n hnl)
      rcases Nat.eq_zero_or_pos n with h0 | h0
      · subst h0
        generalize (setAt i).getD 0 0 = v at e1 hm
        have g1 := hm.1; have g2 := hm.2.1
        clear hm cA
        rw [Nat.add_zero] at e1
        go_wp2_with fail
        refine wp_region_k (S := fun w' => Below w3.heap.size w3 w' ∧ w'.cell? ⟨bA, oA, none⟩ = some (.int .i64 v))
          ⟨hw, e1⟩ (fun w1 w2 h hb => ⟨ext_then h.1 hb, (hb.cell (World.block_lt_of_cell? _ _ h.2)).trans h.2⟩)
          27 (fun _ => none) (by rintro k b h; cases h) (by kernel_rfl) (by kernel_rfl) ?_
        clear hw e1
        rintro w7 ⟨HW, e1⟩
        simp only [List.take_succ_cons, List.take_zero, List.drop_succ_cons, List.drop_zero]
        have c1 := ExtOf.cell e1
        repeat (first
          | (refine free_q (by rfl) (fun K hK => ?_); go_simp; refine hK _ ?_; clear hK K)
          | (refine free_off ?_ ?_; (focus (first | rfl | go_simp)); dsimp only [Act.put, List.setIfInBounds_toArray, List.set_cons_zero, List.set_cons_succ]))
        refine free_nil ?_
        clear e1 c1
        rintro w8 ⟨HW8, -⟩ - -
        go_wp2_with fail
        go_roundw
        case rel => exact ⟨1, by omega, by go_num, HW8⟩
        case measure => simp [intOf]; omega
      · obtain ⟨m, hmn⟩ : ∃ m, m = n - 1 := ⟨n - 1, rfl⟩
        have e2 := (hw.cell (p := ⟨bA, oA + m, none⟩) hbA).trans (cA m (by omega))
        rw [← hmn] at hm
        generalize (setAt i).getD n 0 = v at e1 hm
        generalize (setAt i).getD m 0 = u at e2 hm
        have g1 := hm.1; have g2 := hm.2.1; have g3 := hm.2.2 (by omega)
        have hwm : IntKind.i64.wrap ((n : Int) - 1) = (m : Int) := by rw [wrapIn (by omega) (by omega)]; omega
        have hml : m < (setAt i).length := by omega
        clear hm cA hmn
        have l1 : bA < wr.heap.size := Nat.lt_of_lt_of_le hbA hw.size
        go_wp2_with fail
        refine wp_region_k (S := fun w' => Below w3.heap.size w3 w' ∧ w'.cell? ⟨bA, oA + n, none⟩ = some (.int .i64 v) ∧ w'.cell? ⟨bA, oA + m, none⟩ = some (.int .i64 u))
          ⟨hw, e1, e2⟩ (fun w1 w2 h hb => ⟨ext_then h.1 hb, (hb.cell (World.block_lt_of_cell? _ _ h.2.1)).trans h.2.1, (hb.cell (World.block_lt_of_cell? _ _ h.2.2)).trans h.2.2⟩)
          27 (fun _ => none) (by rintro k b h; cases h) (by kernel_rfl) (by kernel_rfl) ?_
        clear hw e1 e2 l1
        rintro w7 ⟨HW, e1, e2⟩
        simp only [List.take_succ_cons, List.take_zero, List.drop_succ_cons, List.drop_zero]
        have c1 := ExtOf.cell e1; have c2 := ExtOf.cell e2
        repeat (refine free_q (by rfl) (fun K hK => ?_); go_simp; refine hK _ ?_; clear hK K)
        refine free_nil ?_
        clear e1 e2 c1 c2
        rintro w8 ⟨HW8, -, -⟩ - -
        go_wp2_with fail
        go_roundw
        case rel => exact ⟨n + 1, by omega, by go_num, HW8⟩
        case measure => simp [intOf]; omega
    · by_cases hik : i < k
      · have hpair := setAt_pair ⟨i, hi16⟩ ⟨k, hk16⟩ hik
        dsimp only at hpair
        rcases hpair with hlen | ⟨hlen, hd, hsame, hless⟩
        · have q1 : ((((setAt i).length : Int)) != ((setAt k).length : Int)) = true := by simp; omega
          have q2 : decide (((setAt i).length : Int) < ((setAt k).length : Int)) = true := by simp; omega
          have q3 : decide ((setAt i).length < (setAt k).length) = true := by simp; omega
          have HW := Lib.hid (ext_then HB2.out hw)
          clear hw
          go_wp2_with fail
          go_ret
          exact ⟨rfl, HW.out⟩
        · have q1 : ((((setAt i).length : Int)) != ((setAt k).length : Int)) = false := by simp; omega
          have hl1 : (setAt i).length ≤ (setAt k).length := by omega
          clear hlen hA4
          obtain ⟨d, hdd⟩ : ∃ d, fdiff (setAt i) (setAt k) = d := ⟨_, rfl⟩
          rw [hdd] at hd hsame hless
          clear hdd
          have hA4 := (setAt_mem ⟨i, hi16⟩).1
          dsimp only at hA4
          obtain ⟨bA, oA, rfl, hbA, cA⟩ := rA.at_ (by omega)
          obtain ⟨bB, oB, rfl, hbB, cB⟩ := rB.at_ (by omega)
          have HW := Lib.hid (ext_then HB2.out hw)
          have hA := fun j hj => (hw.cell (p := ⟨bA, oA + j, none⟩) hbA).trans (cA j hj)
          have hB := fun j hj => (hw.cell (p := ⟨bB, oB + j, none⟩) hbB).trans (cB j hj)
          have lA := Nat.lt_of_lt_of_le hbA hw.size
          have lB := Nat.lt_of_lt_of_le hbB hw.size
          have HC1 := Lib.hid hA; have HC2 := Lib.hid hB; have HS := Lib.hid hsame; have HL := Lib.hid hless
          clear hw cA cB hA hB hsame hless
          obtain ⟨w4, rfl⟩ : ∃ w4 : World, w4 = wr := ⟨_, rfl⟩
          go_wp2_with fail
          clear hnl hn
          go_loopw [11] (fun v wr => ∃ n : Nat, n ≤ d ∧ v = .int .i64 n ∧ Below w4.heap.size w4 wr) (fun v _ => d - (intOf v).toNat)
          case atStart => exact ⟨0, Nat.zero_le _, rfl, Below.refl _ _⟩
          case round =>
            obtain ⟨m, hm, rfl, hw⟩ := hrel
            have e1 := (hw.cell (p := ⟨bA, oA + m, none⟩) lA).trans (HC1.out m (by omega))
            have e2 := (hw.cell (p := ⟨bB, oB + m, none⟩) lB).trans (HC2.out m (by omega))
            by_cases hmd : m < d
            · rw [← HS.out ⟨m, by omega⟩ hmd] at e2
              generalize (setAt i).getD m 0 = v at e1 e2
              go_wp2_with fail
              go_quiet (fail)
              go_wp2_with fail
              go_roundw
              case rel => exact ⟨m + 1, by omega, by go_num, ext_drewN hw _⟩
              case measure => simp [intOf]; omega
            · obtain rfl : m = d := by omega
              have hl := HL.out
              generalize (setAt i).getD m 0 = v at e1 hl
              generalize (setAt k).getD m 0 = u at e2 hl
              have q4 : (v != u) = true := by simp; omega
              have q5 : decide (v < u) = true := by simp; omega
              have HX := Lib.hid (ext_then HW.out hw)
              go_wp2_with fail
              go_quiet (fail)
              go_wp2_with fail
              have e1' : (wr.drewN nq).cell? ⟨bA, oA + m, none⟩ = some (.int .i64 v) := e1
              have e2' : (wr.drewN nq).cell? ⟨bB, oB + m, none⟩ = some (.int .i64 u) := e2
              have HY := Lib.hid (ext_drewN HX.out nq)
              clear e1 e2 hw
              generalize wr.drewN nq = w5 at *
              go_quiet (fail)
              go_wp2_with fail
              go_ret
              exact ⟨rfl, ext_drewN HY.out _⟩
      · have HW := Lib.hid (ext_then HB2.out hw)
        clear hw
        go_wp2_with fail
        go_ret
        exact ⟨rfl, HW.out⟩
end Go.Proofs.Ytlhhihdfcbkmmaa
