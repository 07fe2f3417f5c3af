import Derived.Test.YtlhhihdfcbkmmaaG9
set_option linter.unusedVariables false
set_option linter.unusedSimpArgs false
namespace Go.Proofs.Ytlhhihdfcbkmmaa
open Go.RowKit
set_option maxRecDepth 100000 in
set_option maxHeartbeats 4000000 in
theorem planEmpty_any (W H : Int) (A : Option Addr) (c0 : Nat) (ps : List Int) (ca : Int) (w : World) (hps : RI .u32 w A c0 ps) (hpx : ∀ x ∈ ps, IsPx x) :
    Calls Try.prog 7 #[.agg #[.int .i64 W, .int .i64 H, .slice A ps.length c0], .int .i64 ca] w fun e w' => e = .returned (.bool true) ∧ Below w.heap.size w w' := by
  have hb0 := ext_alloc (Below.refl w.heap.size w) (.cells #[.int .i64 W, .int .i64 H, .slice A ps.length c0] 24)
  have d0 := Blk.new w 24 #[.int .i64 W, .int .i64 H, .slice A ps.length c0]
  have r0 := hps.mono hb0
  by_cases hl : 2000 < ps.length
  · have hl' : decide ((2000 : Int) < (ps.length : Int)) = true := by simp; omega
    go_enter Try.func7, Try.ntmps7
    have HB := Lib.hid hb0
    clear hb0 d0 r0
    go_wp2_with fail
    refine (answers20_any _).mono ?_
    rintro e w1 ⟨rfl, hb1⟩
    have HB2 := Lib.hid (ext_then HB.out hb1)
    clear hb1
    go_wp2_with fail
    go_ret
    exact ⟨rfl, HB2.out⟩
  · have hl' : decide ((2000 : Int) < (ps.length : Int)) = false := by simp; omega
    rcases (show ca < 0 ∨ 11 < ca ∨ (0 ≤ ca ∧ ca ≤ 11) by omega) with hca | hca | hca
    all_goals
      cases hg : goodB W H ps.length
    all_goals
      have HG := Lib.hid hg
      have HE1 := Lib.hid (show (goodB W H ps.length && decide ((0 : Int) ≤ 0 ∧ (0 : Int) ≤ 11)) = goodB W H ps.length by simp)
      have hE3 : ∀ b : Bool, goodB W H ps.length = b → (goodB W H ps.length && decide (0 ≤ ca ∧ ca ≤ 11)) = (b && decide (0 ≤ ca ∧ ca ≤ 11)) := fun b h => by rw [h]
      have HE3 := Lib.hid (hE3 _ hg)
      clear hg hE3
      go_enter Try.func7, Try.ntmps7
      have HB0 := Lib.hid hb0
      clear hb0
      go_wp2_with fail
      refine (goodr_any W H A ps.length c0 _).mono ?_
      rintro e w1 ⟨rfl, hb1⟩
      rw [HG.out]
      have d1 := d0.ext hb1; have r1 := r0.mono hb1; have HB1 := Lib.hid (ext_then HB0.out hb1)
      clear d0 r0 HB0 hb1
      go_wp2_with fail
      refine (answers20_any _).mono ?_
      rintro e w2 ⟨rfl, hb1⟩
      have d2 := d1.ext hb1; have r2 := r1.mono hb1; have HB2 := Lib.hid (ext_then HB1.out hb1)
      clear d1 r1 HB1 hb1
      have e2 := d2.cell
      go_wp2_with fail
      refine (valid_0 W H A c0 ps none none 0 0 0 0 0 0 _ r2 rfl rfl).mono ?_
      rintro e w3 ⟨rfl, hb1⟩
      rw [HE1.out, HG.out]
      have d3 := d2.ext hb1; have r3 := r2.mono hb1; have HB3 := Lib.hid (ext_then HB2.out hb1)
      clear d2 r2 HB2 hb1 e2
      have e3 := d3.cell
      have e3' := (d3.alloc (.cells #[.int .i64 2] 3)).cell
      go_wp2_with fail
      have x3 := ext_alloc (Below.refl _ w3) (.cells #[.int .i64 2] 3)
      refine (valid_2 W H A c0 ps w3.heap.size 0 (some ⟨w3.heap.size, 0, none⟩) none 1 1 0 0 0 0 _ (r3.mono x3) hpx rfl rfl ((Blk.new w3 _ _).cell 0) rfl).mono ?_
      rintro e w4 ⟨rfl, hb1⟩
      rw [HE1.out, HG.out]
      have y3 := ext_then x3 hb1
      have d4 := d3.ext y3; have r4 := r3.mono y3; have HB4 := Lib.hid (ext_then HB3.out y3)
      clear d3 r3 HB3 hb1 e3 e3' x3 y3
      have e4 := d4.cell
      go_wp2_with fail
      refine (valid_0 W H A c0 ps none none 0 0 0 0 ca 0 _ r4 rfl rfl).mono ?_
      rintro e w5 ⟨rfl, hb1⟩
      rw [HE3.out]
      have d5 := d4.ext hb1; have r5 := r4.mono hb1; have HB5 := Lib.hid (ext_then HB4.out hb1)
      clear d4 r4 HB4 hb1 e4
      have e5 := d5.cell
      have e5' := (d5.alloc (.cells #[.int .i64 2, .int .i64 2] 3)).cell
      go_wp2_with fail
      have x5 := ext_alloc (Below.refl _ w5) (.cells #[.int .i64 2, .int .i64 2] 3)
      have z5 := Blk.new w5 3 #[.int .i64 2, .int .i64 2]
      refine (valid_bad W H A ps.length c0 (some ⟨w5.heap.size, 0, none⟩) none 2 2 0 0 0 0 _ (fun w' hw => stack22 w5.heap.size 0 2 w' ((z5.ext hw).cell 0) ((z5.ext hw).cell 1))).mono ?_
      rintro e w6 ⟨rfl, hb1⟩
      have y5 := ext_then x5 hb1
      have d6 := d5.ext y5; have HB6 := Lib.hid (ext_then HB5.out y5)
      clear d5 r5 HB5 hb1 e5 e5' x5 y5 z5
      have e6 := d6.cell
      have e6' := (d6.alloc (.cells #[.int .i64 4] 3)).cell
      go_wp2_with fail
      have x6 := ext_alloc (Below.refl _ w6) (.cells #[.int .i64 4] 3)
      have z6 := Blk.new w6 3 #[.int .i64 4]
      refine (valid_bad W H A ps.length c0 (some ⟨w6.heap.size, 0, none⟩) none 1 1 0 0 0 0 _ (fun w' hw => stack4 w6.heap.size 0 1 w' ((z6.ext hw).cell 0))).mono ?_
      rintro e w7 ⟨rfl, hb1⟩
      have HB7 := Lib.hid (ext_then HB6.out (ext_then x6 hb1))
      clear d6 HB6 hb1 e6 e6' x6 z6
      go_wp2_with fail
      go_ret
      first | exact ⟨rfl, HB7.out⟩ | (refine ⟨ret_bool ?_, HB7.out⟩; simp; omega)
end Go.Proofs.Ytlhhihdfcbkmmaa
