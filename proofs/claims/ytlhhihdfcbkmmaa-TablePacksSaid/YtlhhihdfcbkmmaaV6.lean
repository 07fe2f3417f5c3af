import Derived.Test.YtlhhihdfcbkmmaaV5
import Derived.Test.YtlhhihdfcbkmmaaU2
set_option linter.unusedVariables false
set_option linter.unusedSimpArgs false
namespace Go.Proofs.Ytlhhihdfcbkmmaa
open Go.RowKit
set_option maxRecDepth 100000 in
set_option maxHeartbeats 4000000 in
theorem tablePacks_any (m : ImgP) (wd : Int) (A B : Option Addr) (c d : Nat) (ts : List Int) (w : World) (hps : RI .u32 w A c m.P) (hts : RI .u32 w B d ts) (hpx : ∀ x ∈ m.P, IsPx x) (hqx : ∀ x ∈ ts, IsPx x) :
    Calls Try.prog 3 #[.agg #[.int .i64 m.W, .int .i64 m.H, .slice A m.P.length c], .slice B ts.length d, .int .i64 wd] w fun e w' => e = .returned (.bool true) ∧ Below w.heap.size w w' := by
  have hb0 := ext_alloc (Below.refl w.heap.size w) (.cells #[.int .i64 m.W, .int .i64 m.H, .slice A m.P.length c] 24)
  have d0 := Blk.new w 24 #[.int .i64 m.W, .int .i64 m.H, .slice A m.P.length c]
  by_cases hl : 2000 < m.P.length ∨ 400 < ts.length ∨ 3000 < wd
  · have hsp : (2000 < m.P.length) ∨ (¬ 2000 < m.P.length ∧ 400 < ts.length) ∨ (¬ 2000 < m.P.length ∧ ¬ 400 < ts.length ∧ 3000 < wd) := by omega
    have HB := Lib.hid hb0
    clear hb0 d0 hl
    rcases hsp with h1 | ⟨h1, h2⟩ | ⟨h1, h2, h3⟩
    · have e1 : decide ((2000 : Int) < (m.P.length : Int)) = true := by simp; omega
      clear h1
      go_enter Try.func3, Try.ntmps3
      go_wp2_with fail
      refine (answers16_any _).mono ?_
      rintro e w1 ⟨rfl, hb1⟩
      have HB2 := Lib.hid (ext_then HB.out hb1)
      clear hb1
      go_wp2_with fail
      go_ret
      exact ⟨rfl, HB2.out⟩
    · have e1 : decide ((2000 : Int) < (m.P.length : Int)) = false := by simp; omega
      have e2 : decide ((400 : Int) < (ts.length : Int)) = true := by simp; omega
      clear h1 h2
      go_enter Try.func3, Try.ntmps3
      go_wp2_with fail
      refine (answers16_any _).mono ?_
      rintro e w1 ⟨rfl, hb1⟩
      have HB2 := Lib.hid (ext_then HB.out hb1)
      clear hb1
      go_wp2_with fail
      go_ret
      exact ⟨rfl, HB2.out⟩
    · have e1 : decide ((2000 : Int) < (m.P.length : Int)) = false := by simp; omega
      have e2 : decide ((400 : Int) < (ts.length : Int)) = false := by simp; omega
      have e3 : decide ((3000 : Int) < wd) = true := by simp; omega
      clear h1 h2 h3
      go_enter Try.func3, Try.ntmps3
      go_wp2_with fail
      refine (answers16_any _).mono ?_
      rintro e w1 ⟨rfl, hb1⟩
      have HB2 := Lib.hid (ext_then HB.out hb1)
      clear hb1
      go_wp2_with fail
      go_ret
      exact ⟨rfl, HB2.out⟩
  · have e1 : decide ((2000 : Int) < (m.P.length : Int)) = false := by simp; omega
    have e2 : decide ((400 : Int) < (ts.length : Int)) = false := by simp; omega
    have e3 : decide ((3000 : Int) < wd) = false := by simp; omega
    clear hl
    have hp := fun w1 (h1 : RI .u32 w1 A c m.P) (h2 : RI .u32 w1 B d ts) => pack_any m A B c d ts w1 h1 h2 hpx hqx
    have hpr := fun w1 (h1 : RI .u32 w1 A c m.P) (h2 : RI .u32 w1 B d ts) => packr_any m A B c d ts w1 h1 h2 hpx
    have hu := fun w1 (h1 : RI .u32 w1 A c m.P) (h2 : RI .u32 w1 B d ts) => unpack_any m wd A B c d ts w1 h1 h2 hpx
    have hur := fun w1 (h1 : RI .u32 w1 A c m.P) (h2 : RI .u32 w1 B d ts) => unpackr_any m wd A B c d ts w1 h1 h2 hpx
    generalize packF m ts = X at hp hpr
    generalize packOk m ts = p at hp hpr
    generalize unpackF m ts wd = Y at hu hur
    generalize unpackOk m ts wd = q at hu hur
    have r0 := hps.mono hb0; have s0 := hts.mono hb0
    have HB := Lib.hid hb0
    clear hb0 hpx hqx
    cases p <;> cases q
    all_goals
      have HP := Lib.hid hp; have HPR := Lib.hid hpr; have HU := Lib.hid hu; have HUR := Lib.hid hur
      clear hp hpr hu hur
      go_enter Try.func3, Try.ntmps3
      have c0 := d0.cell
      go_wp2_with fail
      refine (HP.out _ r0 s0).mono ?_
      rintro e w1 ⟨A1, c1, rfl, x1, hb1⟩
      have d1 := d0.ext hb1; have r1 := r0.mono hb1; have s1 := s0.mono hb1; have HB1 := Lib.hid (ext_then HB.out hb1)
      clear c0 d0 r0 s0 hb1
      have k1 := ext_alloc (Below.refl _ w1) (.cells #[.int .i64 X.W, .int .i64 X.H, .slice A1 X.P.length c1] 24)
      have y1 := Blk.new w1 24 #[.int .i64 X.W, .int .i64 X.H, .slice A1 X.P.length c1]
      have d1' := d1.ext k1; have r1' := r1.mono k1; have s1' := s1.mono k1; have x1' := x1.mono k1; have HB1' := Lib.hid (ext_then HB1.out k1)
      have c0 := d1'.cell
      clear d1 r1 s1 x1 k1
      go_wp2_with fail
      refine (HPR.out _ r1' s1').mono ?_
      rintro e w2 ⟨A2, c2, rfl, x2, hb2⟩
      have k2 := ext_alloc hb2 (.cells #[.int .i64 X.W, .int .i64 X.H, .slice A2 X.P.length c2] 24)
      have z2 := Blk.new w2 24 #[.int .i64 X.W, .int .i64 X.H, .slice A2 X.P.length c2]
      have x2' := x2.mono (ext_alloc (Below.refl _ w2) (.cells #[.int .i64 X.W, .int .i64 X.H, .slice A2 X.P.length c2] 24))
      have d2 := d1'.ext k2; have r2 := r1'.mono k2; have s2 := s1'.mono k2; have x12 := x1'.mono k2; have y2 := y1.ext k2; have HB2 := Lib.hid (ext_then HB1'.out k2)
      clear c0 d1' r1' s1' x1' x2 y1 k2 hb2
      have c0 := d2.cell
      go_wp2_with fail
      refine (HU.out _ r2 s2).mono ?_
      rintro e w3 ⟨A3, c3, rfl, x3, hb3⟩
      have k3 := ext_alloc hb3 (.cells #[.int .i64 Y.W, .int .i64 Y.H, .slice A3 Y.P.length c3] 24)
      have v3 := Blk.new w3 24 #[.int .i64 Y.W, .int .i64 Y.H, .slice A3 Y.P.length c3]
      have x3' := x3.mono (ext_alloc (Below.refl _ w3) (.cells #[.int .i64 Y.W, .int .i64 Y.H, .slice A3 Y.P.length c3] 24))
      have d3 := d2.ext k3; have r3 := r2.mono k3; have s3 := s2.mono k3; have x13 := x12.mono k3; have x23 := x2'.mono k3; have y3 := y2.ext k3; have z3 := z2.ext k3; have HB3 := Lib.hid (ext_then HB2.out k3)
      clear c0 d2 r2 s2 x12 x2' x3 y2 z2 k3 hb3
      have c0 := d3.cell
      go_wp2_with fail
      refine (HUR.out _ r3 s3).mono ?_
      rintro e w4 ⟨A4, c4, rfl, x4, hb4⟩
      have k4 := ext_alloc hb4 (.cells #[.int .i64 Y.W, .int .i64 Y.H, .slice A4 Y.P.length c4] 24)
      have u4 := Blk.new w4 24 #[.int .i64 Y.W, .int .i64 Y.H, .slice A4 Y.P.length c4]
      have x4' := x4.mono (ext_alloc (Below.refl _ w4) (.cells #[.int .i64 Y.W, .int .i64 Y.H, .slice A4 Y.P.length c4] 24))
      have x14 := x13.mono k4; have x24 := x23.mono k4; have x34 := x3'.mono k4; have y4 := y3.ext k4; have z4 := z3.ext k4; have v4 := v3.ext k4; have HB4 := Lib.hid (ext_then HB3.out k4)
      clear c0 d3 r3 s3 x13 x23 x3' x4 y3 z3 v3 k4 hb4
      go_wp2_with fail
      refine (answers16_any _).mono ?_
      rintro e w5 ⟨rfl, hb5⟩
      have x15 := x14.mono hb5; have x25 := x24.mono hb5; have x35 := x34.mono hb5; have x45 := x4'.mono hb5; have y5 := y4.ext hb5; have z5 := z4.ext hb5; have v5 := v4.ext hb5; have u5 := u4.ext hb5; have HB5 := Lib.hid (ext_then HB4.out hb5)
      clear x14 x24 x34 x4' y4 z4 v4 u4 hb5
      have ey := y5.cell; have ez := z5.cell
      go_wp2_with fail
      refine (same_any X.W X.H X.W X.H A1 A2 c1 c2 X.P X.P w5 x15 x25).mono ?_
      rintro e w6 ⟨rfl, hb6⟩
      have x36 := x35.mono hb6; have x46 := x45.mono hb6; have v6 := v5.ext hb6; have u6 := u5.ext hb6; have HB6 := Lib.hid (ext_then HB5.out hb6)
      rw [show decide (X.W = X.W ∧ X.H = X.H ∧ X.P = X.P) = true by simp]
      clear ey ez x15 x25 x35 x45 y5 z5 v5 u5 hb6
      have ev := v6.cell; have eu := u6.cell
      go_wp2_with fail
      refine (same_any Y.W Y.H Y.W Y.H A3 A4 c3 c4 Y.P Y.P w6 x36 x46).mono ?_
      rintro e w7 ⟨rfl, hb7⟩
      rw [show decide (Y.W = Y.W ∧ Y.H = Y.H ∧ Y.P = Y.P) = true by simp]
      have HB7 := Lib.hid (ext_then HB6.out hb7)
      clear ev eu x36 x46 v6 u6 hb7
      go_wp2_with fail
      go_ret
      exact ⟨rfl, HB7.out⟩
end Go.Proofs.Ytlhhihdfcbkmmaa
