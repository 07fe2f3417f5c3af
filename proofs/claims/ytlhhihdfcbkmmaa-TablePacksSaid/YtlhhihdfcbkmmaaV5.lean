import Derived.Test.YtlhhihdfcbkmmaaV4
set_option linter.unusedVariables false
set_option linter.unusedSimpArgs false
namespace Go.Proofs.Ytlhhihdfcbkmmaa
open Go.RowKit
theorem cols979 : colsR ⟨3, 1, [9, 7, 9]⟩ = [7, 9] ∧ colsOk ⟨3, 1, [9, 7, 9]⟩ = true ∧ colsF [9, 7, 9] = [7, 9] := by decide
theorem img_eq {m : ImgP} {W H : Int} {P : List Int} (h1 : m.W = W) (h2 : m.H = H) (h3 : m.P = P) : m = ⟨W, H, P⟩ := by cases m; simp_all
theorem pack979 : packF ⟨3, 1, [9, 7, 9]⟩ [7, 9] = ⟨1, 1, [4278191360]⟩ ∧ packOk ⟨3, 1, [9, 7, 9]⟩ [7, 9] = true := ⟨img_eq (by decide) (by decide) (by decide), by decide⟩
set_option maxRecDepth 100000 in
set_option maxHeartbeats 2000000 in
theorem answers16_any (w : World) : Calls Try.prog 10 #[] w fun e w' => e = .returned (.bool true) ∧ Below w.heap.size w w' := by
  have hb0 := ext_alloc (ext_alloc (Below.refl w.heap.size w) (.cells #[.int .u32 9, .int .u32 7, .int .u32 9] 40)) (.cells #[.int .i64 3, .int .i64 1, .slice (some ⟨w.heap.size, 0, none⟩) 3 3] 24)
  have d0 := (Blk.new w 40 (cellsU .u32 [9, 7, 9])).alloc (.cells #[.int .i64 3, .int .i64 1, .slice (some ⟨w.heap.size, 0, none⟩) 3 3] 24)
  have hri := RI.of_blk d0 (c := 3) (by simp) (by omega)
  have d1 := Blk.new' (w := w.alloc (.cells (cellsU .u32 [9, 7, 9]) 40)) (g := w.heap.size + 1) (by rw [size_alloc]) 24 #[.int .i64 3, .int .i64 1, .slice (some ⟨w.heap.size, 0, none⟩) 3 3]
  have hpx : ∀ x ∈ ([9, 7, 9] : List Int), IsPx x := by intro x hx; simp at hx; unfold IsPx; omega
  have hqx : ∀ x ∈ ([7, 9] : List Int), IsPx x := by intro x hx; simp at hx; unfold IsPx; omega
  have e1 := d1.cell
  have HB0 := Lib.hid hb0; have HRI := Lib.hid hri
  have hc := colors_any ⟨3, 1, [9, 7, 9]⟩ (some ⟨w.heap.size, 0, none⟩) 3 _ hri hpx (sortsAt_small (by rw [cols979.2.2]; decide))
  rw [cols979.1, cols979.2.1] at hc
  have HC := Lib.hid hc
  clear hb0 hri hc d0
  go_enter Try.func10, Try.ntmps10
  go_wp2_with fail
  refine HC.out.mono ?_
  rintro e w1 ⟨B, d, rfl, hri2, hb1⟩
  have d1' := d1.ext hb1
  have hri1 := HRI.out.mono hb1
  have HW1 := Lib.hid (ext_then HB0.out hb1)
  have hp := pack_any ⟨3, 1, [9, 7, 9]⟩ (some ⟨w.heap.size, 0, none⟩) B 3 d [7, 9] w1 hri1 hri2 hpx hqx
  rw [pack979.1, pack979.2] at hp
  have HP := Lib.hid hp
  clear d1 e1 hp hb1
  have e1 := d1'.cell
  go_wp2_with fail
  refine HP.out.mono ?_
  rintro e w2 ⟨C, f, rfl, hri3, hb2⟩
  obtain ⟨b, o, rfl, hbl, hcb⟩ := hri3.at_ (by simp)
  obtain ⟨bB, oB, rfl, hbB, hcB⟩ := hri2.at_ (by simp)
  have c7 := (hb2.cell (p := ⟨bB, oB + 0, none⟩) hbB).trans (hcB 0 (by simp))
  have cp := hcb 0 (by simp)
  have c7' := ((ext_alloc (Below.refl _ w2) (.cells #[.int .i64 1, .int .i64 1, .slice (some ⟨b, o, none⟩) 1 f] 24)).cell (p := ⟨bB, oB + 0, none⟩) (Nat.lt_of_lt_of_le hbB hb2.size)).trans c7
  have cp' := ((ext_alloc (Below.refl _ w2) (.cells #[.int .i64 1, .int .i64 1, .slice (some ⟨b, o, none⟩) 1 f] 24)).cell (p := ⟨b, o + 0, none⟩) hbl).trans cp
  rw [Nat.add_zero] at c7' cp'
  simp only [List.getD_cons_zero] at c7' cp'
  have dn := (Blk.new w2 24 #[.int .i64 1, .int .i64 1, .slice (some ⟨b, o, none⟩) 1 f]).cell
  have HW2 := Lib.hid (ext_alloc (ext_then HW1.out hb2) (.cells #[.int .i64 1, .int .i64 1, .slice (some ⟨b, o, none⟩) 1 f] 24))
  clear hri3 hri2 hri1 hcb hcB c7 cp d1' e1 hb2 HP
  go_wp2_with fail
  go_ret
  exact ⟨rfl, HW2.out⟩
end Go.Proofs.Ytlhhihdfcbkmmaa
