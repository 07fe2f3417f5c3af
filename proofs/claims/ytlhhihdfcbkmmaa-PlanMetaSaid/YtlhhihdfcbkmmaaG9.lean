import Derived.Test.YtlhhihdfcbkmmaaG8
set_option linter.unusedVariables false
set_option linter.unusedSimpArgs false
namespace Go.Proofs.Ytlhhihdfcbkmmaa
open Go.RowKit
set_option maxRecDepth 100000 in
set_option maxHeartbeats 1000000 in
theorem answers20_any (w : World) : Calls Try.prog 36 #[] w fun e w' => e = .returned (.bool true) ∧ Below w.heap.size w w' := by
  go_enter Try.func36, Try.ntmps36
  have hb0 := fun (o1 o2 o3 : Obj) => ext_alloc (ext_alloc (ext_alloc (Below.refl w.heap.size w) o1) o2) o3
  go_wp2_with fail
  have HW := hb0 (.cells #[.int .u32 1052688] 40) (.cells #[.int .i64 1, .int .i64 1, .slice (some ⟨w.heap.size, 0, none⟩) 1 1] 24) (.cells #[.int .i64 2] 3)
  have d0 := (Blk.new w 40 (cellsU .u32 [1052688])).alloc (.cells #[.int .i64 1, .int .i64 1, .slice (some ⟨w.heap.size, 0, none⟩) 1 1] 24) |>.alloc (.cells #[.int .i64 2] 3)
  have hri := RI.of_blk d0 (c := 1) (by simp) (by omega)
  have d1 := (Blk.new' (w := w.alloc (.cells #[.int .u32 1052688] 40)) (g := w.heap.size + 1) (by rw [size_alloc]) 24 #[.int .i64 1, .int .i64 1, .slice (some ⟨w.heap.size, 0, none⟩) 1 1]).alloc (.cells #[.int .i64 2] 3)
  have d2 := Blk.new' (w := (w.alloc (.cells #[.int .u32 1052688] 40)).alloc (.cells #[.int .i64 1, .int .i64 1, .slice (some ⟨w.heap.size, 0, none⟩) 1 1] 24)) (g := w.heap.size + 1 + 1) (by simp only [size_alloc]) 3 #[.int .i64 2]
  have hps : ([1052688] : List Int).map greenP = [4096] := by decide
  have hpx : ∀ x ∈ ([1052688] : List Int), IsPx x := by intro x hx; rw [List.mem_singleton.1 hx]; unfold IsPx; omega
  have hA := apply_2 1 1 (some ⟨w.heap.size, 0, none⟩) 1 [1052688] (w.heap.size + 1 + 1) 0 (some ⟨w.heap.size + 1 + 1, 0, none⟩) none 1 1 0 0 0 0 _ hri hpx (by decide) rfl rfl (d2.cell 0)
  refine hA.mono ?_
  clear hA
  rintro e w1 ⟨A1, c1, rfl, r1, hb1⟩
  rw [hps] at r1 ⊢
  obtain ⟨b, o, rfl, hbl, hc⟩ := r1.at_ (by simp)
  have c0 := hc 0 (by simp)
  have hx := ext_then hb1 (ext_alloc (Below.refl _ w1) (.cells #[.int .i64 1, .int .i64 1, .slice (some ⟨b, o, none⟩) 1 c1] 24))
  have dn := Blk.new w1 24 #[.int .i64 1, .int .i64 1, .slice (some ⟨b, o, none⟩) 1 c1]
  have c2 := ((ext_alloc (Below.refl _ w1) (.cells #[.int .i64 1, .int .i64 1, .slice (some ⟨b, o, none⟩) 1 c1] 24)).cell (p := ⟨b, o + 0, none⟩) hbl).trans c0
  have hri' := hri.mono hx
  have d1' := d1.ext hx
  have HW' := ext_then HW hx
  have H1 := Lib.hid hri'; have H2 := Lib.hid HW'
  clear hb0 hx c0 hc hb1 HW d0 hri d1 d2 hps hpx r1 hri' HW'
  have e1 := d1'.cell
  have en := dn.cell
  rw [Nat.add_zero] at c2
  simp only [List.getD_cons_zero] at c2
  go_wp2_with fail
  refine (valid_0 1 1 (some ⟨w.heap.size, 0, none⟩) 1 [1052688] none none 0 0 0 0 0 0 _ H1.out rfl rfl).mono ?_
  rintro e w2 ⟨rfl, hb2⟩
  rw [show (goodB 1 1 ([1052688] : List Int).length && decide ((0 : Int) ≤ 0 ∧ (0 : Int) ≤ 11)) = true by decide]
  have H3 := Lib.hid (ext_then H2.out hb2)
  clear e1 en c2 dn d1' H1 H2 hb2
  go_wp2_with fail
  refine (stacks_any w2).mono ?_
  rintro e w3 ⟨g, c, rfl, -, -, hb3⟩
  have H4 := Lib.hid (ext_then H3.out hb3)
  clear hb3 H3
  go_wp2_with fail
  go_ret
  exact ⟨rfl, H4.out⟩
end Go.Proofs.Ytlhhihdfcbkmmaa
