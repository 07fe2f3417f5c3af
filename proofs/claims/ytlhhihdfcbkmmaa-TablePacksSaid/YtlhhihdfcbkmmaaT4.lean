import Derived.Test.YtlhhihdfcbkmmaaT3
set_option linter.unusedVariables false
set_option linter.unusedSimpArgs false
namespace Go.Proofs.Ytlhhihdfcbkmmaa
open Go.RowKit
set_option maxRecDepth 100000 in
set_option maxHeartbeats 2000000 in
theorem unpackr_err (W H wd : Int) (A B : Option Addr) (c d : Nat) (ps ts : List Int) (w : World) (hno : unpackOk ⟨W, H, ps⟩ ts wd = false) :
    Calls Try.prog 14 #[.agg #[.int .i64 W, .int .i64 H, .slice A ps.length c], .slice B ts.length d, .int .i64 wd] w (RetImg ⟨0, 0, []⟩ (.bool false) w) := by
  have split : goodB W H ps.length = false ∨ (goodB W H ps.length = true ∧ decide ((ts.length : Int) < 1) = true) ∨ (goodB W H ps.length = true ∧ decide ((ts.length : Int) < 1) = false ∧ decide ((256 : Int) < ts.length) = true) ∨
    (goodB W H ps.length = true ∧ decide ((ts.length : Int) < 1) = false ∧ decide ((256 : Int) < ts.length) = false ∧ decide (wd < 1) = true) ∨
    (goodB W H ps.length = true ∧ decide ((ts.length : Int) < 1) = false ∧ decide ((256 : Int) < ts.length) = false ∧ decide (wd < 1) = false ∧ decide (16384 < wd) = true) ∨
    (goodB W H ps.length = true ∧ decide ((ts.length : Int) < 1) = false ∧ decide ((256 : Int) < ts.length) = false ∧ decide (wd < 1) = false ∧ decide (16384 < wd) = false ∧ (blocksI wd (packI ts.length) != W) = true) := by
    simp only [decide_eq_true_eq, decide_eq_false_iff_not]
    rcases unpack_not hno with h1 | ⟨h1, h2⟩ | ⟨h1, h2, h3⟩ | ⟨h1, h2, h3, h4⟩ | ⟨h1, h2, h3, h4, h5⟩
    · exact .inl h1
    all_goals
      dsimp only at *
      simp only [decide_eq_true_eq, decide_eq_false_iff_not] at *
    · by_cases h : (ts.length : Int) < 1
      · exact .inr (.inl ⟨h1, h⟩)
      · exact .inr (.inr (.inl ⟨h1, h, by omega⟩))
    · exact .inr (.inr (.inr (.inl ⟨h1, by omega, by omega, h3⟩)))
    · exact .inr (.inr (.inr (.inr (.inl ⟨h1, by omega, by omega, h3, h4⟩))))
    · exact .inr (.inr (.inr (.inr (.inr ⟨h1, by omega, by omega, h3, h4, h5⟩))))
  clear hno
  rcases split with h1 | ⟨h1, h2⟩ | ⟨h1, h2, h3⟩ | ⟨h1, h2, h3, h4⟩ | ⟨h1, h2, h3, h4, h5⟩ | ⟨h1, h2, h3, h4, h5, h6⟩
  all_goals
    go_enter Try.func14, Try.ntmps14
    go_wp2_with (go_at_call 21; refine (rpack_any _ _).mono ?_; rintro e w' ⟨rfl, rfl⟩)
    refine wp_region_k (S := fun w' => Blk w' w.heap.size 24 #[.int .i64 W, .int .i64 H, .slice A ps.length c] ∧ Blk w' (w.heap.size + 1) 24 #[.int .i64 0, .int .i64 0, .slice none 0 0] ∧ Below w.heap.size w w')
      ⟨(Blk.new _ _ _).alloc _, Blk.new' (by simp only [size_alloc]) _ _, ext_alloc (ext_alloc (Below.refl _ _) _) _⟩ (fun w1 w2 h hb => ⟨h.1.ext hb, h.2.1.ext hb, ext_then h.2.2 hb⟩)
      28 (fun | 1 => some (fun _ u _ => u = .bool (goodB W H ps.length)) | 24 => some (fun _ u _ => u = .int .i64 (blocksI wd (packI ts.length))) | _ => none) (by rintro k b h vs u w w' hb hx; dsimp only at h; split at h <;> first | (cases h; exact hb) | (cases h; obtain ⟨g, e, hb, hl⟩ := hb; exact ⟨g, e, hb.ext hx, hl⟩) | cases h) (by kernel_rfl) (by kernel_rfl) ?_
    rintro w0 ⟨b1, b2, HW⟩
    simp only [List.take_succ_cons, List.take_zero, List.drop_succ_cons, List.drop_zero]
    have c1 := ExtOf.cells b1
    repeat (first
      | (refine free_q (by rfl) (fun K hK => ?_); go_simp; refine hK _ ?_; clear hK K)
      | (refine free_off ?_ ?_; (focus (first | rfl | go_simp)); dsimp only [Act.put, List.setIfInBounds_toArray, List.set_cons_zero, List.set_cons_succ])
      | (refine free_c (by rfl) 37 #[.agg #[.int .i64 W, .int .i64 H, .slice A ps.length c]] (by rfl) (fun w => by (go_simp; done)) (fun δ _ => (goodr_any _ _ _ _ _ _).mono (by rintro e w' ⟨rfl, hb⟩; exact ⟨_, rfl, hb, rfl⟩)) (fun v δ _ hv => ?_); obtain rfl := hv; (try dsimp only [Act.put, List.setIfInBounds_toArray, List.set_cons_zero, List.set_cons_succ]))
      | (refine free_c (by rfl) 45 #[.int .i64 wd, .int .i64 (packI ts.length)] (by rfl) (fun w => by (go_simp; done)) (fun δ _ => (blocksr_any _ _ _).mono (by rintro e w' ⟨rfl, rfl⟩; exact ⟨_, rfl, Below.refl _ _, rfl⟩)) (fun v δ _ hv => ?_); obtain rfl := hv; (try dsimp only [Act.put, List.setIfInBounds_toArray, List.set_cons_zero, List.set_cons_succ])))
    refine free_nil ?_
    rintro w5 ⟨d1, d2, HW'⟩ - -
    clear b1 b2 HW c1
    have e0 := d2.cell 0; have e1 := d2.cell 1; have e2 := d2.cell 2
    have f0 := d2.frozen 0; have f1 := d2.frozen 1; have f2 := d2.frozen 2
    simp only [List.getElem?_toArray, List.getElem?_cons_zero, List.getElem?_cons_succ] at e0 e1 e2
    go_wp2_with fail
    have g0 := (((d2.set_ 0 (.int .i64 0)).set_ 1 (.int .i64 0)).set_ 2 (.slice none 0 0))
    have g1 := ext_set (ext_set (ext_set HW' (p := ⟨w.heap.size + 1, 0, none⟩) (by simp) (.int .i64 0)) (p := ⟨w.heap.size + 1, 1, none⟩) (by simp) (.int .i64 0)) (p := ⟨w.heap.size + 1, 2, none⟩) (by simp) (.slice none 0 0)
    generalize ((w5.setCell ⟨w.heap.size + 1, 0, none⟩ (.int .i64 0)).setCell ⟨w.heap.size + 1, 1, none⟩ (.int .i64 0)).setCell ⟨w.heap.size + 1, 2, none⟩ (.slice none 0 0) = w6 at *
    have k0 := g0.cell 0; have k1 := g0.cell 1; have k2 := g0.cell 2
    simp at k0 k1 k2
    refine bodyPost_ret (v := .tuple #[.agg #[.int .i64 0, .int .i64 0, .slice none 0 0], .bool false]) (by simp [results, Try.results14, go_sem, k0, k1, k2]) rfl ⟨none, 0, rfl, RI.nil_ _ _ _ (by simp) _, g1⟩
end Go.Proofs.Ytlhhihdfcbkmmaa
