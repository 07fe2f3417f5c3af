import Derived.Test.YtlhhihdfcbkmmaaT1
import Derived.Test.YtlhhihdfcbkmmaaK2
set_option linter.unusedVariables false
set_option linter.unusedSimpArgs false
namespace Go.Proofs.Ytlhhihdfcbkmmaa
open Go.RowKit
theorem infoU32 : (Try.prog.info? 40).map (fun i => (i.zero, i.size, i.bytes)) = some (some (.int .u32 0), 1, 4) := by kernel_rfl

/-- What keeps a picture from being unpacked. -/
theorem unpack_not {m : ImgP} {ts : List Int} {w : Int} (h : unpackOk m ts w = false) :
    goodB m.W m.H m.P.length = false ∨ (goodB m.W m.H m.P.length = true ∧ decide (1 ≤ ts.length ∧ ts.length ≤ 256) = false) ∨
    (goodB m.W m.H m.P.length = true ∧ decide (1 ≤ ts.length ∧ ts.length ≤ 256) = true ∧ decide (w < 1) = true) ∨
    (goodB m.W m.H m.P.length = true ∧ decide (1 ≤ ts.length ∧ ts.length ≤ 256) = true ∧ decide (w < 1) = false ∧ decide (16384 < w) = true) ∨
    (goodB m.W m.H m.P.length = true ∧ decide (1 ≤ ts.length ∧ ts.length ≤ 256) = true ∧ decide (w < 1) = false ∧ decide (16384 < w) = false ∧ (blocksI w (packI ts.length) != m.W) = true) := by
  unfold unpackOk at h
  cases h1 : goodB m.W m.H m.P.length
  · exact .inl rfl
  · cases h2 : decide (1 ≤ ts.length ∧ ts.length ≤ 256)
    · exact .inr (.inl ⟨rfl, rfl⟩)
    · rw [h1, h2] at h
      simp at h
      by_cases h3 : w < 1
      · exact .inr (.inr (.inl ⟨rfl, rfl, by simpa using h3⟩))
      · by_cases h4 : 16384 < w
        · exact .inr (.inr (.inr (.inl ⟨rfl, rfl, by simpa using h3, by simpa using h4⟩)))
        · exact .inr (.inr (.inr (.inr ⟨rfl, rfl, by simpa using h3, by simpa using h4, by simpa using h (by omega) (by omega)⟩)))

set_option maxRecDepth 100000 in
set_option maxHeartbeats 2000000 in
theorem unpack_err (W H wd : Int) (A B : Option Addr) (c d : Nat) (ps ts : List Int) (w : World) (hno : unpackOk ⟨W, H, ps⟩ ts wd = false) :
    Calls Try.prog 13 #[.agg #[.int .i64 W, .int .i64 H, .slice A ps.length c], .slice B ts.length d, .int .i64 wd] w (RetImg ⟨0, 0, []⟩ (.int .i64 1) w) := by
  rcases unpack_not hno with h1 | ⟨h1, h2⟩ | ⟨h1, h2, h3⟩ | ⟨h1, h2, h3, h4⟩ | ⟨h1, h2, h3, h4, h5⟩
  all_goals
    dsimp only at *
    clear hno
    go_enter Try.func13, Try.ntmps13
    go_wp2_with (go_at_call 20; refine (tbits_any _ _).mono ?_; rintro e w' ⟨rfl, rfl⟩)
    refine wp_region_free' 23 (fun | 1 => some (fun _ u _ => u = .bool (goodB W H ps.length)) | 5 => some (fun _ u _ => u = .bool (decide (1 ≤ ts.length ∧ ts.length ≤ 256))) | 19 => some (fun _ u _ => u = .int .i64 (blocksI wd (packI ts.length))) | _ => none)
      (fun w' => Blk w' w.heap.size 24 #[.int .i64 W, .int .i64 H, .slice A ps.length c] ∧ Blk w' (w.heap.size + 1) 24 #[.int .i64 0, .int .i64 0, .slice none 0 0] ∧ Below w.heap.size w w') (by rintro k b h vs u w w' hb hx; dsimp only at h; split at h <;> first | (cases h; exact hb) | (cases h; obtain ⟨g, e, hb, hl⟩ := hb; exact ⟨g, e, hb.ext hx, hl⟩) | cases h) (by kernel_rfl) (by kernel_rfl) ?_ ?_
    · exact ⟨((Blk.new _ _ _).alloc _).drew, (Blk.new' (by simp only [size_alloc]) _ _).drew, (ext_alloc (ext_alloc (Below.refl _ _) _) _).drew⟩
    rintro w0 ⟨b1, b2, HW⟩
    simp only [List.take_succ_cons, List.take_zero, List.drop_succ_cons, List.drop_zero]
    have c1 := ExtOf.cell (b1.cell 0); have c2 := ExtOf.cell (b1.cell 1); have c3 := ExtOf.cell (b1.cell 2)
    repeat (first
      | (refine free_q (by rfl) (fun K hK => ?_); go_simp; refine hK _ ?_; clear hK K)
      | (refine free_off ?_ ?_; (focus (first | rfl | go_simp)); dsimp only [Act.put, List.setIfInBounds_toArray, List.set_cons_zero, List.set_cons_succ])
      | (refine free_c (by rfl) 41 #[.agg #[.int .i64 W, .int .i64 H, .slice A ps.length c]] (by rfl) (fun w => by (go_simp; done)) (fun δ _ => (good_any _ _ _ _ _ _).mono (by rintro e w' ⟨rfl, hb⟩; exact ⟨_, rfl, hb, rfl⟩)) (fun v δ _ hv => ?_); obtain rfl := hv; (try dsimp only [Act.put, List.setIfInBounds_toArray, List.set_cons_zero, List.set_cons_succ]))
      | (refine free_c (by rfl) 42 #[.slice B ts.length d] (by rfl) (fun w => by (go_simp; done)) (fun δ _ => (tgood_any _ _ _ _).mono (by rintro e w' ⟨rfl, rfl⟩; exact ⟨_, rfl, Below.refl _ _, rfl⟩)) (fun v δ _ hv => ?_); obtain rfl := hv; (try dsimp only [Act.put, List.setIfInBounds_toArray, List.set_cons_zero, List.set_cons_succ]))
      | (refine free_c (by rfl) 44 #[.int .i64 wd, .int .i64 (packI ts.length)] (by rfl) (fun w => by (go_simp; done)) (fun δ _ => (blocks_any _ _ _).mono (by rintro e w' ⟨rfl, rfl⟩; exact ⟨_, rfl, Below.refl _ _, rfl⟩)) (fun v δ _ hv => ?_); obtain rfl := hv; (try dsimp only [Act.put, List.setIfInBounds_toArray, List.set_cons_zero, List.set_cons_succ])))
    refine free_nil ?_
    rintro δ' -
    have d2 := b2.ext δ'.h; have HW' := ext_then HW δ'.h
    clear b1 b2 HW c1 c2 c3
    generalize δ'.w = w5 at *
    have e0 := d2.cell 0; have e1 := d2.cell 1; have e2 := d2.cell 2
    have f0 := d2.frozen 0; have f1 := d2.frozen 1; have f2 := d2.frozen 2
    simp only [List.getElem?_toArray, List.getElem?_cons_zero, List.getElem?_cons_succ] at e0 e1 e2
    go_wp2_with fail
    have g0 := (((d2.set_ 0 (.int .i64 0)).set_ 1 (.int .i64 0)).set_ 2 (.slice none 0 0))
    have g1 := ext_set (ext_set (ext_set HW' (p := ⟨w.heap.size + 1, 0, none⟩) (by simp) (.int .i64 0)) (p := ⟨w.heap.size + 1, 1, none⟩) (by simp) (.int .i64 0)) (p := ⟨w.heap.size + 1, 2, none⟩) (by simp) (.slice none 0 0)
    generalize ((w5.setCell ⟨w.heap.size + 1, 0, none⟩ (.int .i64 0)).setCell ⟨w.heap.size + 1, 1, none⟩ (.int .i64 0)).setCell ⟨w.heap.size + 1, 2, none⟩ (.slice none 0 0) = w6 at *
    have k0 := g0.cell 0; have k1 := g0.cell 1; have k2 := g0.cell 2
    simp at k0 k1 k2
    refine bodyPost_ret (v := .tuple #[.agg #[.int .i64 0, .int .i64 0, .slice none 0 0], .int .i64 1]) (by simp [results, Try.results13, go_sem, k0, k1, k2]) rfl ⟨none, 0, rfl, RI.nil_ _ _ _ (by simp) _, g1⟩
end Go.Proofs.Ytlhhihdfcbkmmaa
