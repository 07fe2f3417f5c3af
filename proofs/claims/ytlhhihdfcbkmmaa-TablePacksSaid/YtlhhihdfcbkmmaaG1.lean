import Derived.Test.YtlhhihdfcbkmmaaK3
set_option linter.unusedVariables false
set_option linter.unusedSimpArgs false
namespace Go.Proofs.Ytlhhihdfcbkmmaa
open Go.RowKit
set_option maxHeartbeats 400000 in
theorem pmake_any (a b c d : Int) (ha : 0 ≤ a ∧ a < 256) (hb : 0 ≤ b ∧ b < 256) (hc : 0 ≤ c ∧ c < 256) (hd : 0 ≤ d ∧ d < 256) (w : World) :
    Calls Try.prog 171 #[.int .u8 a, .int .u8 b, .int .u8 c, .int .u8 d] w fun e w' => e = .returned (.int .u32 (mk4 a b c d)) ∧ w = w' := by
  go_enter Try.func171, Try.ntmps171
  go_wp2
  go_ret
  refine ⟨ret_int ?_, rfl⟩
  rw [bits_join .u32 32 (by decide) wraps_u32 24 (a * 16777216) (b * 65536) (by omega) (by omega) (by omega) (by omega) (by omega) (by omega),
    bits_join .u32 32 (by decide) wraps_u32 16 (a * 16777216 + b * 65536) (c * 256) (by omega) (by omega) (by omega) (by omega) (by omega) (by omega),
    or8 (a * 16777216 + b * 65536 + c * 256) d (by omega) (by omega) (by omega) (by omega) (by omega)]
  unfold mk4
  omega
theorem fnis_sub : FnIs 80 fun x y _ => wrap64 (x - y) := by
  intro a b c w
  go_enter Try.func80, Try.ntmps80
  go_wp2
  go_ret
  exact ⟨rfl, rfl⟩
theorem sub_any (p q : Int) (hp : IsPx p) (hq : IsPx q) (w : World) :
    Calls Try.prog 52 #[.int .u32 p, .int .u32 q] w fun e w' => e = .returned (.int .u32 (subP p q)) ∧ Below w.heap.size w w' := by
  go_enter Try.func52, Try.ntmps52
  go_wp2_with fail
  refine (each_any p q 0 80 (fun x y _ => wrap64 (x - y)) (fun args w => by kernel_rfl) fnis_sub w hp hq (by unfold IsPx; omega)).mono ?_
  rintro e w' ⟨rfl, h⟩
  go_wp2_with fail
  go_ret
  refine ⟨ret_int ?_, h⟩
  have a1 := pa_range hp; have a2 := pr_range p; have a3 := pg_range p; have a4 := pb_range p
  have b1 := pa_range hq; have b2 := pr_range q; have b3 := pg_range q; have b4 := pb_range q
  unfold eachP subP
  dsimp only
  rw [wrap64_id (by omega) (by omega), wrap64_id (by omega) (by omega), wrap64_id (by omega) (by omega), wrap64_id (by omega) (by omega)]
/-- What green does to a pixel. -/
def greenP (p : Int) : Int := subP p (mk4 0 (pg p) 0 (pg p))
theorem greenP_px (p : Int) : IsPx (greenP p) := mk4_range _ _ _ _
set_option maxRecDepth 100000 in
set_option maxHeartbeats 2000000 in
theorem gturn_ok (W H : Int) (A : Option Addr) (c : Nat) (ps : List Int) (w : World) (hps : RI .u32 w A c ps) (hpx : ∀ x ∈ ps, IsPx x) (hg : goodB W H ps.length = true) :
    Calls Try.prog 158 #[.agg #[.int .i64 W, .int .i64 H, .slice A ps.length c], .func (.func 52) #[] #[]] w (RetImg ⟨W, H, ps.map greenP⟩ (.int .i64 0) w) := by
  have hmW : 1 ≤ ps.length ∧ ps.length ≤ 268435456 := by
    have g := goodB_iff.1 hg
    have := mul_small g.1 g.2.1 g.2.2.1 g.2.2.2.1
    omega
  obtain ⟨f, hf⟩ : ∃ f : Nat → Int, f = fun j => greenP (ps.getD j 0) := ⟨_, rfl⟩
  have hmap : (List.range ps.length).map f = ps.map greenP := by
    apply List.ext_getElem
    · simp
    · intro i h1 h2
      simp at h1
      simp [hf, List.getD_eq_getElem?_getD, List.getElem?_eq_getElem h1]
  have HM := Lib.hid hmap
  have HF := Lib.hid hf
  clear hmap hf
  go_enter Try.func158, Try.ntmps158
  go_wp2_with fail
  refine (good_any _ _ _ _ _ _).mono ?_
  rintro e w1 ⟨rfl, hb1⟩
  rw [hg]
  have b1 : Blk w1 w.heap.size 24 #[.int .i64 W, .int .i64 H, .slice A ps.length c] := ((Blk.new _ _ _).alloc _).ext hb1
  have b2 : Blk w1 (w.heap.size + 1) 24 #[.int .i64 0, .int .i64 0, .slice none 0 0] := (Blk.new' (by simp only [size_alloc]) _ _).ext hb1
  have HW : Below w.heap.size w w1 := ext_then (ext_alloc (ext_alloc (Below.refl _ _) _) _) hb1
  clear hb1
  have c1 := b1.cell
  have c2 := (b1.alloc (.cells #[.int .i64 W, .int .i64 H, .slice none 0 0] 24)).cell
  go_wp2_with fail
  clear c1 c2
  have hst : PixSt w w1.heap.size #[.int .i64 W, .int .i64 H, .slice A ps.length c] W H f 0 (w1.alloc (.cells #[.int .i64 W, .int .i64 H, .slice none 0 0] 24)) :=
    ⟨.slice none 0 0, b1.alloc _, b2.alloc _, Blk.new _ _ _, Own.none_ _ _ _ _, ext_alloc HW _⟩
  have hgo : w.heap.size + 2 ≤ w1.heap.size := b2.lt
  clear b1 b2 HW
  generalize w1.alloc (.cells #[.int .i64 W, .int .i64 H, .slice none 0 0] 24) = w6 at *
  generalize w1.heap.size = go at *
  go_loopw [25] (fun i wr => ∃ y : Nat, y ≤ ps.length ∧ i = .int .i64 y ∧ PixSt w go #[.int .i64 W, .int .i64 H, .slice A ps.length c] W H f y wr) (fun i _ => ps.length - (intOf i).toNat)
  case atStart => exact ⟨0, Nat.zero_le _, rfl, hst⟩
  case round =>
    clear hst
    obtain ⟨y, hy, rfl, hst⟩ := hrel
    by_cases hyl : y < ps.length
    · obtain ⟨bA, oA, rfl, hbA, cA⟩ := hps.at_ (by omega)
      have cJ := (hst.below.cell (p := ⟨bA, oA + y, none⟩) hbA).trans (cA y hyl)
      have hpJ := hpx _ (getD_mem hyl)
      have hfy : f y = greenP (ps.getD y 0) := by rw [HF.out]
      generalize hp : ps.getD y 0 = p at cJ hpJ hfy
      have HFY := Lib.hid hfy
      clear cA hp hfy
      go_wp2_with fail
      refine (parts_any p hpJ _).mono ?_
      rintro e w' ⟨rfl, rfl⟩
      go_wp2_with fail
      refine wp_region_k (S := PixSt w go #[.int .i64 W, .int .i64 H, .slice (some ⟨bA, oA, none⟩) ps.length c] W H f y) hst (PixSt.keep _ _ _ _ _ _ _)
        9 (fun | 6 => some (fun _ u _ => u = .int .u32 (mk4 0 (pg p) 0 (pg p))) | 7 => some (fun _ u _ => u = .int .u32 (greenP p)) | 8 => some (fun _ u w' => ∃ g, u = .slice (some ⟨g, 0, none⟩) 1 1 ∧ Blk w' g 40 (cellsU .u32 [greenP p]) ∧ go + 1 ≤ g) | _ => none) (by rintro k b h vs u w w' hb hx; dsimp only at h; split at h <;> first | (cases h; exact hb) | (cases h; obtain ⟨g, e, hb, hl⟩ := hb; exact ⟨g, e, hb.ext hx, hl⟩) | cases h) (by kernel_rfl) (by kernel_rfl) ?_
      clear hst
      rintro w7 ⟨v, d1, d2, d3, d4, HW⟩
      simp only [List.take_succ_cons, List.take_zero, List.drop_succ_cons, List.drop_zero]
      have c3 := ExtOf.cells d3
      have hgr := pg_range p
      repeat (refine free_q (by rfl) (fun K hK => ?_); go_simp; refine hK _ ?_; clear hK K)
      refine free_c (by rfl) 171 #[.int .u8 0, .int .u8 (pg p), .int .u8 0, .int .u8 (pg p)] (by rfl) (fun w => by go_simp) (fun δ _ => (pmake_any 0 (pg p) 0 (pg p) (by omega) hgr (by omega) hgr _).mono (by rintro e w' ⟨rfl, rfl⟩; exact ⟨_, rfl, Below.refl _ _, rfl⟩)) (fun v δ _ hv => ?_)
      obtain rfl := hv
      (try dsimp only [Act.put, List.setIfInBounds_toArray, List.set_cons_zero, List.set_cons_succ])
      refine free_c (by rfl) 52 #[.int .u32 p, .int .u32 (mk4 0 (pg p) 0 (pg p))] (by rfl) (fun w => by go_simp) (fun δ _ => (sub_any p _ hpJ (mk4_range _ _ _ _) _).mono (by rintro e w' ⟨rfl, h⟩; exact ⟨_, rfl, h, rfl⟩)) (fun v δ _ hv => ?_)
      obtain rfl := hv
      (try dsimp only [Act.put, List.setIfInBounds_toArray, List.set_cons_zero, List.set_cons_succ])
      refine free_v (by rfl) (by rfl) ?_ ?_
      · intro δ _
        refine ⟨.slice (some ⟨δ.w.heap.size, 0, none⟩) 1 1, δ.w.alloc (.cells (cellsU .u32 [greenP p]) 40), ?_, ext_alloc (Below.refl _ _) _, _, rfl, Blk.new _ _ _, Nat.le_trans d3.lt δ.h.size⟩
        go_simp
        rfl
      intro u δ hf hv
      obtain ⟨gp, rfl, hgp, hgl⟩ := hv
      (try dsimp only [Act.put, List.setIfInBounds_toArray, List.set_cons_zero, List.set_cons_succ])
      refine free_nil ?_
      rintro w8 - hb8 hf8
      obtain ⟨g1, e1, F8, -⟩ := (hf8 8).2 rfl
      obtain rfl : gp = g1 := by simpa using e1
      have d1' := d1.ext hb8; have d2' := d2.ext hb8; have d3' := d3.ext hb8; have d4' := d4.ext hb8; have HW' := ext_then HW hb8
      clear d1 d2 d3 d4 HW c3 hf hf8 hgp e1 hb8 cJ
      have hng := d4'.ne_blk d3' (by decide)
      have k8 := F8.cell 0
      have hc1 : ∀ j, j < [greenP p].length → w8.cell? ⟨gp, 0 + j, none⟩ = some (.int .u32 ([greenP p].getD j 0)) := fun j hj => by
        obtain rfl : j = 0 := by simpa using hj
        simpa [cellsU] using k8
      have HC := Lib.hid hc1
      clear hc1 k8
      (try dsimp only [Act.put, List.setIfInBounds_toArray, List.set_cons_zero, List.set_cons_succ])
      go_wp2_with (at_builtin; refine wl_apps (W := w8) w.heap.size rfl _ _ 22 40 .u32 4 rfl Try.underlying22 infoU32 v ((List.range y).map f) [greenP p] gp 0 1 rfl rfl HC.out d4' HW'.size (by simp; omega) (by simp; omega) ?_; intro v1 w9 hown hgrow _ hloc; obtain ⟨A1, c9, rfl, -⟩ := hown.ri; have d3'' := d3'.grown hgrow hng; have e4 := d3''.cell; have f4 := d3''.frozen)
      go_roundw
      case rel => exact ⟨y + 1, by omega, by go_num, PixSt.step (n := y) hgo d1' d2' d3' d4' HW' (by rw [HFY.out]; simpa using hown) hgrow⟩
      case measure => simp [intOf]; omega
    · have hyG : y = ps.length := by omega
      subst hyG
      obtain ⟨v, d1, d2, d3, d4, HW⟩ := hst
      obtain ⟨A1, c1, rfl, hri⟩ := d4.ri
      have e1 := d1.cell
      have e3 := d3.cell
      have e2 := d2.cell
      have f2 := d2.frozen
      go_wp2_with fail
      have g0 := ((d2.set_ 0 (.int .i64 W)).set_ 1 (.int .i64 H)).set_ 2 (.slice A1 ((List.range ps.length).map f).length c1)
      have g1 := ext_set (ext_set (ext_set HW (p := ⟨w.heap.size + 1, 0, none⟩) (by simp) (.int .i64 W)) (p := ⟨w.heap.size + 1, 1, none⟩) (by simp) (.int .i64 H)) (p := ⟨w.heap.size + 1, 2, none⟩) (by simp) (.slice A1 ((List.range ps.length).map f).length c1)
      have g2 := (((d4.set_far d2 (by decide) 0 (.int .i64 W)).set_far (d2.set_ 0 (.int .i64 W)) (by decide) 1 (.int .i64 H)).set_far ((d2.set_ 0 (.int .i64 W)).set_ 1 (.int .i64 H)) (by decide) 2 (.slice A1 ((List.range ps.length).map f).length c1)).ri
      rw [HM.out] at g2
      simp at g0 g1 g2
      generalize ((wr.setCell ⟨w.heap.size + 1, 0, none⟩ (.int .i64 W)).setCell ⟨w.heap.size + 1, 1, none⟩ (.int .i64 H)).setCell ⟨w.heap.size + 1, 2, none⟩ (.slice A1 ps.length c1) = w7 at *
      have k0 := g0.cell 0; have k1 := g0.cell 1; have k2 := g0.cell 2
      simp at k0 k1 k2
      obtain ⟨A2, c2, e, g2⟩ := g2
      obtain ⟨rfl, rfl⟩ := e
      refine bodyPost_ret (v := .tuple #[.agg #[.int .i64 W, .int .i64 H, .slice A1 ps.length c1], .int .i64 0]) (by simp [results, Try.results158, go_sem, k0, k1, k2]) rfl ⟨A1, c1, by simp, g2, g1⟩
end Go.Proofs.Ytlhhihdfcbkmmaa
