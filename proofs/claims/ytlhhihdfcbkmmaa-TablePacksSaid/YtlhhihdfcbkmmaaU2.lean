import Derived.Test.YtlhhihdfcbkmmaaG3
import Derived.Test.YtlhhihdfcbkmmaaP7
set_option linter.unusedVariables false
set_option linter.unusedSimpArgs false
namespace Go.Proofs.Ytlhhihdfcbkmmaa
open Go.RowKit
set_option maxRecDepth 100000 in
set_option maxHeartbeats 1000000 in
theorem packr_err (W H : Int) (A B : Option Addr) (c d : Nat) (ps ts : List Int) (w : World) (hno : (goodB W H ps.length && decide (1 ≤ ts.length ∧ ts.length ≤ 256)) = false) :
    Calls Try.prog 12 #[.agg #[.int .i64 W, .int .i64 H, .slice A ps.length c], .slice B ts.length d] w (RetImg ⟨0, 0, []⟩ (.bool false) w) := by
  have hsp : goodB W H ps.length = false ∨ (goodB W H ps.length = true ∧ decide ((ts.length : Int) < 1) = true) ∨ (goodB W H ps.length = true ∧ decide ((ts.length : Int) < 1) = false ∧ decide ((256 : Int) < ts.length) = true) := by
    cases h1 : goodB W H ps.length
    · exact .inl rfl
    · rw [h1, Bool.true_and] at hno
      by_cases h2 : (ts.length : Int) < 1
      · exact .inr (.inl ⟨rfl, by simpa using h2⟩)
      · exact .inr (.inr ⟨rfl, by simpa using h2, by simp at hno ⊢; omega⟩)
  clear hno
  have hb := ext_alloc (ext_alloc (Below.refl w.heap.size w) (.cells #[.int .i64 W, .int .i64 H, .slice A ps.length c] 24)) (.cells #[.int .i64 0, .int .i64 0, .slice none 0 0] 24)
  rcases hsp with h1 | ⟨h1, h2⟩ | ⟨h1, h2, h3⟩
  all_goals
    go_enter Try.func12, Try.ntmps12
    go_wp2_with fail
    refine (goodr_any W H A ps.length c _).mono ?_
    rintro e w1 ⟨rfl, hb1⟩
    rw [h1]
    have d2 : Blk w1 (w.heap.size + 1) 24 #[.int .i64 0, .int .i64 0, .slice none 0 0] := (Blk.new' (by simp only [size_alloc]) _ _).ext hb1
    have HW := ext_then hb hb1
    clear hb hb1 h1
    have e2 := d2.cell; have f2 := d2.frozen
    go_wp2_with fail
    obtain ⟨w7, e7, k0, k1, k2, r7, h7⟩ := img_end d2 HW (by omega) (RI.nil_ .u32 w1 0 (by omega) none) 0 0 0
    rw [e7]
    exact bodyPost_ret (v := .tuple #[.agg #[.int .i64 0, .int .i64 0, .slice none 0 0], .bool false]) (by simp [results, Try.results12, go_sem, k0, k1, k2]) rfl ⟨none, 0, rfl, r7, h7⟩
set_option maxRecDepth 100000 in
set_option maxHeartbeats 4000000 in
theorem packr_ok (W H : Nat) (A B : Option Addr) (c d : Nat) (ps ts : List Int) (w : World) (hps : RI .u32 w A c ps) (hts : RI .u32 w B d ts) (hpx : ∀ x ∈ ps, IsPx x) (hg : goodB W H ps.length = true) (ht : 1 ≤ ts.length ∧ ts.length ≤ 256) :
    Calls Try.prog 12 #[.agg #[.int .i64 W, .int .i64 H, .slice A ps.length c], .slice B ts.length d] w (RetImg (packF ⟨W, H, ps⟩ ts) (.bool (packOk ⟨W, H, ps⟩ ts)) w) := by
  have hd3 : decide ((ts.length : Int) < 1) = false := by simp; omega
  have hd4 : decide ((256 : Int) < ts.length) = false := by simp; omega
  have hpk : 0 ≤ packI ts.length ∧ packI ts.length ≤ 3 := by rcases packI_range ts.length with h | h | h | h <;> omega
  have g := goodB_iff.1 hg
  obtain ⟨hM1, hM8, hT1, hT8, hMT⟩ := packMT ts.length
  have hfew := few_fit ht.2
  obtain ⟨M, hM⟩ := Int.eq_ofNat_of_zero_le (show 0 ≤ (2 : Int) ^ (packI ts.length).toNat by omega)
  rw [hM] at hM1 hM8 hT1 hT8 hMT hfew
  obtain ⟨T, hT⟩ := Int.eq_ofNat_of_zero_le (show 0 ≤ 8 / (M : Int) by omega)
  rw [hT] at hT1 hT8 hMT hfew
  rw [Int.toNat_natCast] at hfew
  obtain ⟨V, hV⟩ : ∃ V : Nat, V = (W + M - 1) / M := ⟨_, rfl⟩
  have hbl : blocksI W (packI ts.length) = (V : Int) := by
    unfold blocksI
    rw [if_pos (by omega), hM]
    have e : ((W : Int) + M - 1) = ((W + M - 1 : Nat) : Int) := by omega
    rw [e, ← Int.natCast_ediv, ← hV]
  have hMT' : T * M = 8 := by have : ((T * M : Nat) : Int) = 8 := by push_cast; rw [Int.mul_comm]; exact hMT
                              exact_mod_cast this
  have hwb := mul_small g.1 g.2.1 g.2.2.1 g.2.2.2.1
  have hPF : packOk ⟨W, H, ps⟩ ts = true → packF ⟨W, H, ps⟩ ts = ⟨V, H, (List.range (H * V)).map fun j => packPx ps ts W M T (j / V) (j % V)⟩ := fun h => by
    unfold packF
    rw [if_pos h]
    dsimp only
    rw [hM, hT, hbl, Int.toNat_natCast, ← Int.natCast_mul, Int.toNat_natCast, Nat.mul_comm]
  have hPN : packOk ⟨W, H, ps⟩ ts = false → packF ⟨W, H, ps⟩ ts = ⟨0, 0, []⟩ := fun h => by unfold packF; rw [if_neg (by rw [h]; simp)]
  have hPY : Scan ps ts W M H 0 → packOk ⟨W, H, ps⟩ ts = true := fun h => by
    unfold packOk
    dsimp only
    rw [hg, Scan.all (H := H) (by have := g.2.2.2.2; exact_mod_cast this) h]
    simp; omega
  obtain ⟨f, hf⟩ : ∃ f : Nat → Int, f = fun j => packPx ps ts W M T (j / V) (j % V) := ⟨_, rfl⟩
  rw [← hf] at hPF
  have hfx : ∀ y x : Nat, x < V → f (y * V + x) = mk4 255 0 (sumF (packTerm ps ts W M T y x) M) 0 := fun y x hx => by
    rw [hf]
    have e1 : (y * V + x) / V = y := by rw [Nat.add_comm, Nat.add_mul_div_right _ _ (by omega), Nat.div_eq_of_lt hx, Nat.zero_add]
    have e2 : (y * V + x) % V = x := by rw [Nat.add_comm, Nat.add_mul_mod_self_right, Nat.mod_eq_of_lt hx]
    dsimp only
    rw [e1, e2]
    unfold packPx
    rw [Int.toNat_natCast]
  have HPF := Lib.hid hPF; have HPN := Lib.hid hPN; have HPY := Lib.hid hPY; have HFX := Lib.hid hfx; have HFEW := Lib.hid hfew; have HV := Lib.hid hV; have HMT := Lib.hid hMT'; have HT := Lib.hid hT
  have hV16 : V ≤ 16384 := by
    rw [hV]
    refine Nat.le_trans (Nat.div_le_div_right (show W + M - 1 ≤ 16384 * M by have := Nat.mul_le_mul_left 16384 (show 1 ≤ M by omega); omega)) ?_
    rw [Nat.mul_div_cancel _ (by omega)]; exact Nat.le_refl _
  have hM0 : 0 < M := by omega
  have hW0 : 0 < W := by have := g.1; omega
  have hb := ext_alloc (ext_alloc (Below.refl w.heap.size w) (.cells #[.int .i64 W, .int .i64 H, .slice A ps.length c] 24)) (.cells #[.int .i64 0, .int .i64 0, .slice none 0 0] 24)
  have hMw : wrap64 (M : Int) = (M : Int) := wrap64In (by omega) (by omega)
  clear hPF hPN hPY hfx hfew hV hMT' hT hf
  go_enter Try.func12, Try.ntmps12
  have HB := Lib.hid hb
  clear hb
  go_wp2_with fail
  refine (goodr_any W H A ps.length c _).mono ?_
  rintro e w1 ⟨rfl, hb1⟩
  rw [hg]
  have d1 : Blk w1 w.heap.size 24 #[.int .i64 W, .int .i64 H, .slice A ps.length c] := ((Blk.new _ _ _).alloc _).ext hb1
  have d2 : Blk w1 (w.heap.size + 1) 24 #[.int .i64 0, .int .i64 0, .slice none 0 0] := (Blk.new' (by simp only [size_alloc]) _ _).ext hb1
  have HW := ext_then HB.out hb1
  clear HB hb1
  have HH := Lib.hid (And.intro g (And.intro hbl (And.intro hwb (And.intro hM1 (And.intro hM8 (And.intro hT1 (And.intro hT8 (And.intro ht (And.intro hV16 (And.intro hM0 hW0))))))))))
  clear g hbl hwb hM1 hM8 hT1 hT8 ht hV16 hM0 hW0
  go_wp2_with (go_at_call 21; refine (rpack_any _ _).mono ?_; rintro e w' ⟨rfl, rfl⟩)
  refine wp_region_k (S := fun w' => Blk w' w.heap.size 24 #[.int .i64 W, .int .i64 H, .slice A ps.length c] ∧ Blk w' (w.heap.size + 1) 24 #[.int .i64 0, .int .i64 0, .slice none 0 0] ∧ Below w.heap.size w w')
    ⟨d1, d2, HW⟩ (fun w1 w2 h hb => ⟨h.1.ext hb, h.2.1.ext hb, ext_then h.2.2 hb⟩)
    8 (fun | 3 => some (fun _ u _ => u = .int .i64 V) | 7 => some (fun _ u w' => ∃ g, u = .pointer (some ⟨g, 0, none⟩) ∧ Blk w' g 24 #[.int .i64 0, .int .i64 0, .slice none 0 0] ∧ w.heap.size + 2 ≤ g) | _ => none) (by rintro k b h vs u w w' hb hx; dsimp only at h; split at h <;> first | (cases h; exact hb) | (cases h; obtain ⟨g, e, hb, hl⟩ := hb; exact ⟨g, e, hb.ext hx, hl⟩) | cases h) (by kernel_rfl) (by kernel_rfl) ?_
  clear d1 d2 HW
  rintro w0 ⟨b1, b2, HW⟩
  simp only [List.take_succ_cons, List.take_zero, List.drop_succ_cons, List.drop_zero]
  have c1 := ExtOf.cells b1
  repeat (refine free_q (by rfl) (fun K hK => ?_); go_simp; refine hK _ ?_; clear hK K)
  refine free_c (by rfl) 45 #[.int .i64 W, .int .i64 (packI ts.length)] (by rfl) (fun w => by (go_simp; done)) (fun δ _ => (blocksr_any _ _ _).mono (by rintro e w' ⟨rfl, rfl⟩; exact ⟨_, rfl, Below.refl _ _, by rw [HH.out.2.1]⟩)) (fun v δ _ hv => ?_)
  obtain rfl := hv
  (try dsimp only [Act.put, List.setIfInBounds_toArray, List.set_cons_zero, List.set_cons_succ])
  repeat (refine free_q (by rfl) (fun K hK => ?_); go_simp; refine hK _ ?_; clear hK K)
  refine free_v (by rfl) (by rfl) ?_ ?_
  · intro δ _
    refine ⟨.pointer (some ⟨δ.w.heap.size, 0, none⟩), δ.w.alloc (.cells #[.int .i64 0, .int .i64 0, .slice none 0 0] 24), ?_, ext_alloc (Below.refl _ _) _, _, rfl, Blk.new _ _ _, Nat.le_trans b2.lt δ.h.size⟩
    go_simp
  intro v δ hf hv
  obtain ⟨go, rfl, hgo, hol⟩ := hv
  (try dsimp only [Act.put, List.setIfInBounds_toArray, List.set_cons_zero, List.set_cons_succ])
  clear hgo hf δ
  refine free_nil ?_
  rintro w5 ⟨d1, d2, HW'⟩ - hf
  obtain ⟨g2, e2, F7, -⟩ := (hf 7).2 rfl
  obtain rfl : go = g2 := by simpa using e2
  clear hf e2 b1 b2 HW c1
  have o1 := F7.cell; have q1 := F7.frozen
  go_wp2_with fail
  obtain ⟨w6, e6, F8, -, HW6, hk6⟩ := img_set F7 HW' (by omega) (RI.nil_ .u32 w5 0 (by omega) none) V H 0
  rw [e6]
  have hst : PixSt w go #[.int .i64 W, .int .i64 H, .slice A ps.length c] V H f 0 w6 :=
    ⟨.slice none 0 0, hk6 _ _ _ d1 (by omega), hk6 _ _ _ d2 (by omega), F8, Own.none_ _ _ _ _, HW6⟩
  clear e6 F7 F8 HW' HW6 hk6 d1 d2 o1 q1 hMw hd3 hd4 hpk hM
  go_loopw [9] (fun i wr => ∃ y : Nat, y ≤ H ∧ i = .int .i64 y ∧ PixSt w go #[.int .i64 W, .int .i64 H, .slice A ps.length c] V H f (y * V) wr ∧ Hid (Scan ps ts W M y 0)) (fun i _ => H - (intOf i).toNat)
  case atStart => exact ⟨0, Nat.zero_le _, rfl, by rw [Nat.zero_mul]; exact hst, Lib.hid Scan.zero⟩
  case round =>
    clear hst
    obtain ⟨y, hy, rfl, hst, hsc⟩ := hrel
    by_cases hyl : y < H
    · obtain ⟨v, d1, d2, d3, d4, HW⟩ := id hst
      have e1 := d1.cell
      go_wp2_with fail
      clear e1 d1 d2 d3 d4 HW
      obtain ⟨wo, rfl⟩ : ∃ wo : World, wo = wr := ⟨_, rfl⟩
      go_loopw [10] (fun i wr => ∃ x : Nat, x ≤ V ∧ i = .int .i64 x ∧ PixSt w go #[.int .i64 W, .int .i64 H, .slice A ps.length c] V H f (y * V + x) wr ∧ Hid (Scan ps ts W M y x)) (fun i _ => V - (intOf i).toNat)
      case atStart => exact ⟨0, Nat.zero_le _, rfl, hst, hsc⟩
      case round =>
        clear hst hsc
        obtain ⟨x, hx, rfl, hst, hsc⟩ := hrel
        by_cases hxl : x < V
        · obtain ⟨tm, htm⟩ : ∃ tm, tm = packTerm ps ts W M T y x := ⟨_, rfl⟩
          have HTM := Lib.hid htm
          clear htm
          obtain ⟨v, d1, d2, d3, d4, HW⟩ := id hst
          have e3 := d3.cell
          have hM1 := HH.out.2.2.2.1; have hM8 := HH.out.2.2.2.2.1
          go_wp2_with fail
          clear e3 d1 d2 d3 d4 HW hM1 hM8
          obtain ⟨wo2, rfl⟩ : ∃ wo2 : World, wo2 = wr := ⟨_, rfl⟩
          go_loopw [11, 12] (fun gv kv wr => ∃ r : Nat, r ≤ M ∧ kv = .int .i64 ((r : Int) - 1) ∧ gv = .int .i64 (sumF (fromR tm r) M) ∧ PixSt w go #[.int .i64 W, .int .i64 H, .slice A ps.length c] V H f (y * V + x) wr ∧ Hid (DoneR ps ts W M y x r)) (fun _ kv _ => (intOf kv + 1).toNat)
          case atStart => exact ⟨M, Nat.le_refl _, rfl, by rw [sumR_all], hst, Lib.hid (fun k h1 h2 => absurd h1 (by omega))⟩
          case round =>
            clear hst
            obtain ⟨r, hr, rfl, rfl, hst, hdn⟩ := hrel
            have hG := sumR_lt HFEW.out HMT.out hdn.out
            rw [← HTM.out] at hG
            obtain ⟨G, hGe⟩ : ∃ G, G = sumF (fromR tm r) M := ⟨_, rfl⟩
            rw [← hGe] at hG ⊢
            have HG := Lib.hid hGe
            clear hGe
            rcases Nat.eq_zero_or_pos r with hr0 | hr0
            · subst hr0
              have hz : ((0 : Nat) : Int) - 1 = -1 := rfl
              rw [hz]
              clear hz
              have hGF : f (y * V + x) = mk4 255 0 G 0 := by rw [HFX.out y x hxl, HG.out, sumR_zero, HTM.out]
              have HGF := Lib.hid hGF
              clear hGF
              go_wp2_with fail
              refine wp_region_k (S := PixSt w go #[.int .i64 W, .int .i64 H, .slice A ps.length c] V H f (y * V + x)) hst (PixSt.keep _ _ _ _ _ _ _)
                6 (fun | 4 => some (fun _ u _ => u = .int .u32 (mk4 255 0 G 0)) | 5 => some (fun _ u w' => ∃ g, u = .slice (some ⟨g, 0, none⟩) 1 1 ∧ Blk w' g 40 (cellsU .u32 [mk4 255 0 G 0]) ∧ go + 1 ≤ g) | _ => none) (by rintro k b h vs u w w' hb hx; dsimp only at h; split at h <;> first | (cases h; exact hb) | (cases h; obtain ⟨g, e, hb, hl⟩ := hb; exact ⟨g, e, hb.ext hx, hl⟩) | cases h) (by kernel_rfl) (by kernel_rfl) ?_
              clear hst
              rintro w7 ⟨v, d1, d2, d3, d4, HW⟩
              simp only [List.take_succ_cons, List.take_zero, List.drop_succ_cons, List.drop_zero]
              have c3 := ExtOf.cells d3
              repeat (refine free_q (by rfl) (fun K hK => ?_); go_simp; refine hK _ ?_; clear hK K)
              refine free_c (by rfl) 46 #[.agg #[.int .i64 255, .int .i64 0, .int .i64 G, .int .i64 0]] (by rfl) (fun w => by go_simp) (fun δ _ => (make_any 255 0 G 0 _).mono (by rintro e w' ⟨rfl, h⟩; exact ⟨_, rfl, h, rfl⟩)) (fun v δ _ hv => ?_)
              obtain rfl := hv
              (try dsimp only [Act.put, List.setIfInBounds_toArray, List.set_cons_zero, List.set_cons_succ])
              refine free_v (by rfl) (by rfl) ?_ ?_
              · intro δ _
                refine ⟨.slice (some ⟨δ.w.heap.size, 0, none⟩) 1 1, δ.w.alloc (.cells (cellsU .u32 [mk4 255 0 G 0]) 40), ?_, ext_alloc (Below.refl _ _) _, _, rfl, Blk.new _ _ _, Nat.le_trans d3.lt δ.h.size⟩
                go_simp
                rfl
              intro u δ hf hv
              obtain ⟨gp, rfl, hgp, hgl⟩ := hv
              (try dsimp only [Act.put, List.setIfInBounds_toArray, List.set_cons_zero, List.set_cons_succ])
              refine free_nil ?_
              rintro w8 - hb8 hf8
              obtain ⟨g1, e1, F8, -⟩ := (hf8 5).2 rfl
              obtain rfl : gp = g1 := by simpa using e1
              have d1' := d1.ext hb8; have d2' := d2.ext hb8; have d3' := d3.ext hb8; have d4' := d4.ext hb8; have HW' := ext_then HW hb8
              clear d1 d2 d3 d4 HW c3 hf hf8 hgp e1 hb8
              have hng := d4'.ne_blk d3' (by decide)
              have k8 := F8.cell 0
              have hc1 : ∀ j, j < [mk4 255 0 G 0].length → w8.cell? ⟨gp, 0 + j, none⟩ = some (.int .u32 ([mk4 255 0 G 0].getD j 0)) := fun j hj => by
                obtain rfl : j = 0 := by simpa using hj
                simpa [cellsU] using k8
              have HC := Lib.hid hc1
              clear hc1 k8
              have hlx := place_lt hxl hyl
              have hmx : y * V + x + 1 ≤ 268435456 := by
                have h1 : H * V ≤ 16384 * 16384 := Nat.mul_le_mul (by have := HH.out.1.2.2.2.1; omega) HH.out.2.2.2.2.2.2.2.2.1
                omega
              clear hlx hG
              (try dsimp only [Act.put, List.setIfInBounds_toArray, List.set_cons_zero, List.set_cons_succ])
              go_wp2_with (at_builtin; refine wl_apps (W := w8) w.heap.size rfl _ _ 22 40 .u32 4 rfl Try.underlying22 infoU32 v ((List.range (y * V + x)).map f) [mk4 255 0 G 0] gp 0 1 rfl rfl HC.out d4' HW'.size (by simp; omega) (by simp; omega) ?_; intro v1 w9 hown hgrow _ hloc; obtain ⟨A1, c9, rfl, -⟩ := hown.ri; have d3'' := d3'.grown hgrow hng; have e4 := d3''.cell; have f4 := d3''.frozen)
              go_roundw
              case rel => exact ⟨x + 1, by omega, by go_num, PixSt.step (n := y * V + x) hol d1' d2' d3' d4' HW' (by rw [HGF.out]; simpa using hown) hgrow, Lib.hid (hsc.out.step HH.out.2.2.2.2.2.2.2.2.2.1 hdn.out HH.out.2.2.2.2.2.2.2.2.2.2)⟩
              case measure => simp [intOf]; omega
            · obtain ⟨kk, rfl⟩ : ∃ kk, r = kk + 1 := ⟨r - 1, by omega⟩
              have hz : ((kk + 1 : Nat) : Int) - 1 = (kk : Int) := by omega
              rw [hz]
              clear hz
              have hXM0 : 0 ≤ (x : Int) * M := Int.mul_nonneg (by omega) (by omega)
              have hXM1 : (x : Int) * M ≤ 131072 := by
                have := Int.mul_le_mul (show (x : Int) ≤ 16384 by have := HH.out.2.2.2.2.2.2.2.2.1; omega) HH.out.2.2.2.2.1 (by omega) (by decide)
                omega
              have hkM : kk < 8 := by have := HH.out.2.2.2.2.1; omega
              have hW16 : (W : Int) ≤ 16384 := HH.out.1.2.1
              by_cases hin : x * M + kk < W
              · have hin' : (x : Int) * M + kk < W := by exact_mod_cast hin
                obtain ⟨J, hJ⟩ : ∃ J, J = y * W + x * M + kk := ⟨_, rfl⟩
                have hJi : (y : Int) * W + (x : Int) * M + kk = (J : Int) := by rw [hJ]; push_cast; rfl
                have hJl : J < ps.length := by
                  have h1 := place_lt hin hyl
                  have h2 : ps.length = H * W := by have := HH.out.1.2.2.2.2; rw [Nat.mul_comm]; exact_mod_cast this
                  rw [h2, hJ, Nat.add_assoc]; exact h1
                have hJm : (J : Int) ≤ 268435456 := by have := HH.out.2.2.1; have := HH.out.1.2.2.2.2; omega
                have hYW : 0 ≤ (y : Int) * W := Int.mul_nonneg (by omega) (by omega)
                obtain ⟨bA, oA, rfl, hbA, cA⟩ := hps.at_ (by omega)
                obtain ⟨bB, oB, rfl, hbB, cB⟩ := hts.at_ (by have := HH.out.2.2.2.2.2.2.2.1; omega)
                have cJ := cA J hJl
                have hpos : ∀ z, z ∉ ts → ps.getD J 0 = z → packOk ⟨W, H, ps⟩ ts = false := fun z h1 h2 => packOk_not (m := ⟨W, H, ps⟩) hJl (by rw [← h2] at h1; exact h1)
                have hterm : ∀ z n : Nat, idxN ts (ps.getD J 0) = n → tm kk = (n : Int) * 2 ^ (T * kk) := fun _ n h => by rw [HTM.out]; exact term_at hin (by rw [← hJ]; exact h)
                have hdone : ps.getD J 0 ∈ ts → DoneR ps ts W M y x kk := fun h k h1 h2 h3 => by
                  rcases Nat.lt_or_ge kk k with h' | h'
                  · exact hdn.out k h' h2 h3
                  · have : k = kk := by omega
                    subst this
                    rw [← hJ]; exact h
                generalize hp : ps.getD J 0 = p at cJ hterm hdone hpos
                have HP := Lib.hid hp; have HTE := Lib.hid hterm; have HDO := Lib.hid hdone; have HPO := Lib.hid hpos
                have HJI := Lib.hid hJi
                clear hp hterm hdone hpos cA hJ hJi
                obtain ⟨v, d1, d2, d3, d4, HW⟩ := id hst
                have e1 := d1.cell
                have cJ' := (HW.cell (p := ⟨bA, oA + J, none⟩) hbA).trans cJ
                go_wp2_with fail
                clear e1 d1 d2 d3 d4 HW cJ'
                obtain ⟨wo3, rfl⟩ : ∃ wo3 : World, wo3 = wr := ⟨_, rfl⟩
                have hl256 : ts.length ≤ 256 := HH.out.2.2.2.2.2.2.2.1.2
                go_loopw [13] (fun nv wr => ∃ n : Nat, n ≤ ts.length ∧ nv = .int .i64 n ∧ PixSt w go #[.int .i64 W, .int .i64 H, .slice (some ⟨bA, oA, none⟩) ps.length c] V H f (y * V + x) wr ∧ Hid (∀ j, j < n → ts.getD j 0 ≠ p)) (fun nv _ => ts.length - (intOf nv).toNat)
                case atStart => exact ⟨0, Nat.zero_le _, rfl, hst, Lib.hid (fun j h => absurd h (by omega))⟩
                case round =>
                  clear hst
                  obtain ⟨n, hn, rfl, hst, hne⟩ := hrel
                  have r0 : IntKind.i64.wrap ((y : Int) * W) = (y : Int) * W := wrapIn (by have := HJI.out; omega) (by have := HJI.out; omega)
                  have r1 : IntKind.i64.wrap ((x : Int) * M) = (x : Int) * M := wrapIn (by have := HJI.out; omega) (by have := HJI.out; omega)
                  have r2 : IntKind.i64.wrap ((y : Int) * W + (x : Int) * M) = (y : Int) * W + (x : Int) * M := wrapIn (by have := HJI.out; omega) (by have := HJI.out; omega)
                  have r3 := congrArg IntKind.i64.wrap HJI.out
                  rw [wrapIn (x := (J : Int)) (by omega) (by omega)] at r3
                  by_cases hnl : n < ts.length
                  · have cN := cB n hnl
                    generalize hq : ts.getD n 0 = q at cN
                    have HQ := Lib.hid hq
                    clear hq
                    go_wp2_with fail
                    refine wp_region_k (S := fun w' => PixSt w go #[.int .i64 W, .int .i64 H, .slice (some ⟨bA, oA, none⟩) ps.length c] V H f (y * V + x) w' ∧ w'.cell? ⟨bA, oA + J, none⟩ = some (.int .u32 p) ∧ w'.cell? ⟨bB, oB + n, none⟩ = some (.int .u32 q))
                      ⟨hst, (hst.below.cell (p := ⟨bA, oA + J, none⟩) hbA).trans cJ, (hst.below.cell (p := ⟨bB, oB + n, none⟩) hbB).trans cN⟩ (fun w1 w2 h hb => ⟨PixSt.keep _ _ _ _ _ _ _ _ _ h.1 hb, (hb.cell (World.block_lt_of_cell? _ _ h.2.1)).trans h.2.1, (hb.cell (World.block_lt_of_cell? _ _ h.2.2)).trans h.2.2⟩)
                      24 (fun _ => none) (by rintro k b h; cases h) (by kernel_rfl) (by kernel_rfl) ?_
                    clear hst
                    rintro w7 ⟨⟨v, d1, d2, d3, d4, HW⟩, cp, cq⟩
                    simp only [List.take_succ_cons, List.take_zero, List.drop_succ_cons, List.drop_zero]
                    have c1 := ExtOf.cells d1; have c4 := ExtOf.cell cp; have c5 := ExtOf.cell cq
                    repeat (refine free_q (by rfl) (fun K hK => ?_); go_simp; refine hK _ ?_; clear hK K)
                    refine free_nil ?_
                    clear d1 d2 d3 d4 HW cp cq c1 c4 c5 r0 r1 r2 r3
                    rintro w8 ⟨hst, -, -⟩ - -
                    by_cases hqp : q = p
                    · have hqz : (q != p) = false := by simpa using hqp
                      have hidx : idxN ts p = n := idxN_at hnl hne.out (by rw [HQ.out, hqp])
                      have htmz := HTE.out 0 n hidx
                      have hmem : p ∈ ts := by rw [← hqp, ← HQ.out]; exact getD_mem hnl
                      have HTZ := Lib.hid htmz; have HME := Lib.hid hmem
                      clear hqp hidx htmz hmem
                      have hT8 := HH.out.2.2.2.2.2.2.1; have hT1 := HH.out.2.2.2.2.2.1
                      obtain ⟨E, hE⟩ : ∃ E, E = T * kk := ⟨_, rfl⟩
                      have hE64 : (T : Int) * kk = (E : Int) := by rw [hE]; push_cast; rfl
                      have hE8 : E ≤ 64 := by rw [hE]; exact Nat.mul_le_mul (show T ≤ 8 by omega) (show kk ≤ 8 by omega)
                      obtain ⟨Z, hZ⟩ : ∃ Z : Int, Z = (n : Int) * 2 ^ E := ⟨_, rfl⟩
                      have hGR := sumR_lt HFEW.out HMT.out (HDO.out HME.out)
                      rw [← HTM.out, sumR_step (show kk < M by omega), ← HG.out, HTZ.out, ← hE, ← hZ] at hGR
                      have hZ0 : 0 ≤ Z := by rw [hZ]; exact Int.mul_nonneg (by omega) (Int.pow_nonneg (by decide))
                      have hTq := HT.out
                      have hMz : ¬ (M : Int) = 0 := by omega
                      have hZ' := hZ.symm
                      have HZZ := Lib.hid (And.intro hE hZ)
                      clear hE hZ
                      go_wp2_with fail
                      clear hZ' hTq
                      go_roundw
                      case rel => exact ⟨kk, by omega, by go_num, by rw [sumR_step (show kk < M by omega), ← HG.out, HTZ.out, ← HZZ.out.1, ← HZZ.out.2], hst, Lib.hid (HDO.out HME.out)⟩
                      case measure => simp [intOf]
                    · have hqz : (q != p) = true := by simpa using hqp
                      have HQP := Lib.hid hqp
                      clear hqp
                      go_wp2_with fail
                      go_roundw
                      case rel => exact ⟨n + 1, by omega, by go_num, hst, Lib.hid (fun j hj => by
                        rcases Nat.lt_or_ge j n with h | h
                        · exact hne.out j h
                        · have : j = n := by omega
                          subst this
                          rw [HQ.out]; exact HQP.out)⟩
                      case measure => simp [intOf]; omega
                  · have hnn : n = ts.length := by omega
                    subst hnn
                    have hno : p ∉ ts := not_mem_of hne.out
                    have hok := HPO.out p hno rfl
                    have hpost : ∀ w7, Below w.heap.size w w7 → RetImg (packF ⟨W, H, ps⟩ ts) (.bool (packOk ⟨W, H, ps⟩ ts)) w (.returned (.tuple #[.agg #[.int .i64 0, .int .i64 0, .slice none 0 0], .bool false])) w7 := fun w7 h2 => by
                      rw [HPN.out hok, hok]
                      exact ⟨none, 0, rfl, RI.nil_ _ _ _ (by omega) _, h2⟩
                    have HPP := Lib.hid hpost
                    clear hno hok hpost
                    go_wp2_with fail
                    refine wp_region_k (S := PixSt w go #[.int .i64 W, .int .i64 H, .slice (some ⟨bA, oA, none⟩) ps.length c] V H f (y * V + x)) hst (PixSt.keep _ _ _ _ _ _ _)
                      24 (fun _ => none) (by rintro k b h; cases h) (by kernel_rfl) (by kernel_rfl) ?_
                    clear hst
                    rintro w7 -
                    simp only [List.take_succ_cons, List.take_zero, List.drop_succ_cons, List.drop_zero]
                    repeat (first
                      | (refine free_q (by rfl) (fun K hK => ?_); go_simp; refine hK _ ?_; clear hK K)
                      | (refine free_off ?_ ?_; (focus (first | rfl | go_simp)); dsimp only [Act.put, List.setIfInBounds_toArray, List.set_cons_zero, List.set_cons_succ]))
                    refine free_nil ?_
                    rintro w8 ⟨v, d1, d2, d3, d4, HW⟩ - -
                    have e2 := d2.cell
                    have f2 := d2.frozen
                    clear r0 r1 r2 r3
                    go_wp2_with fail
                    obtain ⟨w7, e7, k0, k1, k2, r7, h7⟩ := img_end d2 HW (by omega) (RI.nil_ .u32 w8 0 (by omega) none) 0 0 0
                    rw [e7]
                    exact bodyPost_ret (v := .tuple #[.agg #[.int .i64 0, .int .i64 0, .slice none 0 0], .bool false]) (by simp [results, Try.results12, go_sem, k0, k1, k2]) rfl (HPP.out w7 h7)
              · have hin' : (W : Int) ≤ (x : Int) * M + kk := by have : W ≤ x * M + kk := by omega
                                                                 exact_mod_cast this
                have e0 : tm kk = 0 := by rw [HTM.out]; exact term_off hin
                have HE := Lib.hid e0
                obtain ⟨v, d1, d2, d3, d4, HW⟩ := id hst
                have e1 := d1.cell
                clear e0 hin
                go_wp2_with fail
                go_roundw
                case rel => exact ⟨kk, by omega, by go_num, by rw [sumR_step (show kk < M by omega), HE.out, Int.add_zero, ← HG.out], hst, Lib.hid (fun k h1 h2 h3 => by
                  rcases Nat.lt_or_ge kk k with h | h
                  · exact hdn.out k h h2 h3
                  · have : k = kk := by omega
                    subst this
                    have : (x : Int) * M + k < W := by exact_mod_cast h3
                    omega)⟩
                case measure => simp [intOf]
        · have hxV : x = V := by omega
          subst hxV
          have hH16 : H ≤ 16384 := by have := HH.out.1.2.2.2.1; omega
          obtain ⟨v, d1, d2, d3, d4, HW⟩ := id hst
          have e3 := d3.cell
          go_wp2_with fail
          go_roundw
          case rel => exact ⟨y + 1, by omega, by go_num, by rw [Nat.add_mul, Nat.one_mul]; exact hst, Lib.hid (hsc.out.row HH.out.2.2.2.2.2.2.2.2.2.1 HH.out.2.2.2.2.2.2.2.2.2.2 HV.out)⟩
          case measure => simp [intOf]; omega
    · have hyG : y = H := by omega
      subst hyG
      have hok := HPY.out hsc.out
      have hpost : ∀ A1 c1 w7, RI .u32 w7 A1 c1 ((List.range (y * V)).map f) → Below w.heap.size w w7 → RetImg (packF ⟨W, y, ps⟩ ts) (.bool (packOk ⟨W, y, ps⟩ ts)) w (.returned (.tuple #[.agg #[.int .i64 V, .int .i64 y, .slice A1 (y * V) c1], .bool true])) w7 := fun A1 c1 w7 h1 h2 => by
        rw [HPF.out hok, hok]
        exact ⟨A1, c1, by simp, h1, h2⟩
      have HPP := Lib.hid hpost
      clear hpost
      obtain ⟨v, d1, d2, d3, d4, HW⟩ := hst
      obtain ⟨A1, c1, rfl, hri⟩ := d4.ri
      have e1 := d1.cell
      have e3 := d3.cell
      have e2 := d2.cell
      have f2 := d2.frozen
      go_wp2_with fail
      obtain ⟨w7, e7, k0, k1, k2, r7, h7⟩ := img_end d2 HW (by omega) hri V y ((List.range (y * V)).map f).length
      simp only [List.length_map, List.length_range] at e7 k2 r7 ⊢
      rw [e7]
      exact bodyPost_ret (v := .tuple #[.agg #[.int .i64 V, .int .i64 y, .slice A1 (y * V) c1], .bool true]) (by simp [results, Try.results12, go_sem, k0, k1, k2]) rfl (HPP.out A1 c1 w7 r7 h7)
theorem packr_any (m : ImgP) (A B : Option Addr) (c d : Nat) (ts : List Int) (w : World) (hps : RI .u32 w A c m.P) (hts : RI .u32 w B d ts) (hpx : ∀ x ∈ m.P, IsPx x) :
    Calls Try.prog 12 #[.agg #[.int .i64 m.W, .int .i64 m.H, .slice A m.P.length c], .slice B ts.length d] w (RetImg (packF m ts) (.bool (packOk m ts)) w) := by
  by_cases h : (goodB m.W m.H m.P.length && decide (1 ≤ ts.length ∧ ts.length ≤ 256)) = true
  · rw [Bool.and_eq_true, decide_eq_true_eq] at h
    obtain ⟨W, H, P⟩ := m
    have g := goodB_iff.1 h.1
    obtain ⟨W, rfl⟩ := Int.eq_ofNat_of_zero_le (show 0 ≤ W by have := g.1; dsimp only at this; omega)
    obtain ⟨H, rfl⟩ := Int.eq_ofNat_of_zero_le (show 0 ≤ H by have := g.2.2.1; dsimp only at this; omega)
    exact packr_ok W H A B c d P ts w hps hts hpx h.1 h.2
  · have h' : (goodB m.W m.H m.P.length && decide (1 ≤ ts.length ∧ ts.length ≤ 256)) = false := by simpa using h
    have hok : packOk m ts = false := by unfold packOk; rw [h']; rfl
    have hF : packF m ts = ⟨0, 0, []⟩ := by unfold packF; rw [if_neg (by rw [hok]; simp)]
    rw [hF, hok]
    exact packr_err m.W m.H A B c d m.P ts w h'
end Go.Proofs.Ytlhhihdfcbkmmaa
