import Derived.Test.YtlhhihdfcbkmmaaT4
set_option linter.unusedVariables false
set_option linter.unusedSimpArgs false
namespace Go.Proofs.Ytlhhihdfcbkmmaa
open Go.RowKit
theorem ediv2 (a : Int) (i : Nat) : a / (2 ^ i * 2) = a / 2 ^ i / 2 := by
  rw [Int.ediv_ediv_of_nonneg (Int.pow_nonneg (by decide))]
/-- While a picture is made pixel by pixel. -/
def PixSt (w : World) (go : Nat) (box : Array Value) (V G : Int) (f : Nat → Int) (n : Nat) (wr : World) : Prop :=
  ∃ v, Blk wr w.heap.size 24 box ∧ Blk wr (w.heap.size + 1) 24 #[.int .i64 0, .int .i64 0, .slice none 0 0] ∧ Blk wr go 24 #[.int .i64 V, .int .i64 G, v] ∧
    Own wr w.heap.size 40 .u32 v ((List.range n).map f) ∧ Below w.heap.size w wr
theorem PixSt.below {w : World} {go : Nat} {box : Array Value} {V G : Int} {f : Nat → Int} {n : Nat} {wr : World} (h : PixSt w go box V G f n wr) : Below w.heap.size w wr := h.choose_spec.2.2.2.2
theorem PixSt.keep (w : World) (go : Nat) (box : Array Value) (V G : Int) (f : Nat → Int) (n : Nat) : Keep (PixSt w go box V G f n) := by
  rintro w1 w2 ⟨v, a, b, c, d, e⟩ hb
  exact ⟨v, a.ext hb, b.ext hb, c.ext hb, d.ext hb, ext_then e hb⟩
theorem PixSt.step {w : World} {go : Nat} {box : Array Value} {V G : Int} {f : Nat → Int} {n : Nat} {wr w9 : World} {v v1 : Value} (hgo : w.heap.size + 2 ≤ go) (d1 : Blk wr w.heap.size 24 box)
    (d2 : Blk wr (w.heap.size + 1) 24 #[.int .i64 0, .int .i64 0, .slice none 0 0]) (d3 : Blk wr go 24 #[.int .i64 V, .int .i64 G, v]) (d4 : Own wr w.heap.size 40 .u32 v ((List.range n).map f)) (HW : Below w.heap.size w wr)
    (hown : Own w9 w.heap.size 40 .u32 v1 ((List.range n).map f ++ [f n])) (hgrow : wr.grownBy w9 v.ownBlock) : PixSt w go box V G f (n + 1) (w9.setCell ⟨go, 2, none⟩ v1) := by
  have e3 := d3.grown hgrow (d4.ne_blk d3 (by decide))
  refine ⟨v1, (d1.grown hgrow (d4.ne_blk d1 (by decide))).far (p := ⟨go, 2, none⟩) (by simp; omega) _, (d2.grown hgrow (d4.ne_blk d2 (by decide))).far (p := ⟨go, 2, none⟩) (by simp; omega) _, by simpa using e3.set_ 2 v1,
    ?_, ext_set (ext_grown HW hgrow HW.size d4 (Nat.le_refl _)) (p := ⟨go, 2, none⟩) (by simp; omega) _⟩
  rw [List.range_succ, List.map_append]
  exact hown.set_far e3 (by decide) 2 v1
set_option maxRecDepth 100000 in
set_option maxHeartbeats 2000000 in
theorem unpackr_ok (W H wd : Int) (A B : Option Addr) (c d : Nat) (ps ts : List Int) (w : World) (hps : RI .u32 w A c ps) (hts : RI .u32 w B d ts) (hpx : ∀ x ∈ ps, IsPx x) (hok : unpackOk ⟨W, H, ps⟩ ts wd = true) :
    Calls Try.prog 14 #[.agg #[.int .i64 W, .int .i64 H, .slice A ps.length c], .slice B ts.length d, .int .i64 wd] w
      (RetImg ⟨wd, H, (List.range (wd * H).toNat).map (unpackAt ps ts W wd (packI ts.length))⟩ (.bool true) w) := by
  unfold unpackOk at hok
  simp only [Bool.and_eq_true, decide_eq_true_eq] at hok
  obtain ⟨⟨⟨⟨hg, ht⟩, hw1⟩, hw2⟩, hbl⟩ := hok
  have hbW : (blocksI wd (packI ts.length) != W) = false := by simpa using hbl
  have hd3 : decide ((ts.length : Int) < 1) = false := by simp; omega
  have hd4 : decide ((256 : Int) < ts.length) = false := by simp; omega
  have hpk : 0 ≤ packI ts.length ∧ packI ts.length ≤ 3 := by rcases packI_range ts.length with h | h | h | h <;> omega
  have g := goodB_iff.1 hg
  have hd1 : decide (wd < 1) = false := by simpa using hw1
  have hd2 : decide (16384 < wd) = false := by simpa using hw2
  have hblM : W = (wd + 2 ^ (packI ts.length).toNat - 1) / 2 ^ (packI ts.length).toNat := by
    rw [← hbl]; unfold blocksI; rw [if_pos (by omega)]
  have HBL0 := Lib.hid hblM
  clear hbl hblM
  obtain ⟨V, rfl⟩ := Int.eq_ofNat_of_zero_le (show 0 ≤ wd by omega)
  obtain ⟨G, rfl⟩ := Int.eq_ofNat_of_zero_le (show 0 ≤ H by omega)
  obtain ⟨f, hf⟩ : ∃ f, unpackAt ps ts W V (packI ts.length) = f := ⟨_, rfl⟩
  have HF := Lib.hid hf
  rw [hf]
  clear hf
  go_enter Try.func14, Try.ntmps14
  go_wp2_with (go_at_call 21; refine (rpack_any _ _).mono ?_; rintro e w' ⟨rfl, rfl⟩)
  refine wp_region_k (S := fun w' => Blk w' w.heap.size 24 #[.int .i64 W, .int .i64 G, .slice A ps.length c] ∧ Blk w' (w.heap.size + 1) 24 #[.int .i64 0, .int .i64 0, .slice none 0 0] ∧ Below w.heap.size w w')
    ⟨(Blk.new _ _ _).alloc _, Blk.new' (by simp only [size_alloc]) _ _, ext_alloc (ext_alloc (Below.refl _ _) _) _⟩ (fun w1 w2 h hb => ⟨h.1.ext hb, h.2.1.ext hb, ext_then h.2.2 hb⟩)
    28 (fun | 1 => some (fun _ u _ => u = .bool (goodB W G ps.length)) | 24 => some (fun _ u _ => u = .int .i64 (blocksI V (packI ts.length))) | _ => none) (by rintro k b h vs u w w' hb hx; dsimp only at h; split at h <;> first | (cases h; exact hb) | (cases h; obtain ⟨g, e, hb, hl⟩ := hb; exact ⟨g, e, hb.ext hx, hl⟩) | cases h) (by kernel_rfl) (by kernel_rfl) ?_
  rintro w0 ⟨b1, b2, HW⟩
  simp only [List.take_succ_cons, List.take_zero, List.drop_succ_cons, List.drop_zero]
  have c1 := ExtOf.cells b1
  repeat (first
    | (refine free_q (by rfl) (fun K hK => ?_); go_simp; refine hK _ ?_; clear hK K)
    | (refine free_off ?_ ?_; (focus (first | rfl | go_simp)); dsimp only [Act.put, List.setIfInBounds_toArray, List.set_cons_zero, List.set_cons_succ])
    | (refine free_c (by rfl) 37 #[.agg #[.int .i64 W, .int .i64 G, .slice A ps.length c]] (by rfl) (fun w => by (go_simp; done)) (fun δ _ => (goodr_any _ _ _ _ _ _).mono (by rintro e w' ⟨rfl, hb⟩; exact ⟨_, rfl, hb, rfl⟩)) (fun v δ _ hv => ?_); obtain rfl := hv; (try dsimp only [Act.put, List.setIfInBounds_toArray, List.set_cons_zero, List.set_cons_succ]))
    | (refine free_c (by rfl) 45 #[.int .i64 V, .int .i64 (packI ts.length)] (by rfl) (fun w => by (go_simp; done)) (fun δ _ => (blocksr_any _ _ _).mono (by rintro e w' ⟨rfl, rfl⟩; exact ⟨_, rfl, Below.refl _ _, rfl⟩)) (fun v δ _ hv => ?_); obtain rfl := hv; (try dsimp only [Act.put, List.setIfInBounds_toArray, List.set_cons_zero, List.set_cons_succ])))
  refine free_nil ?_
  rintro w5 ⟨d1, d2, HW'⟩ - -
  clear b1 b2 HW c1 hbW hd1 hd2 hd3 hd4
  have e1 := d1.cell
  obtain ⟨M, hM⟩ : ∃ M, (2 : Int) ^ (packI ts.length).toNat = M := ⟨_, rfl⟩
  have hblM := HBL0.out
  rw [hM] at hblM
  have HBL := Lib.hid hblM
  clear hblM
  have hM1 : 1 ≤ M ∧ M ≤ 8 := by rw [← hM]; rcases packI_range ts.length with h | h | h | h <;> rw [h] <;> decide
  have hMw : wrap64 M = M := wrap64In (by omega) (by omega)
  have hMz : ¬ M = 0 := by omega
  obtain ⟨T, hT⟩ : ∃ T, 8 / M = T := ⟨_, rfl⟩
  have hT1 : 1 ≤ T ∧ T ≤ 8 := by
    rw [← hT, ← hM]; rcases packI_range ts.length with h | h | h | h <;> rw [h] <;> decide
  go_wp2_with fail
  have HM := Lib.hid hM; have HT := Lib.hid hT
  clear hM hT hMw e1
  have hst : PixSt w w5.heap.size #[.int .i64 W, .int .i64 G, .slice A ps.length c] V G f 0 (w5.alloc (.cells #[.int .i64 V, .int .i64 G, .slice none 0 0] 24)) :=
    ⟨.slice none 0 0, d1.alloc _, d2.alloc _, Blk.new _ _ _, Own.none_ _ _ _ _, ext_alloc HW' _⟩
  have hgo : w.heap.size + 2 ≤ w5.heap.size := d2.lt
  clear d1 d2 HW'
  generalize w5.alloc (.cells #[.int .i64 V, .int .i64 G, .slice none 0 0] 24) = w6 at *
  generalize w5.heap.size = go at *
  go_loopw [12] (fun i wr => ∃ y : Nat, y ≤ G ∧ i = .int .i64 y ∧ PixSt w go #[.int .i64 W, .int .i64 G, .slice A ps.length c] V G f (y * V) wr) (fun i _ => G - (intOf i).toNat)
  case atStart => exact ⟨0, Nat.zero_le _, rfl, by rw [Nat.zero_mul]; exact hst⟩
  case round =>
    clear hst
    obtain ⟨y, hy, rfl, hst⟩ := hrel
    by_cases hyl : y < G
    · obtain ⟨v, d1, d2, d3, d4, HW⟩ := id hst
      have e1 := d1.cell
      go_wp2_with fail
      clear e1 d1 d2 d3 d4 HW
      obtain ⟨wo, rfl⟩ : ∃ wo : World, wo = wr := ⟨_, rfl⟩
      go_loopw [13] (fun i wr => ∃ x : Nat, x ≤ V ∧ i = .int .i64 x ∧ PixSt w go #[.int .i64 W, .int .i64 G, .slice A ps.length c] V G f (y * V + x) wr) (fun i _ => V - (intOf i).toNat)
      case atStart => exact ⟨0, Nat.zero_le _, rfl, hst⟩
      case round =>
        clear hst
        obtain ⟨x, hx, rfl, hst⟩ := hrel
        by_cases hxl : x < V
        · have hU := unpack_at (D := M) hM1.1 HBL.out (show 0 ≤ (x : Int) by omega) (show (x : Int) < V by omega) (show 0 ≤ (y : Int) by omega) (show (y : Int) < G by omega)
          obtain ⟨J, hJ⟩ := Int.eq_ofNat_of_zero_le (show 0 ≤ _ from Int.add_nonneg hU.2.2.1 hU.1)
          have hmW := mul_small g.1 g.2.1 g.2.2.1 g.2.2.2.1
          have hJl : J < ps.length := by omega
          have hJm : (J : Int) < W * G := by omega
          obtain ⟨bA, oA, rfl, hbA, cA⟩ := hps.at_ (by omega)
          have cJ := cA J hJl
          have hpJ := hpx _ (getD_mem hJl)
          generalize hp : ps.getD J 0 = p at cJ hpJ
          have HP := Lib.hid hp
          have hG := pg_range p
          clear hp cA
          have r0 : IntKind.i64.wrap ((y : Int) * W) = (y : Int) * W := wrapIn (by omega) (by omega)
          have r2 := congrArg IntKind.i64.wrap hJ
          rw [wrapIn (x := (J : Int)) (by omega) (by omega)] at r2
          have r3 : ((x : Int)).tdiv M = (x : Int) / M := tdivIn (by omega)
          have r4 : IntKind.i64.wrap ((x : Int) / M) = (x : Int) / M := wrapIn (by omega) (by omega)
          have HJ := Lib.hid hJ; clear hJ hU
          go_wp2_with fail
          refine wp_region_k (S := fun w' => PixSt w go #[.int .i64 W, .int .i64 G, .slice (some ⟨bA, oA, none⟩) ps.length c] V G f (y * V + x) w' ∧ w'.cell? ⟨bA, oA + J, none⟩ = some (.int .u32 p))
            ⟨hst, (hst.below.cell (p := ⟨bA, oA + J, none⟩) hbA).trans cJ⟩ (fun w1 w2 h hb => ⟨PixSt.keep _ _ _ _ _ _ _ _ _ h.1 hb, (hb.cell (World.block_lt_of_cell? _ _ h.2)).trans h.2⟩)
            13 (fun | 12 => some (fun _ u _ => u = .int .i64 (pg p)) | _ => none) (by rintro k b h vs u w w' hb hx; dsimp only at h; split at h <;> first | (cases h; exact hb) | (cases h; obtain ⟨g, e, hb, hl⟩ := hb; exact ⟨g, e, hb.ext hx, hl⟩) | cases h) (by kernel_rfl) (by kernel_rfl) ?_
          clear hst
          rintro w7 ⟨⟨v, d1, d2, d3, d4, HW⟩, cp⟩
          simp only [List.take_succ_cons, List.take_zero, List.drop_succ_cons, List.drop_zero]
          have c1 := ExtOf.cells d1; have c4 := ExtOf.cell cp
          repeat (refine free_q (by rfl) (fun K hK => ?_); go_simp; refine hK _ ?_; clear hK K)
          refine free_c (by rfl) 48 #[.int .u32 p, .int .i64 2] (by rfl) (fun w => by go_simp) (fun δ _ => (part2 p hpJ _).mono (by rintro e w' ⟨rfl, rfl⟩; exact ⟨_, rfl, Below.refl _ _, rfl⟩)) (fun v δ _ hv => ?_)
          obtain rfl := hv
          (try dsimp only [Act.put, List.setIfInBounds_toArray, List.set_cons_zero, List.set_cons_succ])
          refine free_nil ?_
          clear d1 d2 d3 d4 HW cp c1 c4 r0 r2 r3 r4
          rintro w8 ⟨hst, -⟩ - -
          have hxm := Int.emod_nonneg (x : Int) hMz
          have hxM := Int.emod_lt_of_pos (x : Int) (show 0 < M by omega)
          have hxT := mul_le64 hxm (by omega) hT1.1 hT1.2
          obtain ⟨E, hE⟩ := Int.eq_ofNat_of_zero_le hxT.1
          obtain ⟨Z, hZ⟩ : ∃ Z, (2 : Int) ^ T.toNat = Z := ⟨_, rfl⟩
          have hZ1 := pow_small hT1.1 hT1.2
          rw [hZ] at hZ1
          have hZw : wrap64 Z = Z := wrap64In (by omega) (by omega)
          have hZz : ¬ Z = 0 := by omega
          have hE64 : (E : Int) ≤ 64 := by omega
          go_wp2_with fail
          go_loop [14, 15] (fun s k => ∃ i : Nat, i ≤ E ∧ k = .int .i64 i ∧ s = .int .i64 (pg p / 2 ^ i)) (fun _ k => E - (intOf k).toNat)
          case atStart => exact ⟨0, Nat.zero_le _, rfl, by simp⟩
          case round =>
            obtain ⟨i, hi, rfl, rfl⟩ := hrel
            have hg0 : 0 ≤ pg p / 2 ^ i := Int.ediv_nonneg hG.1 (Int.pow_nonneg (by decide))
            have hg1 : pg p / 2 ^ i < 256 := by have := Int.ediv_le_self (a := pg p) (2 ^ i) hG.1; omega
            by_cases hiE : i < E
            · go_wp2_with fail
              go_round
              case rel => exact ⟨i + 1, by omega, by go_num, by rw [Int.pow_succ, ediv2]⟩
              case measure => simp [intOf]; omega
            · obtain rfl : i = E := by omega
              obtain ⟨Q, hQ⟩ := Int.eq_ofNat_of_zero_le (Int.emod_nonneg (pg p / 2 ^ i) hZz)
              obtain ⟨v, d1, d2, d3, d4, HW⟩ := hst
              have hng := d4.ne_blk d3 (by decide)
              have e3 := d3.cell
              have hlx := place_lt hxl hyl
              have hmx : y * V + x + 1 ≤ 268435456 := by
                have h1 : ((G * V : Nat) : Int) = (V : Int) * G := by simp [Int.mul_comm]
                have h2 := mul_small hw1 hw2 g.2.2.1 g.2.2.2.1
                omega
              by_cases hq : Q < ts.length
              · obtain ⟨bB, oB, rfl, hbB, cB⟩ := hts.at_ (by omega)
                have cQ := (HW.cell (p := ⟨bB, oB + Q, none⟩) hbB).trans (cB Q hq)
                generalize hv : ts.getD Q 0 = u at cQ
                have HV := Lib.hid hv
                clear hv cB
                go_wp2_with (at_builtin; refine wl_app (W := w8) w.heap.size rfl _ _ 22 40 .u32 4 rfl Try.underlying22 infoU32 v ((List.range (y * V + x)).map f) u rfl rfl d4 HW.size (by simp; omega) (by simp; omega) ?_; intro v1 w9 hown hgrow hloc; obtain ⟨A1, c9, rfl, -⟩ := hown.ri; have d3' := d3.grown hgrow hng; have e4 := d3'.cell; have f4 := d3'.frozen)
                have hfu : f (y * V + x) = u := by
                  obtain ⟨Q', hQ', hf⟩ := unpackAt_eq (ps := ps) (ts := ts) (W := W) (wd := V) (b := packI ts.length) (k := y * V + x) (J := J) (p := p) (by rw [(place_div hxl).1, (place_div hxl).2, HM.out]; exact HJ.out) HP.out
                  rw [HF.out] at hf
                  rw [(place_div hxl).2, HM.out, HT.out, hE, hZ, Int.toNat_natCast, hQ] at hQ'
                  obtain rfl : Q = Q' := by omega
                  rw [hf, if_pos (by omega), HV.out]
                go_roundw
                case rel => exact ⟨x + 1, by omega, by go_num, PixSt.step (n := y * V + x) hgo d1 d2 d3 d4 HW (by simp only [List.length_append, List.length_map, List.length_range, List.length_cons, List.length_nil, Nat.zero_add] at hown; rw [hfu]; exact hown) hgrow⟩
                case measure => simp [intOf]; omega
              · have hfu : f (y * V + x) = 0 := by
                  obtain ⟨Q', hQ', hf⟩ := unpackAt_eq (ps := ps) (ts := ts) (W := W) (wd := V) (b := packI ts.length) (k := y * V + x) (J := J) (p := p) (by rw [(place_div hxl).1, (place_div hxl).2, HM.out]; exact HJ.out) HP.out
                  rw [HF.out] at hf
                  rw [(place_div hxl).2, HM.out, HT.out, hE, hZ, Int.toNat_natCast, hQ] at hQ'
                  obtain rfl : Q = Q' := by omega
                  rw [hf, if_neg (by omega)]
                have HFU := Lib.hid hfu
                clear hfu
                go_wp2_with (at_builtin; refine wl_app (W := w8) w.heap.size rfl _ _ 22 40 .u32 4 rfl Try.underlying22 infoU32 v ((List.range (y * V + x)).map f) 0 rfl rfl d4 HW.size (by simp; omega) (by simp; omega) ?_; intro v1 w9 hown hgrow hloc; obtain ⟨A1, c9, rfl, -⟩ := hown.ri; have d3' := d3.grown hgrow hng; have e4 := d3'.cell; have f4 := d3'.frozen)
                go_roundw
                case rel => exact ⟨x + 1, by omega, by go_num, PixSt.step (n := y * V + x) hgo d1 d2 d3 d4 HW (by simp only [List.length_append, List.length_map, List.length_range, List.length_cons, List.length_nil, Nat.zero_add] at hown; rw [HFU.out]; exact hown) hgrow⟩
                case measure => simp [intOf]; omega
        · have hxV : x = V := by omega
          subst hxV
          go_wp2_with fail
          go_roundw
          case rel => exact ⟨y + 1, by omega, by go_num, by rw [Nat.add_mul, Nat.one_mul]; exact hst⟩
          case measure => simp [intOf]; omega
    · have hyG : y = G := by omega
      subst hyG
      obtain ⟨v, d1, d2, d3, d4, HW⟩ := hst
      obtain ⟨A1, c1, rfl, hri⟩ := d4.ri
      have e1 := d1.cell
      have e3 := d3.cell
      have e2 := d2.cell
      have f2 := d2.frozen
      go_wp2_with fail
      have g0 := ((d2.set_ 0 (.int .i64 V)).set_ 1 (.int .i64 y)).set_ 2 (.slice A1 ((List.range (y * V)).map f).length c1)
      have g1 := ext_set (ext_set (ext_set HW (p := ⟨w.heap.size + 1, 0, none⟩) (by simp) (.int .i64 V)) (p := ⟨w.heap.size + 1, 1, none⟩) (by simp) (.int .i64 y)) (p := ⟨w.heap.size + 1, 2, none⟩) (by simp) (.slice A1 ((List.range (y * V)).map f).length c1)
      have g2 := (((d4.set_far d2 (by decide) 0 (.int .i64 V)).set_far (d2.set_ 0 (.int .i64 V)) (by decide) 1 (.int .i64 y)).set_far ((d2.set_ 0 (.int .i64 V)).set_ 1 (.int .i64 y)) (by decide) 2 (.slice A1 ((List.range (y * V)).map f).length c1)).ri
      simp at g0 g1 g2
      generalize ((wr.setCell ⟨w.heap.size + 1, 0, none⟩ (.int .i64 V)).setCell ⟨w.heap.size + 1, 1, none⟩ (.int .i64 y)).setCell ⟨w.heap.size + 1, 2, none⟩ (.slice A1 (y * V) c1) = w7 at *
      have k0 := g0.cell 0; have k1 := g0.cell 1; have k2 := g0.cell 2
      simp at k0 k1 k2
      obtain ⟨A2, c2, e, g2⟩ := g2
      refine bodyPost_ret (v := .tuple #[.agg #[.int .i64 V, .int .i64 y, .slice A1 (y * V) c1], .bool true]) (by simp [results, Try.results14, go_sem, k0, k1, k2]) rfl ⟨A1, c1, ?_, ?_, g1⟩
      · have h : ((V : Int) * y).toNat = y * V := by rw [← Int.natCast_mul, Int.toNat_natCast, Nat.mul_comm]
        simp [h]
      · have h : ((V : Int) * y).toNat = y * V := by rw [← Int.natCast_mul, Int.toNat_natCast, Nat.mul_comm]
        obtain ⟨rfl, rfl⟩ := e
        show RI _ _ _ _ ((List.range ((V : Int) * y).toNat).map f)
        rw [h]
        exact g2
theorem unpackr_any (m : ImgP) (wd : Int) (A B : Option Addr) (c d : Nat) (ts : List Int) (w : World) (hps : RI .u32 w A c m.P) (hts : RI .u32 w B d ts) (hpx : ∀ x ∈ m.P, IsPx x) :
    Calls Try.prog 14 #[.agg #[.int .i64 m.W, .int .i64 m.H, .slice A m.P.length c], .slice B ts.length d, .int .i64 wd] w (RetImg (unpackF m ts wd) (.bool (unpackOk m ts wd)) w) := by
  unfold unpackF
  cases h : unpackOk m ts wd
  · exact unpackr_err m.W m.H wd A B c d m.P ts w h
  · exact unpackr_ok m.W m.H wd A B c d m.P ts w hps hts hpx h
end Go.Proofs.Ytlhhihdfcbkmmaa
