import Derived.Test.YtlhhihdfcbkmmaaT2
import Derived.Test.YtlhhihdfcbkmmaaP3
set_option linter.unusedVariables false
set_option linter.unusedSimpArgs false
namespace Go.Proofs.Ytlhhihdfcbkmmaa
open Go.RowKit
theorem getD_mem {xs : List Int} {j : Nat} (h : j < xs.length) : xs.getD j 0 ∈ xs := by
  rw [List.getD_eq_getElem?_getD, List.getElem?_eq_getElem h]; exact List.getElem_mem h
theorem make_u32 (N : Nat) (hN : N ≤ 268435456) (W : World) : (Instr.makeSlice 22 (.int .i64 (N : Int)) (.int .i64 (N : Int))).run Try.prog W = .ok (.slice (some ⟨W.heap.size, 0, none⟩) N N) (W.alloc (.cells (cellsU .u32 (List.replicate N 0)) 40)) := by
  rw [← cellsU_made]
  exact run_make_row' 22 40 (.int .u32 0) 4 Try.underlying22 infoU32 rfl .i64 .i64 N (by omega) (by omega) W
set_option maxRecDepth 100000 in
set_option maxHeartbeats 4000000 in
theorem unpack_ok (W H wd : Int) (A B : Option Addr) (c d : Nat) (ps ts : List Int) (w : World) (hps : RI .u32 w A c ps) (hts : RI .u32 w B d ts) (hpx : ∀ x ∈ ps, IsPx x) (hok : unpackOk ⟨W, H, ps⟩ ts wd = true) :
    Calls Try.prog 13 #[.agg #[.int .i64 W, .int .i64 H, .slice A ps.length c], .slice B ts.length d, .int .i64 wd] w
      (RetImg ⟨wd, H, (List.range (wd * H).toNat).map (unpackAt ps ts W wd (packI ts.length))⟩ (.int .i64 0) w) := by
  unfold unpackOk at hok
  simp only [Bool.and_eq_true, decide_eq_true_eq] at hok
  obtain ⟨⟨⟨⟨hg, ht⟩, hw1⟩, hw2⟩, hbl⟩ := hok
  have hbW : (blocksI wd (packI ts.length) != W) = false := by simpa using hbl
  have htd : decide (1 ≤ ts.length ∧ ts.length ≤ 256) = true := by simpa using ht
  have hpk : 0 ≤ packI ts.length ∧ packI ts.length ≤ 3 := by unfold packI; split <;> (try split) <;> (try split) <;> omega
  have g := goodB_iff.1 hg
  have hm := mul_small hw1 hw2 g.2.2.1 g.2.2.2.1
  have hwr : wrap64 (wd * H) = wd * H := wrap64_id (by omega) (by omega)
  obtain ⟨N, hN⟩ := Int.eq_ofNat_of_zero_le (show 0 ≤ wd * H by omega)
  have hd1 : decide (wd < 1) = false := by simpa using hw1
  have hd2 : decide (16384 < wd) = false := by simpa using hw2
  have hbl' : W = (wd + 2 ^ (packI ts.length).toNat - 1) / 2 ^ (packI ts.length).toNat := by
    rw [← hbl]; unfold blocksI; rw [if_pos (by omega)]
  have HBL' := Lib.hid hbl'
  clear hbl'
  have HN := Lib.hid hN
  have HBL := Lib.hid hbl
  clear hbl hN
  rcases packI_range ts.length with hb | hb | hb | hb
  all_goals
    rw [hb] at hbW
    go_enter Try.func13, Try.ntmps13
    go_wp2_with (go_at_call 20; refine (tbits_any _ _).mono ?_; rintro e w' ⟨rfl, rfl⟩)
    refine wp_region_free' 23 (fun | 1 => some (fun _ u _ => u = .bool (goodB W H ps.length)) | 5 => some (fun _ u _ => u = .bool (decide (1 ≤ ts.length ∧ ts.length ≤ 256))) | 19 => some (fun _ u _ => u = .int .i64 (blocksI wd (packI ts.length))) | _ => none)
      (fun w' => Blk w' w.heap.size 24 #[.int .i64 W, .int .i64 H, .slice A ps.length c] ∧ Blk w' (w.heap.size + 1) 24 #[.int .i64 0, .int .i64 0, .slice none 0 0] ∧ Below w.heap.size w w') (by rintro k b h vs u w w' hb hx; dsimp only at h; split at h <;> first | (cases h; exact hb) | (cases h; obtain ⟨g, e, hb, hl⟩ := hb; exact ⟨g, e, hb.ext hx, hl⟩) | cases h) (by kernel_rfl) (by kernel_rfl) ?_ ?_
    · exact ⟨((Blk.new _ _ _).alloc _).drew, (Blk.new' (by simp only [size_alloc]) _ _).drew, (ext_alloc (ext_alloc (Below.refl _ _) _) _).drew⟩
    rintro w0 ⟨b1, b2, HW⟩
    simp only [List.take_succ_cons, List.take_zero, List.drop_succ_cons, List.drop_zero]
    have c1 := ExtOf.cell (b1.cell 0); have c2 := ExtOf.cell (b1.cell 1); have c3 := ExtOf.cell (b1.cell 2)
    repeat (first
      | (refine free_q (by rfl) (fun K hK => ?_); go_simp; refine hK _ ?_; clear hK K)
      | (refine free_off ?_ ?_; (focus (first | rfl | go_simp)); dsimp only [Act.put, List.setIfInBounds_toArray, List.set_cons_zero, List.set_cons_succ])
      | (refine free_c (by rfl) 41 #[.agg #[.int .i64 W, .int .i64 H, .slice A ps.length c]] (by rfl) (fun w => by (go_simp; done)) (fun δ _ => (good_any _ _ _ _ _ _).mono (by rintro e w' ⟨rfl, hb⟩; exact ⟨_, rfl, hb, rfl⟩)) (fun v δ _ hv => ?_); obtain rfl := hv; (try dsimp only [Act.put, List.setIfInBounds_toArray, List.set_cons_zero, List.set_cons_succ]))
      | (refine free_c (by rfl) 42 #[.slice B ts.length d] (by rfl) (fun w => by (go_simp; done)) (fun δ _ => (tgood_any _ _ _ _).mono (by rintro e w' ⟨rfl, rfl⟩; exact ⟨_, rfl, Below.refl _ _, rfl⟩)) (fun v δ _ hv => ?_); obtain rfl := hv; (try dsimp only [Act.put, List.setIfInBounds_toArray, List.set_cons_zero, List.set_cons_succ]))
      | (refine free_c (by rfl) 44 #[.int .i64 wd, .int .i64 (packI ts.length)] (by rfl) (fun w => by (rw [hb]; go_simp; done)) (fun δ _ => (blocks_any _ _ _).mono (by rintro e w' ⟨rfl, rfl⟩; exact ⟨_, rfl, Below.refl _ _, rfl⟩)) (fun v δ _ hv => ?_); obtain rfl := hv; (try dsimp only [Act.put, List.setIfInBounds_toArray, List.set_cons_zero, List.set_cons_succ])))
    refine free_nil ?_
    rintro δ' -
    have d1 := b1.ext δ'.h; have d2 := b2.ext δ'.h; have HW' := ext_then HW δ'.h
    clear b1 b2 HW c1 c2 c3
    generalize δ'.w = w5 at *
    go_wp2_with fail
    have hNe : wd * H = (N : Int) := HN.out
    have hN2 : N ≤ 268435456 := by omega
    have hmk := make_u32 N hN2
    have hNk : IntKind.i64.wrap (N : Int) = (N : Int) := IntWalk.i64_in _ (by omega)
    refine wp_region_free' 10 (fun | 7 => some (fun _ u w' => ∃ g, u = .slice (some ⟨g, 0, none⟩) N N ∧ Blk w' g 40 (cellsU .u32 (List.replicate N 0)) ∧ w.heap.size + 2 ≤ g) | 9 => some (fun _ u w' => ∃ g, u = .pointer (some ⟨g, 0, none⟩) ∧ Blk w' g 24 #[.int .i64 0, .int .i64 0, .slice none 0 0] ∧ w.heap.size + 2 ≤ g) | _ => none)
      (fun w' => Blk w' w.heap.size 24 #[.int .i64 W, .int .i64 H, .slice A ps.length c] ∧ Blk w' (w.heap.size + 1) 24 #[.int .i64 0, .int .i64 0, .slice none 0 0] ∧ Below w.heap.size w w') (by rintro k b h vs u w w' hb hx; dsimp only at h; split at h <;> first | (cases h; exact hb) | (cases h; obtain ⟨g, e, hb, hl⟩ := hb; exact ⟨g, e, hb.ext hx, hl⟩) | cases h) (by kernel_rfl) (by kernel_rfl) ?_ ?_
    · exact ⟨d1.drew, d2.drew, HW'.drew⟩
    clear d1 d2 HW'
    rintro w0 ⟨b1, b2, HW⟩
    simp only [List.take_succ_cons, List.take_zero, List.drop_succ_cons, List.drop_zero]
    have c1 := ExtOf.cell (b1.cell 0); have c2 := ExtOf.cell (b1.cell 1); have c3 := ExtOf.cell (b1.cell 2)
    repeat (refine free_q (by rfl) (fun K hK => ?_); go_simp; refine hK _ ?_; clear hK K)
    refine free_v (by rfl) (by rfl) ?_ ?_
    · intro δ _
      refine ⟨.slice (some ⟨δ.w.heap.size, 0, none⟩) N N, δ.w.alloc (.cells (cellsU .u32 (List.replicate N 0)) 40), ?_, ext_alloc (Below.refl _ _) _, _, rfl, Blk.new _ _ _, Nat.le_trans b2.lt δ.h.size⟩
      go_simp
    intro v δ hf hv
    obtain ⟨gp, rfl, hgp, hgl⟩ := hv
    (try dsimp only [Act.put, List.setIfInBounds_toArray, List.set_cons_zero, List.set_cons_succ])
    clear hgp hf δ
    repeat (refine free_q (by rfl) (fun K hK => ?_); go_simp; refine hK _ ?_; clear hK K)
    refine free_v (by rfl) (by rfl) ?_ ?_
    · intro δ _
      refine ⟨.pointer (some ⟨δ.w.heap.size, 0, none⟩), δ.w.alloc (.cells #[.int .i64 0, .int .i64 0, .slice none 0 0] 24), ?_, ext_alloc (Below.refl _ _) _, _, rfl, Blk.new _ _ _, Nat.le_trans b2.lt δ.h.size⟩
      go_simp
    intro v δ hf hv
    obtain ⟨go, rfl, hgo, hol⟩ := hv
    (try dsimp only [Act.put, List.setIfInBounds_toArray, List.set_cons_zero, List.set_cons_succ])
    clear hgo hf δ
    repeat (refine free_q (by rfl) (fun K hK => ?_); go_simp; refine hK _ ?_; clear hK K)
    refine free_nil ?_
    intro δ' hf
    have d1 := b1.ext δ'.h; have d2 := b2.ext δ'.h; have HW' := ext_then HW δ'.h
    obtain ⟨g1, e1, F7, -⟩ := (hf 7).1.2 rfl
    obtain ⟨g2, e2, F9, -⟩ := (hf 9).2 rfl
    obtain rfl : gp = g1 := by simpa using e1
    obtain rfl : go = g2 := by simpa using e2
    clear hf e1 e2 b1 b2 HW c1 c2 c3 hmk hNk hbW
    generalize δ'.w = w6 at *
    clear δ'
    have hne := F7.ne_ F9 (by decide)
    (try dsimp only [Act.put, List.setIfInBounds_toArray, List.set_cons_zero, List.set_cons_succ])
    have o0 := F9.cell 0; have o1 := F9.cell 1; have o2 := F9.cell 2
    have q0 := F9.frozen 0; have q1 := F9.frozen 1; have q2 := F9.frozen 2
    simp only [List.getElem?_toArray, List.getElem?_cons_zero, List.getElem?_cons_succ] at o0 o1 o2
    go_wp2_with fail
    have G1 := ((d1.far (p := ⟨go, 0, none⟩) (by simp; omega) (.int .i64 wd)).far (p := ⟨go, 1, none⟩) (by simp; omega) (.int .i64 H)).far (p := ⟨go, 2, none⟩) (by simp; omega) (.slice (some ⟨gp, 0, none⟩) N N)
    have G2 := ((d2.far (p := ⟨go, 0, none⟩) (by simp; omega) (.int .i64 wd)).far (p := ⟨go, 1, none⟩) (by simp; omega) (.int .i64 H)).far (p := ⟨go, 2, none⟩) (by simp; omega) (.slice (some ⟨gp, 0, none⟩) N N)
    have G3 := ((F9.set_ 0 (.int .i64 wd)).set_ 1 (.int .i64 H)).set_ 2 (.slice (some ⟨gp, 0, none⟩) N N)
    have G4 := ((F7.far (p := ⟨go, 0, none⟩) hne (.int .i64 wd)).far (p := ⟨go, 1, none⟩) hne (.int .i64 H)).far (p := ⟨go, 2, none⟩) hne (.slice (some ⟨gp, 0, none⟩) N N)
    have G5 := ext_set (ext_set (ext_set HW' (p := ⟨go, 0, none⟩) (by simp; omega) (.int .i64 wd)) (p := ⟨go, 1, none⟩) (by simp; omega) (.int .i64 H)) (p := ⟨go, 2, none⟩) (by simp; omega) (.slice (some ⟨gp, 0, none⟩) N N)
    simp at G3
    clear d1 d2 F9 F7 HW' o0 o1 o2 q0 q1 q2
    go_loopw [60] (fun i wr => ∃ k : Nat, k ≤ N ∧ i = .int .i64 k ∧ Blk wr w.heap.size 24 #[.int .i64 W, .int .i64 H, .slice A ps.length c] ∧ Blk wr (w.heap.size + 1) 24 #[.int .i64 0, .int .i64 0, .slice none 0 0] ∧ Blk wr go 24 #[.int .i64 wd, .int .i64 H, .slice (some ⟨gp, 0, none⟩) N N] ∧ Blk wr gp 40 (cellsU .u32 (stepL (unpackAt ps ts W wd (packI ts.length)) N k)) ∧ Below w.heap.size w wr) (fun i _ => N - (intOf i).toNat)
    case atStart => exact ⟨0, Nat.zero_le _, rfl, G1, G2, G3, by rw [stepL_zero]; exact G4, G5⟩
    case round =>
      clear G1 G2 G3 G4 G5
      obtain ⟨k, hk, rfl, G1, G2, G3, G4, G5⟩ := hrel
      by_cases hlt : k < N
      · have hX0 : 0 ≤ (k : Int) % wd := Int.emod_nonneg _ (by omega)
        have hX1 : (k : Int) % wd < wd := Int.emod_lt_of_pos _ (by omega)
        have hY0 : 0 ≤ (k : Int) / wd := Int.ediv_nonneg (by omega) (by omega)
        have hY1 : (k : Int) / wd < H := Int.ediv_lt_of_lt_mul (by omega) (by rw [Int.mul_comm H wd, hNe]; omega)
        clear hNe
        have hU := unpack_at (D := 2 ^ (packI ts.length).toNat) (by rw [hb]; decide) HBL'.out hX0 hX1 hY0 hY1
        rw [← g.2.2.2.2] at hU
        obtain ⟨J, hJ⟩ := Int.eq_ofNat_of_zero_le (show 0 ≤ _ from Int.add_nonneg hU.2.2.1 hU.1)
        have hJl : J < ps.length := by omega
        have hmW := mul_small g.1 g.2.1 g.2.2.1 g.2.2.2.1
        obtain ⟨bA, oA, rfl, hbA, cA⟩ := hps.at_ (by omega)
        have cJ := (G5.cell (p := ⟨bA, oA + J, none⟩) hbA).trans (cA J hJl)
        have hpJ := hpx _ (getD_mem hJl)
        generalize hp : ps.getD J 0 = p at cJ hpJ
        have HP := Lib.hid hp
        clear hp cA
        have hz : ¬ wd = 0 := by omega
        have r0 : IntKind.i64.wrap ((k : Int) / wd) = (k : Int) / wd := IntWalk.i64_in _ (by omega)
        have r1 : IntKind.i64.wrap ((k : Int) / wd * W) = (k : Int) / wd * W := IntWalk.i64_in _ (by omega)
        have HJB := Lib.hid hJ
        simp only [hb] at hJ
        dsimp only [Int.reduceToNat, Int.reducePow] at hJ
        try simp only [Int.ediv_one] at hJ
        have r2 := congrArg IntKind.i64.wrap hJ
        rw [IntWalk.i64_in (J : Int) (by omega)] at r2
        have hJm : (J : Int) < W * H := by rw [← g.2.2.2.2]; omega
        have HU := Lib.hid hU; have HJ := Lib.hid hJ
        clear hU hJ
        go_wp2_with fail
        refine wp_region_free' 23 (fun | 14 => some (fun _ u _ => u = .tuple #[.int .u8 (pa p), .int .u8 (pr p), .int .u8 (pg p), .int .u8 (pb p)]) | _ => none)
          (fun w' => Blk w' w.heap.size 24 #[.int .i64 W, .int .i64 H, .slice (some ⟨bA, oA, none⟩) ps.length c] ∧ Blk w' (w.heap.size + 1) 24 #[.int .i64 0, .int .i64 0, .slice none 0 0] ∧ Blk w' go 24 #[.int .i64 wd, .int .i64 H, .slice (some ⟨gp, 0, none⟩) N N] ∧ Blk w' gp 40 (cellsU .u32 (stepL (unpackAt ps ts W wd (packI ts.length)) N k)) ∧ Below w.heap.size w w' ∧ w'.cell? ⟨bA, oA + J, none⟩ = some (.int .u32 p)) (by rintro k b h vs u w w' hb hx; dsimp only at h; split at h <;> first | (cases h; exact hb) | (cases h; obtain ⟨g, e, hb, hl⟩ := hb; exact ⟨g, e, hb.ext hx, hl⟩) | cases h) (by kernel_rfl) (by kernel_rfl) ?_ ?_
        · exact ⟨G1.drew, G2.drew, G3.drew, G4.drew, G5.drew, cJ⟩
        clear G1 G2 G3 G4 G5 cJ
        rintro w8 ⟨G1, G2, G3, G4, G5, cJ⟩
        simp only [List.take_succ_cons, List.take_zero, List.drop_succ_cons, List.drop_zero]
        have c1 := ExtOf.cell (G1.cell 0); have c3 := ExtOf.cell (G1.cell 2); have c4 := ExtOf.cell cJ
        repeat (refine free_q (by rfl) (fun K hK => ?_); go_simp; refine hK _ ?_; clear hK K)
        refine free_c (by rfl) 47 #[.int .u32 p] (by rfl) (fun w => by go_simp) (fun δ _ => (parts_any p hpJ _).mono (by rintro e w' ⟨rfl, rfl⟩; exact ⟨_, rfl, Below.refl _ _, rfl⟩)) (fun v δ _ hv => ?_)
        obtain rfl := hv
        (try dsimp only [Act.put, List.setIfInBounds_toArray, List.set_cons_zero, List.set_cons_succ])
        repeat (refine free_q (by rfl) (fun K hK => ?_); go_simp; refine hK _ ?_; clear hK K)
        refine free_nil ?_
        rintro δ' -
        have D1 := G1.ext δ'.h; have D2 := G2.ext δ'.h; have D3 := G3.ext δ'.h; have D4 := G4.ext δ'.h; have HW' := ext_then G5 δ'.h
        clear G1 G2 G3 G4 G5 c1 c3 c4 cJ
        generalize δ'.w = w9 at *
        clear δ'
        go_wp2_with fail
        have hG := pg_range p
        obtain ⟨Q, hQ, hf⟩ := unpackAt_eq (ts := ts) HJB.out HP.out
        have HF := Lib.hid hf
        clear hf
        have hsh : 0 ≤ pg p / 2 ^ ((k : Int) % wd % 2 ^ (packI ts.length).toNat * (8 / 2 ^ (packI ts.length).toNat)).toNat ∧ pg p / 2 ^ ((k : Int) % wd % 2 ^ (packI ts.length).toNat * (8 / 2 ^ (packI ts.length).toNat)).toNat < 256 :=
          ⟨Int.ediv_nonneg hG.1 (Int.pow_nonneg (by decide)), by have := Int.ediv_le_self (a := pg p) (2 ^ ((k : Int) % wd % 2 ^ (packI ts.length).toNat * (8 / 2 ^ (packI ts.length).toNat)).toNat) hG.1; omega⟩
        have hQ2 := and_mask64 (8 / 2 ^ (packI ts.length).toNat : Int).toNat (by rw [hb]; decide) _ hsh.1 hsh.2
        rw [hQ] at hQ2
        simp only [hb] at hQ2
        dsimp only [Int.reduceToNat, Int.reducePow, Int.reduceDiv, Int.reduceSub] at hQ2
        try simp only [Int.mul_one, Int.emod_one, Int.zero_mul] at hQ2
        try dsimp only [Int.reduceToNat, Int.reducePow] at hQ2
        try simp only [Int.pow_zero, Int.ediv_one, Int.toNat_zero] at hQ2
        clear hQ hsh
        have l1 : IntKind.i64.wrap 1 = 1 := by decide
        have l2 : IntKind.i64.wrap 2 = 2 := by decide
        have l3 : IntKind.i64.wrap 4 = 4 := by decide
        have l4 : IntKind.i64.wrap 8 = 8 := by decide
        have l5 : IntKind.i64.wrap 16 = 16 := by decide
        have l6 : IntKind.i64.wrap 256 = 256 := by decide
        have l7 : IntKind.i64.wrap 0 = 0 := by decide
        have l8 : IntKind.i64.wrap 3 = 3 := by decide
        have l9 : IntKind.i64.wrap 15 = 15 := by decide
        have l0 : IntKind.i64.wrap 255 = 255 := by decide
        have la : IntKind.i64.wrap (pg p) = pg p := IntWalk.i64_in _ (by omega)
        have ld : ∀ D : Int, ((k : Int) % wd).tmod D = (k : Int) % wd % D := fun D => Int.tmod_eq_emod_of_nonneg hX0
        have m1 : IntKind.i64.wrap ((k : Int) % wd % 8) = (k : Int) % wd % 8 := IntWalk.i64_in _ (by omega)
        have m2 : IntKind.i64.wrap ((k : Int) % wd % 4 * 2) = (k : Int) % wd % 4 * 2 := IntWalk.i64_in _ (by omega)
        have m3 : IntKind.i64.wrap ((k : Int) % wd % 2 * 4) = (k : Int) % wd % 2 * 4 := IntWalk.i64_in _ (by omega)
        have n1 : 0 ≤ (k : Int) % wd % 8 := by omega
        have n2 : 0 ≤ (k : Int) % wd % 4 := by omega
        have n3 : 0 ≤ (k : Int) % wd % 2 := by omega
        have n4 : 0 ≤ (k : Int) % wd % 4 * 2 := by omega
        have n5 : 0 ≤ (k : Int) % wd % 2 * 4 := by omega
        refine wp_region_free' 13 (fun _ => none)
          (fun w' => Blk w' w.heap.size 24 #[.int .i64 W, .int .i64 H, .slice (some ⟨bA, oA, none⟩) ps.length c] ∧ Blk w' (w.heap.size + 1) 24 #[.int .i64 0, .int .i64 0, .slice none 0 0] ∧ Blk w' go 24 #[.int .i64 wd, .int .i64 H, .slice (some ⟨gp, 0, none⟩) N N] ∧ Blk w' gp 40 (cellsU .u32 (stepL (unpackAt ps ts W wd (packI ts.length)) N k)) ∧ Below w.heap.size w w') (by rintro k b h; cases h) (by kernel_rfl) (by kernel_rfl) ?_ ?_
        · exact ⟨D1.drew, D2.drew, D3.drew, D4.drew, HW'.drew⟩
        clear D1 D2 D3 D4 HW'
        rintro w10 ⟨G1, G2, G3, G4, G5⟩
        simp only [List.take_succ_cons, List.take_zero, List.drop_succ_cons, List.drop_zero]
        repeat (refine free_q (by rfl) (fun K hK => ?_); go_simp; refine hK _ ?_; clear hK K)
        refine free_nil ?_
        rintro δ' -
        have D1 := G1.ext δ'.h; have D2 := G2.ext δ'.h; have D3 := G3.ext δ'.h; have D4 := G4.ext δ'.h; have HW' := ext_then G5 δ'.h
        clear G1 G2 G3 G4 G5
        generalize δ'.w = w11 at *
        clear δ'
        clear l1 l2 l3 l4 l5 l6 l7 l8 l9 l0 la ld m1 m2 m3 r0 r1 r2
        by_cases hq : Q < ts.length
        · obtain ⟨bB, oB, rfl, hbB, cB⟩ := hts.at_ (by omega)
          have cQ := (HW'.cell (p := ⟨bB, oB + Q, none⟩) hbB).trans (cB Q hq)
          generalize hv : ts.getD Q 0 = v at cQ
          have HV := Lib.hid hv
          clear hv cB
          go_wp2_with fail
          refine wp_region_free' 8 (fun _ => none)
            (fun w' => Blk w' w.heap.size 24 #[.int .i64 W, .int .i64 H, .slice (some ⟨bA, oA, none⟩) ps.length c] ∧ Blk w' (w.heap.size + 1) 24 #[.int .i64 0, .int .i64 0, .slice none 0 0] ∧ Blk w' go 24 #[.int .i64 wd, .int .i64 H, .slice (some ⟨gp, 0, none⟩) N N] ∧ Blk w' gp 40 (cellsU .u32 (stepL (unpackAt ps ts W wd (packI ts.length)) N k)) ∧ Below w.heap.size w w' ∧ w'.cell? ⟨bB, oB + Q, none⟩ = some (.int .u32 v)) (by rintro k b h; cases h) (by kernel_rfl) (by kernel_rfl) ?_ ?_
          · exact ⟨D1.drew, D2.drew, D3.drew, D4.drew, HW'.drew, cQ⟩
          clear D1 D2 D3 D4 HW' cQ
          rintro w12 ⟨G1, G2, G3, G4, G5, cQ⟩
          simp only [List.take_succ_cons, List.take_zero, List.drop_succ_cons, List.drop_zero]
          have c1 := ExtOf.cell cQ; have c3 := ExtOf.cell (G3.cell 2)
          repeat (refine free_q (by rfl) (fun K hK => ?_); go_simp; refine hK _ ?_; clear hK K)
          refine free_nil ?_
          rintro δ' -
          have D1 := G1.ext δ'.h; have D2 := G2.ext δ'.h; have D3 := G3.ext δ'.h; have D4 := G4.ext δ'.h; have HW' := ext_then G5 δ'.h
          clear G1 G2 G3 G4 G5 c1 c3 cQ
          generalize δ'.w = w13 at *
          clear δ'
          have k1 := D4.frozen k
          have k2 := (D4.cell k).trans (cellsU_get .u32 _ k (by rw [stepL_length]; exact hlt))
          go_wp2_with fail
          go_roundw
          case rel =>
            refine ⟨k + 1, by omega, by go_num, D1.far (p := ⟨gp, k, none⟩) (by simp; omega) _, D2.far (p := ⟨gp, k, none⟩) (by simp; omega) _, D3.far (p := ⟨gp, k, none⟩) (by simp; omega) _, ?_, ext_set HW' (p := ⟨gp, k, none⟩) (by simp; omega) _⟩
            have e := D4.set_ k (.int .u32 v)
            rw [cellsU_set] at e
            have hf := HF.out
            rw [if_pos (by omega), HV.out] at hf
            rw [← stepL_succ, hf]
            exact e
          case measure => simp [intOf]; omega
        · go_wp2_with fail
          go_roundw
          case rel =>
            refine ⟨k + 1, by omega, by go_num, D1, D2, D3, ?_, HW'⟩
            have hf := HF.out
            rw [if_neg (by omega)] at hf
            rw [← stepL_same _ _ _ hf]
            exact D4
          case measure => simp [intOf]; omega
      · have hkN : k = N := by omega
        subst hkN
        have k0 := G3.cell 0; have k1 := G3.cell 1; have k2 := G3.cell 2
        have e0 := G2.cell 0; have e1 := G2.cell 1; have e2 := G2.cell 2
        have f0 := G2.frozen 0; have f1 := G2.frozen 1; have f2 := G2.frozen 2
        simp only [List.getElem?_toArray, List.getElem?_cons_zero, List.getElem?_cons_succ] at k0 k1 k2 e0 e1 e2
        go_wp2_with fail
        have g0 := ((G2.set_ 0 (.int .i64 wd)).set_ 1 (.int .i64 H)).set_ 2 (.slice (some ⟨gp, 0, none⟩) k k)
        have g1 := ext_set (ext_set (ext_set G5 (p := ⟨w.heap.size + 1, 0, none⟩) (by simp) (.int .i64 wd)) (p := ⟨w.heap.size + 1, 1, none⟩) (by simp) (.int .i64 H)) (p := ⟨w.heap.size + 1, 2, none⟩) (by simp) (.slice (some ⟨gp, 0, none⟩) k k)
        have g2 := ((G4.far (p := ⟨w.heap.size + 1, 0, none⟩) (by simp; omega) (.int .i64 wd)).far (p := ⟨w.heap.size + 1, 1, none⟩) (by simp; omega) (.int .i64 H)).far (p := ⟨w.heap.size + 1, 2, none⟩) (by simp; omega) (.slice (some ⟨gp, 0, none⟩) k k)
        generalize ((wr.setCell ⟨w.heap.size + 1, 0, none⟩ (.int .i64 wd)).setCell ⟨w.heap.size + 1, 1, none⟩ (.int .i64 H)).setCell ⟨w.heap.size + 1, 2, none⟩ (.slice (some ⟨gp, 0, none⟩) k k) = w7 at *
        have k0 := g0.cell 0; have k1 := g0.cell 1; have k2 := g0.cell 2
        simp at k0 k1 k2
        have hkk : (wd * H).toNat = k := by rw [hNe]; simp
        rw [stepL_all] at g2
        refine bodyPost_ret (v := .tuple #[.agg #[.int .i64 wd, .int .i64 H, .slice (some ⟨gp, 0, none⟩) k k], .int .i64 0]) (by simp [results, Try.results13, go_sem, k0, k1, k2]) rfl ⟨some ⟨gp, 0, none⟩, k, ?_, ?_, g1⟩
        · simp [hkk]
        · rw [hkk]
          exact RI.of_blk g2 (by simp) (by omega)
theorem unpack_any (m : ImgP) (wd : Int) (A B : Option Addr) (c d : Nat) (ts : List Int) (w : World) (hps : RI .u32 w A c m.P) (hts : RI .u32 w B d ts) (hpx : ∀ x ∈ m.P, IsPx x) :
    Calls Try.prog 13 #[.agg #[.int .i64 m.W, .int .i64 m.H, .slice A m.P.length c], .slice B ts.length d, .int .i64 wd] w (RetImg (unpackF m ts wd) (.int .i64 (if unpackOk m ts wd then 0 else 1)) w) := by
  unfold unpackF
  cases h : unpackOk m ts wd
  · exact unpack_err m.W m.H wd A B c d m.P ts w h
  · exact unpack_ok m.W m.H wd A B c d m.P ts w hps hts hpx h
end Go.Proofs.Ytlhhihdfcbkmmaa
