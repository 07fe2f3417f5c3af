import Derived.Test.YtlhhihdfcbkmmaaG3
import Derived.Test.YtlhhihdfcbkmmaaU3
set_option linter.unusedVariables false
set_option linter.unusedSimpArgs false
namespace Go.Proofs.Ytlhhihdfcbkmmaa
open Go.RowKit
set_option maxRecDepth 100000 in
set_option maxHeartbeats 1000000 in
theorem pack_err (W H : Int) (A B : Option Addr) (c d : Nat) (ps ts : List Int) (w : World) (hno : (goodB W H ps.length && decide (1 ≤ ts.length ∧ ts.length ≤ 256)) = false) :
    Calls Try.prog 11 #[.agg #[.int .i64 W, .int .i64 H, .slice A ps.length c], .slice B ts.length d] w (RetImg ⟨0, 0, []⟩ (.int .i64 1) w) := by
  have hsp : goodB W H ps.length = false ∨ (goodB W H ps.length = true ∧ decide (1 ≤ ts.length ∧ ts.length ≤ 256) = false) := by
    cases h1 : goodB W H ps.length
    · exact .inl rfl
    · rw [h1, Bool.true_and] at hno; exact .inr ⟨rfl, hno⟩
  clear hno
  have hb := ext_alloc (ext_alloc (Below.refl w.heap.size w) (.cells #[.int .i64 W, .int .i64 H, .slice A ps.length c] 24)) (.cells #[.int .i64 0, .int .i64 0, .slice none 0 0] 24)
  rcases hsp with h1 | ⟨h1, h2⟩
  all_goals
    go_enter Try.func11, Try.ntmps11
    go_wp2_with fail
    refine (good_any W H A ps.length c _).mono ?_
    rintro e w1 ⟨rfl, hb1⟩
    rw [h1]
    have d2 : Blk w1 (w.heap.size + 1) 24 #[.int .i64 0, .int .i64 0, .slice none 0 0] := (Blk.new' (by simp only [size_alloc]) _ _).ext hb1
    have HW := ext_then hb hb1
    clear hb hb1 h1
    have e2 := d2.cell; have f2 := d2.frozen
    go_wp2_with (go_at_call 42; refine (tgood_any _ _ _ _).mono ?_; rintro e w' ⟨rfl, rfl⟩; rw [h2])
    obtain ⟨w7, e7, k0, k1, k2, r7, h7⟩ := img_end d2 HW (by omega) (RI.nil_ .u32 _ 0 (by omega) none) 0 0 0
    rw [e7]
    exact bodyPost_ret (v := .tuple #[.agg #[.int .i64 0, .int .i64 0, .slice none 0 0], .int .i64 1]) (by simp [results, Try.results11, go_sem, k0, k1, k2]) rfl ⟨none, 0, rfl, r7, h7⟩
/-- While a picture is packed. -/
structure PkSt (w : World) (go gp gm : Nat) (box : Array Value) (V H N : Nat) (xs : List Int) (D : DataW Unit) (nD : Nat) (wr : World) : Prop where
  b1 : Blk wr w.heap.size 24 box
  b2 : Blk wr (w.heap.size + 1) 24 #[.int .i64 0, .int .i64 0, .slice none 0 0]
  b3 : Blk wr go 24 #[.int .i64 V, .int .i64 H, .slice (some ⟨gp, 0, none⟩) N N]
  b4 : Blk wr gp 40 (cellsU .u32 xs)
  mp : wr.ownsMap Try.prog 40 (plainElem (H := Unit) Try.prog 3) gm nD D
  below : Below w.heap.size w wr
theorem PkSt.keep (w : World) (go gp gm : Nat) (box : Array Value) (V H N : Nat) (xs : List Int) (D : DataW Unit) (nD : Nat) : Keep (PkSt w go gp gm box V H N xs D nD) :=
  fun w1 w2 h hb => ⟨h.b1.ext hb, h.b2.ext hb, h.b3.ext hb, h.b4.ext hb, owns_ext h.mp hb, ext_then h.below hb⟩
theorem map_ne_blk {w : World} {P : Program} {k : TypeId} {R : Value → Option (DataW Unit × List MemPlace)} {b n g : Nat} {D : DataW Unit} {t : TypeId} {cs : Array Value} (h : w.ownsMap P k R b n D) (d : Blk w g t cs) : b ≠ g := by
  rintro rfl
  obtain ⟨es, ck, hh, _⟩ := h
  unfold Blk at d
  rw [hh] at d
  cases d
theorem PkSt.set {w : World} {go gp gm : Nat} {box : Array Value} {V H N : Nat} {xs : List Int} {D : DataW Unit} {nD : Nat} {wr : World} (h : PkSt w go gp gm box V H N xs D nD wr) (hgp : w.heap.size + 2 ≤ gp) (i : Nat) (v : Int) :
    PkSt w go gp gm box V H N (xs.set i v) D nD (wr.setCell ⟨gp, i, none⟩ (.int .u32 v)) :=
  ⟨h.b1.far (p := ⟨gp, i, none⟩) (by simp; omega) _, h.b2.far (p := ⟨gp, i, none⟩) (by simp; omega) _, h.b3.far (p := ⟨gp, i, none⟩) (h.b3.ne_ h.b4 (by decide)) _,
    by have e := h.b4.set_ i (.int .u32 v); rw [cellsU_set] at e; exact e, h.mp.setCell (map_ne_blk h.mp h.b4) _, ext_set h.below (p := ⟨gp, i, none⟩) (by simp; omega) _⟩
set_option maxRecDepth 100000 in
set_option maxHeartbeats 4000000 in
theorem pack_ok (W H : Nat) (A B : Option Addr) (c d : Nat) (ps ts : List Int) (w : World) (hps : RI .u32 w A c ps) (hts : RI .u32 w B d ts) (hpx : ∀ x ∈ ps, IsPx x) (hqx : ∀ x ∈ ts, IsPx x) (hg : goodB W H ps.length = true) (ht : 1 ≤ ts.length ∧ ts.length ≤ 256) :
    Calls Try.prog 11 #[.agg #[.int .i64 W, .int .i64 H, .slice A ps.length c], .slice B ts.length d] w (RetImg (packF ⟨W, H, ps⟩ ts) (.int .i64 (if packOk ⟨W, H, ps⟩ ts then 0 else 1)) w) := by
  have hpk : 0 ≤ packI ts.length ∧ packI ts.length ≤ 3 := by rcases packI_range ts.length with h | h | h | h <;> omega
  have g := goodB_iff.1 hg
  obtain ⟨hM1, hM8, hT1, hT8, hMT⟩ := packMT ts.length
  have hfew := few_fit ht.2
  obtain ⟨M, hM⟩ := Int.eq_ofNat_of_zero_le (show 0 ≤ (2 : Int) ^ (packI ts.length).toNat by omega)
  rw [hM] at hM1 hM8 hT1 hT8 hMT hfew
  obtain ⟨T, hT⟩ := Int.eq_ofNat_of_zero_le (show 0 ≤ 8 / (M : Int) by omega)
  rw [hT] at hT1 hT8 hMT hfew
  rw [Int.toNat_natCast] at hfew
  obtain ⟨V, hV⟩ : ∃ V : Nat, V = (W + M - 1) / M := ⟨_, rfl⟩
  have hbl : blocksI W (packI ts.length) = (V : Int) := by
    unfold blocksI
    rw [if_pos (by omega), hM]
    have e : ((W : Int) + M - 1) = ((W + M - 1 : Nat) : Int) := by omega
    rw [e, ← Int.natCast_ediv, ← hV]
  have hMT' : T * M = 8 := by have : ((T * M : Nat) : Int) = 8 := by push_cast; rw [Int.mul_comm]; exact hMT
                              exact_mod_cast this
  have hwb := mul_small g.1 g.2.1 g.2.2.1 g.2.2.2.1
  have hPF : packOk ⟨W, H, ps⟩ ts = true → packF ⟨W, H, ps⟩ ts = ⟨V, H, packS ps ts W M T V (V * H) (W * H)⟩ := fun h => by
    rw [packS_all (by have := g.1; omega) (by omega) hV (by simp)]
    unfold packF
    rw [if_pos h]
    dsimp only
    rw [hM, hT, hbl, Int.toNat_natCast, ← Int.natCast_mul, Int.toNat_natCast]
  have hPN : packOk ⟨W, H, ps⟩ ts = false → packF ⟨W, H, ps⟩ ts = ⟨0, 0, []⟩ := fun h => by unfold packF; rw [if_neg (by rw [h]; simp)]
  have hPY : (∀ j, j < ps.length → ps.getD j 0 ∈ ts) → packOk ⟨W, H, ps⟩ ts = true := fun h => by
    unfold packOk
    dsimp only
    have : ps.all (fun p => ts.contains p) = true := by
      rw [List.all_eq_true]
      intro p hp
      obtain ⟨i, hi, rfl⟩ := List.getElem_of_mem hp
      have := h i hi
      rw [List.getD_eq_getElem?_getD, List.getElem?_eq_getElem hi] at this
      simpa using this
    rw [hg, this]
    simp; omega
  obtain ⟨er, her⟩ : ∃ er : Int, (if packOk ⟨W, H, ps⟩ ts then 0 else 1) = er := ⟨_, rfl⟩
  rw [her]
  have hE0 : packOk ⟨W, H, ps⟩ ts = true → er = 0 := fun h => by rw [← her, h]; rfl
  have hE1 : packOk ⟨W, H, ps⟩ ts = false → er = 1 := fun h => by rw [← her, h]; rfl
  clear her
  have hV16 : V ≤ 16384 := by
    rw [hV]
    refine Nat.le_trans (Nat.div_le_div_right (show W + M - 1 ≤ 16384 * M by have := Nat.mul_le_mul_left 16384 (show 1 ≤ M by omega); omega)) ?_
    rw [Nat.mul_div_cancel _ (by omega)]; exact Nat.le_refl _
  have hM0 : 0 < M := by omega
  have hW0 : 0 < W := by have := g.1; omega
  have hlW : ps.length = W * H := by have := g.2.2.2.2; exact_mod_cast this
  have hN : V * H ≤ 16384 * 16384 := Nat.mul_le_mul hV16 (by have := g.2.2.2.1; omega)
  obtain ⟨N, hNe⟩ : ∃ N, N = V * H := ⟨_, rfl⟩
  have hNi : (V : Int) * H = (N : Int) := by rw [hNe]; push_cast; rfl
  rw [← hNe] at hN hPF
  have hmk := make_u32 N hN
  have hgd : decide (1 ≤ ts.length ∧ ts.length ≤ 256) = true := by simpa using ht
  obtain ⟨bB, oB, rfl, hbB, cB⟩ := hts.at_ (by omega)
  have hb := ext_alloc (ext_alloc (Below.refl w.heap.size w) (.cells #[.int .i64 W, .int .i64 H, .slice A ps.length c] 24)) (.cells #[.int .i64 0, .int .i64 0, .slice none 0 0] 24)
  have HH := Lib.hid (And.intro g (And.intro hbl (And.intro hwb (And.intro hM1 (And.intro hM8 (And.intro hT1 (And.intro hT8 (And.intro ht (And.intro hV16 (And.intro hM0 (And.intro hW0 (And.intro hlW (And.intro hNe (And.intro hfew (And.intro hMT' (And.intro hV hN))))))))))))))))
  have HP := Lib.hid (And.intro hPF (And.intro hPN (And.intro hPY (And.intro hE0 hE1)))); have HB := Lib.hid hb; have HCB := Lib.hid cB; have HMK := Lib.hid hmk; have HNI := Lib.hid hNi
  clear g hbl hwb hM1 hM8 hT1 hT8 ht hV16 hM0 hW0 hlW hNe hfew hMT' hPF hPN hPY hE0 hE1 hb cB hMT hV hN hmk hNi
  go_enter Try.func11, Try.ntmps11
  go_wp2_with fail
  refine (good_any W H A ps.length c _).mono ?_
  rintro e w1 ⟨rfl, hb1⟩
  rw [hg]
  have d1 : Blk w1 w.heap.size 24 #[.int .i64 W, .int .i64 H, .slice A ps.length c] := ((Blk.new _ _ _).alloc _).ext hb1
  have d2 : Blk w1 (w.heap.size + 1) 24 #[.int .i64 0, .int .i64 0, .slice none 0 0] := (Blk.new' (by simp only [size_alloc]) _ _).ext hb1
  have HW := ext_then HB.out hb1
  clear HB hb1 hg
  go_wp2_with (first
    | (go_at_call 42; refine (tgood_any _ _ _ _).mono ?_; rintro e w' ⟨rfl, rfl⟩; rw [hgd])
    | (go_at_call 20; refine (tbits_any _ _).mono ?_; rintro e w' ⟨rfl, rfl⟩))
  refine (numbers_any bB oB d ts hqx (by have := HH.out.2.2.2.2.2.2.2.1; omega) _ (Nat.lt_of_lt_of_le hbB HW.size) (fun j hj => (HW.cell (p := ⟨bB, oB + j, none⟩) hbB).trans (HCB.out j hj))).mono ?_
  rintro e w2 ⟨rfl, hmp, hb2⟩
  obtain ⟨D, hD⟩ : ∃ D : DataW Unit, D = numD (uptoP (backF ts hqx (by have := HH.out.2.2.2.2.2.2.2.1; omega)) ts.length) := ⟨_, rfl⟩
  rw [← hD] at hmp
  have hDh : ∀ p, Maps.has D (.int .u32 p) = decide (p ∈ ts) := fun p => by rw [hD]; exact num_has ts hqx _ p
  have hDa : ∀ p, p ∈ ts → ∀ z, D.atKey (.int .u32 p) z = .lit (.int .i64 (idxN ts p : Int)) := fun p h z => by rw [hD]; exact num_at ts hqx _ p h z
  have HD := Lib.hid (And.intro hDh hDa)
  have d1' := d1.ext hb2; have d2' := d2.ext hb2; have HW2 := ext_then HW hb2
  have hgm : w.heap.size + 2 ≤ w1.heap.size := d2.lt
  clear d1 d2 hD hDh hDa HW hb2
  generalize w1.heap.size = gm at *
  go_wp2_with fail
  refine wp_region_k (S := fun w' => (Blk w' w.heap.size 24 #[.int .i64 W, .int .i64 H, .slice A ps.length c] ∧ Blk w' (w.heap.size + 1) 24 #[.int .i64 0, .int .i64 0, .slice none 0 0]) ∧ w'.ownsMap Try.prog 40 (plainElem (H := Unit) Try.prog 3) gm ts.length D ∧ Below w.heap.size w w')
    ⟨⟨d1', d2'⟩, hmp, HW2⟩ (fun w1 w2 h hb => ⟨⟨h.1.1.ext hb, h.1.2.ext hb⟩, owns_ext h.2.1 hb, ext_then h.2.2 hb⟩)
    8 (fun | 3 => some (fun _ u _ => u = .int .i64 V) | 7 => some (fun _ u w' => ∃ g, u = .pointer (some ⟨g, 0, none⟩) ∧ Blk w' g 24 #[.int .i64 0, .int .i64 0, .slice none 0 0] ∧ w.heap.size + 2 ≤ g) | _ => none) (by rintro k b h vs u w w' hb hx; dsimp only at h; split at h <;> first | (cases h; exact hb) | (cases h; obtain ⟨g, e, hb, hl⟩ := hb; exact ⟨g, e, hb.ext hx, hl⟩) | cases h) (by kernel_rfl) (by kernel_rfl) ?_
  clear d1' d2' hmp HW2
  rintro w0 ⟨⟨b1, b2⟩, mp, HW⟩
  simp only [List.take_succ_cons, List.take_zero, List.drop_succ_cons, List.drop_zero]
  have c1 := ExtOf.cells b1
  repeat (refine free_q (by rfl) (fun K hK => ?_); go_simp; refine hK _ ?_; clear hK K)
  refine free_c (by rfl) 44 #[.int .i64 W, .int .i64 (packI ts.length)] (by rfl) (fun w => by (go_simp; done)) (fun δ _ => (blocks_any _ _ _).mono (by rintro e w' ⟨rfl, rfl⟩; exact ⟨_, rfl, Below.refl _ _, by rw [HH.out.2.1]⟩)) (fun v δ _ hv => ?_)
  obtain rfl := hv
  (try dsimp only [Act.put, List.setIfInBounds_toArray, List.set_cons_zero, List.set_cons_succ])
  repeat (refine free_q (by rfl) (fun K hK => ?_); go_simp; refine hK _ ?_; clear hK K)
  refine free_v (by rfl) (by rfl) ?_ ?_
  · intro δ _
    refine ⟨.pointer (some ⟨δ.w.heap.size, 0, none⟩), δ.w.alloc (.cells #[.int .i64 0, .int .i64 0, .slice none 0 0] 24), ?_, ext_alloc (Below.refl _ _) _, _, rfl, Blk.new _ _ _, Nat.le_trans b2.lt δ.h.size⟩
    go_simp
  intro v δ hf hv
  obtain ⟨go, rfl, hgo, hol⟩ := hv
  (try dsimp only [Act.put, List.setIfInBounds_toArray, List.set_cons_zero, List.set_cons_succ])
  clear hgo hf δ
  refine free_nil ?_
  rintro w5 ⟨⟨d1, d2⟩, mp5, HW'⟩ - hf
  obtain ⟨g2, e2, F7, -⟩ := (hf 7).2 rfl
  obtain rfl : go = g2 := by simpa using e2
  clear hf e2 b1 b2 mp HW c1
  have o1 := F7.cell; have q1 := F7.frozen
  go_wp2_with fail
  obtain ⟨w6, e6, F8, -, HW6, hk6⟩ := img_set F7 HW' (by omega) (RI.nil_ .u32 w5 0 (by omega) none) V H 0
  have mp6 : w6.ownsMap Try.prog 40 (plainElem (H := Unit) Try.prog 3) gm ts.length D := by
    rw [← e6]
    exact ((mp5.setCell (map_ne_blk mp5 F7) _).setCell (map_ne_blk mp5 F7) _).setCell (map_ne_blk mp5 F7) _
  rw [e6]
  have d1' := hk6 _ _ _ d1 (by omega); have d2' := hk6 _ _ _ d2 (by omega)
  clear e6 F7 HW' hk6 d1 d2 o1 q1 mp5
  have o1 := F8.cell
  have q1 := F8.frozen
  have o2 := (F8.alloc (.cells (cellsU .u32 (List.replicate N 0)) 40)).cell
  have q2 := (F8.alloc (.cells (cellsU .u32 (List.replicate N 0)) 40)).frozen
  have hmk := HMK.out
  have hNi : wrap64 ((V : Int) * H) = (N : Int) := by rw [HNI.out]; exact wrap64_id (by omega) (by have := HH.out.2.2.2.2.2.2.2.2.2.2.2.2.2.2.2.2; omega)
  have hN16 : N ≤ 268435456 := HH.out.2.2.2.2.2.2.2.2.2.2.2.2.2.2.2.2
  go_wp2_with fail
  rw [hNi]
  simp only [hmk]
  have o3 := ((d1'.alloc (.cells (cellsU .u32 (List.replicate N 0)) 40)).far (p := ⟨go, 2, none⟩) (by simp; omega) (.slice (some ⟨w6.heap.size, 0, none⟩) N N)).cell
  go_wp2_with fail
  clear o3
  have hst : PkSt w go w6.heap.size gm #[.int .i64 W, .int .i64 H, .slice A ps.length c] V H N (packS ps ts W M T V N 0) D ts.length ((w6.alloc (.cells (cellsU .u32 (List.replicate N 0)) 40)).setCell ⟨go, 2, none⟩ (.slice (some ⟨w6.heap.size, 0, none⟩) N N)) := by
    have hgl : go < w6.heap.size := F8.lt
    refine ⟨((d1'.alloc _).far (p := ⟨go, 2, none⟩) (by simp; omega) _), ((d2'.alloc _).far (p := ⟨go, 2, none⟩) (by simp; omega) _), ?_, ?_, ?_, ext_set (ext_alloc HW6 _) (p := ⟨go, 2, none⟩) (by simp; omega) _⟩
    · have e := (F8.alloc (.cells (cellsU .u32 (List.replicate N 0)) 40)).set_ 2 (.slice (some ⟨w6.heap.size, 0, none⟩) N N)
      simpa using e
    · rw [packS_zero]
      exact (Blk.new w6 _ _).far (p := ⟨go, 2, none⟩) (by simp; omega) _
    · exact (mp6.alloc (.cells (cellsU .u32 (List.replicate N 0)) 40)).setCell (map_ne_blk (mp6.alloc (.cells (cellsU .u32 (List.replicate N 0)) 40)) (F8.alloc (.cells (cellsU .u32 (List.replicate N 0)) 40))) _
  have hgp : w.heap.size + 2 ≤ w6.heap.size := d2'.lt
  clear F8 HW6 d1' d2' mp6 o1 q1 o2 q2 hmk hNi
  generalize w6.heap.size = gp at *
  generalize (w6.alloc (.cells (cellsU .u32 (List.replicate N 0)) 40)).setCell ⟨go, 2, none⟩ (.slice (some ⟨gp, 0, none⟩) N N) = w8 at *
  go_loopw [49] (fun i wr => ∃ k : Nat, k ≤ ps.length ∧ i = .int .i64 k ∧ PkSt w go gp gm #[.int .i64 W, .int .i64 H, .slice A ps.length c] V H N (packS ps ts W M T V N k) D ts.length wr ∧ Hid (∀ j, j < k → ps.getD j 0 ∈ ts)) (fun i _ => ps.length - (intOf i).toNat)
  case atStart => exact ⟨0, Nat.zero_le _, rfl, hst, Lib.hid (fun j h => absurd h (by omega))⟩
  case round =>
    clear hst
    obtain ⟨k, hk, rfl, hst, hin⟩ := hrel
    by_cases hkl : k < ps.length
    · obtain ⟨bA, oA, rfl, hbA, cA⟩ := hps.at_ (by omega)
      have cJ := (hst.below.cell (p := ⟨bA, oA + k, none⟩) hbA).trans (cA k hkl)
      have hpk2 := hpx _ (getD_mem hkl)
      generalize hp : ps.getD k 0 = p at cJ hpk2
      have HPK := Lib.hid hp
      have hkey := Maps.keyOf_int_mk Try.underlying40 (wf_u32 hpk2)
      have hmp := hst.mp
      clear hp cA
      by_cases hmem : p ∈ ts
      · have hhas : Maps.has D (Lit.int .u32 p) = true := by rw [HD.out.1]; simpa using hmem
        have hM1 := HH.out.2.2.2.1; have hM8 := HH.out.2.2.2.2.1
        have HME := Lib.hid hmem
        clear hmem
        have o1 := hst.b1.cell; have o3 := hst.b3.cell
        obtain ⟨y, hy⟩ : ∃ y, y = k / W := ⟨_, rfl⟩
        obtain ⟨x, hx⟩ : ∃ x, x = k % W := ⟨_, rfl⟩
        obtain ⟨X, hX⟩ : ∃ X, X = x / M := ⟨_, rfl⟩
        obtain ⟨i, hi⟩ : ∃ i, i = x % M := ⟨_, rfl⟩
        obtain ⟨j, hj⟩ : ∃ j, j = y * V + X := ⟨_, rfl⟩
        obtain ⟨old, hold⟩ : ∃ old, old = stP (packTerm ps ts W M T y X) i := ⟨_, rfl⟩
        have hyk : (k : Int) / W = (y : Int) := by rw [hy, Int.natCast_ediv]
        have hxk : (k : Int) % W = (x : Int) := by rw [hx, Int.natCast_emod]
        have hXk : (x : Int) / M = (X : Int) := by rw [hX, Int.natCast_ediv]
        have hik : (x : Int) % M = (i : Int) := by rw [hi, Int.natCast_emod]
        have hjk : (y : Int) * V + (X : Int) = (j : Int) := by rw [hj]; push_cast; rfl
        have hkW : k < W * H := by rw [← HH.out.2.2.2.2.2.2.2.2.2.2.2.1]; exact hkl
        have hpa := pack_at HH.out.2.2.2.2.2.2.2.2.2.2.1 HH.out.2.2.2.2.2.2.2.2.2.1 HH.out.2.2.2.2.2.2.2.2.2.2.2.2.2.2.2.1 hkW
        have hget := packS_get (ps := ps) (ts := ts) (T := T) HH.out.2.2.2.2.2.2.2.2.2.2.1 HH.out.2.2.2.2.2.2.2.2.2.1 HH.out.2.2.2.2.2.2.2.2.2.2.2.2.2.2.2.1 hkW
        have hsuc := packS_succ (ps := ps) (ts := ts) (T := T) HH.out.2.2.2.2.2.2.2.2.2.2.1 HH.out.2.2.2.2.2.2.2.2.2.1 HH.out.2.2.2.2.2.2.2.2.2.2.2.2.2.2.2.1 hkW
        rw [← hy, ← hx, ← hX, ← hj] at hpa hget hsuc
        rw [← hi, ← hold, ← HH.out.2.2.2.2.2.2.2.2.2.2.2.2.1] at hget
        rw [← hi, ← HH.out.2.2.2.2.2.2.2.2.2.2.2.2.1] at hsuc
        have hjN : j < N := by rw [HH.out.2.2.2.2.2.2.2.2.2.2.2.2.1]; exact hpa.2.2.1
        have hyV : (y : Int) * V ≤ 268435456 := by have := HH.out.2.2.2.2.2.2.2.2.2.2.2.2.2.2.2.2; omega
        have hyV0 : 0 ≤ (y : Int) * V := Int.mul_nonneg (by omega) (by omega)
        have hx16 : x < 16384 := by have := Nat.mod_lt k HH.out.2.2.2.2.2.2.2.2.2.2.1; have := HH.out.1.2.1; omega
        have hi8 : i < M := by rw [hi]; exact Nat.mod_lt _ HH.out.2.2.2.2.2.2.2.2.2.1
        have hk28 : k < 268435456 := by have := HH.out.2.2.1; have := HH.out.1.2.2.2.2; omega
        have hyk2 : y ≤ k := by rw [hy]; exact Nat.div_le_self _ _
        have hWz : ¬ (W : Int) = 0 := by have := HH.out.2.2.2.2.2.2.2.2.2.2.1; omega
        have hWz' : ¬ W = 0 := by omega
        have hMz' : ¬ M = 0 := by omega
        have HJK := Lib.hid hjk; have HSUC := Lib.hid hsuc; have HGET := Lib.hid hget; have HOLD := Lib.hid hold
        have HXI := Lib.hid (And.intro hy (And.intro hx (And.intro hX hi)))
        clear hy hx hX hi hj hjk hpa hget hsuc hold
        go_wp2_with (at_lookup; refine wpList_lookup_own_ok_int _ rfl _ _ 75 rfl 40 3 .i64 (Maps.int_keyed Try.underlying40) Try.underlying75 Try.underlying3 (Try.zeroValue3 _) gm ts.length D rfl hmp _ _ rfl hkey ?_; intro cc hat hwc; (try rw [HD.out.2 p HME.out] at hat); obtain rfl : (idxN ts p : Int) = cc := (by injection hat with hat; injection hat); clear hat hwc)
        have r0 : IntKind.i64.wrap (y : Int) = (y : Int) := wrapIn (by omega) (by omega)
        have r1 : IntKind.i64.wrap ((y : Int) * V) = (y : Int) * V := wrapIn (by omega) (by omega)
        have r2 : IntKind.i64.wrap (X : Int) = (X : Int) := wrapIn (by omega) (by have := HJK.out; omega)
        have r3 := congrArg IntKind.i64.wrap HJK.out
        rw [wrapIn (x := (j : Int)) (by omega) (by omega)] at r3
        refine wp_region_k (S := PkSt w go gp gm #[.int .i64 W, .int .i64 H, .slice (some ⟨bA, oA, none⟩) ps.length c] V H N (packS ps ts W M T V N k) D ts.length) hst (PkSt.keep _ _ _ _ _ _ _ _ _ _ _)
          14 (fun _ => none) (by rintro k b h; cases h) (by kernel_rfl) (by kernel_rfl) ?_
        clear hst o1 o3 hmp
        rintro w7 hst
        simp only [List.take_succ_cons, List.take_zero, List.drop_succ_cons, List.drop_zero]
        have c1 := ExtOf.cells hst.b1; have c3 := ExtOf.cells hst.b3
        repeat (refine free_q (by rfl) (fun K hK => ?_); go_simp; refine hK _ ?_; clear hK K)
        refine free_nil ?_
        rintro w9 hst' - -
        clear c1 c3 hst r0 r1 r2 r3
        go_wp2_with fail
        have hidx : idxN ts p < ts.length := idxN_lt HME.out
        obtain ⟨E, hE⟩ : ∃ E, E = T * i := ⟨_, rfl⟩
        have hiT : (i : Int) * T = (E : Int) := by rw [hE]; push_cast; rw [Int.mul_comm]
        have hMT := HH.out.2.2.2.2.2.2.2.2.2.2.2.2.2.2.1
        have hfew := HH.out.2.2.2.2.2.2.2.2.2.2.2.2.2.1
        have hE1 : T * (i + 1) ≤ 8 := by rw [← hMT]; exact Nat.mul_le_mul_left _ hi8
        have hE8 : E ≤ 8 := by rw [hE]; exact Nat.le_trans (Nat.mul_le_mul_left _ (Nat.le_succ i)) hE1
        have hplace : y * W + X * M + i = k := by
          obtain ⟨e1, e2⟩ := cnt_parts (W := W) (M := M) (k := k)
          rw [← HXI.out.1, ← HXI.out.2.1] at e1
          rw [← HXI.out.2.1, ← HXI.out.2.2.1, ← HXI.out.2.2.2] at e2
          rw [Nat.add_assoc, ← e2]; exact e1.symm
        have hxW : X * M + i < W := by
          obtain ⟨e1, e2⟩ := cnt_parts (W := W) (M := M) (k := k)
          rw [← HXI.out.2.1, ← HXI.out.2.2.1, ← HXI.out.2.2.2] at e2
          rw [← e2, HXI.out.2.1]; exact Nat.mod_lt _ HH.out.2.2.2.2.2.2.2.2.2.2.1
        have hterms : ∀ m, m < i + 1 → 0 ≤ packTerm ps ts W M T y X m ∧ ∃ n : Int, 0 ≤ n ∧ n < 2 ^ T ∧ packTerm ps ts W M T y X m = n * 2 ^ (T * m) := fun m hm => term_ok hfew (fun _ => by
          rcases Nat.lt_or_ge m i with h | h
          · exact hin.out _ (by rw [← hplace]; omega)
          · have : m = i := by omega
            rw [this, hplace, HPK.out]; exact HME.out)
        have hs1 := sumF_lt i (fun m hm => hterms m (by omega))
        have hs2 := sumF_lt (i + 1) hterms
        have htm : packTerm ps ts W M T y X i = (idxN ts p : Int) * 2 ^ E := by rw [hE]; exact term_at hxW (by rw [hplace, HPK.out])
        have hp8 : (2 : Int) ^ (T * (i + 1)) ≤ 256 := by
          have h1 := Nat.pow_le_pow_right (n := 2) (by decide) hE1
          have e : ((2 ^ (T * (i + 1)) : Nat) : Int) = (2 : Int) ^ (T * (i + 1)) := by rw [Int.natCast_pow]; rfl
          omega
        rw [← hE] at hs1
        generalize idxN ts p = n at *
        obtain ⟨Z, hZ⟩ : ∃ Z : Int, (n : Int) * 2 ^ E = Z := ⟨_, rfl⟩
        have hsum : sumF (packTerm ps ts W M T y X) (i + 1) = sumF (packTerm ps ts W M T y X) i + Z := by rw [← hZ, ← htm]; rfl
        have hZ0 : 0 ≤ Z := by rw [← hZ]; exact Int.mul_nonneg (by omega) (Int.pow_nonneg (by decide))
        have hOR := or_step (sumF (packTerm ps ts W M T y X) i) n E hs1.1 hs1.2 (by omega) (by rw [hZ]; rw [hsum] at hs2; omega) hE8 old (by
          rw [HOLD.out]
          unfold stP
          by_cases h : i = 0
          · rw [if_pos h, h]; exact .inr ⟨rfl, rfl⟩
          · rw [if_neg h]; exact .inl rfl)
        have hnew : mk4 255 0 (sumF (packTerm ps ts W M T y X) i + Z) 0 = stP (packTerm ps ts W M T y X) (i + 1) := by
          unfold stP
          rw [if_neg (by omega), hsum]
        rw [hZ, hnew] at hOR
        have hZ8 : Z < 256 := by rw [hsum] at hs2; omega
        have HSET := Lib.hid hOR
        have HT2 := Lib.hid (And.intro hsum hE)
        clear hOR hnew hsum htm hterms hs1 hs2 hp8 hplace hxW hE hE1 hfew hMT
        obtain ⟨new, hnewe⟩ : ∃ new, new = stP (packTerm ps ts W M T y X) (i + 1) := ⟨_, rfl⟩
        have hOR := HSET.out
        rw [← hnewe] at hOR
        have hsuc := HSUC.out
        rw [← hnewe] at hsuc
        have HSUC2 := Lib.hid hsuc
        clear hnewe hsuc
        have ra : IntKind.u32.wrap (n : Int) = (n : Int) := by rw [IntKind.wrap_u32]; have := HH.out.2.2.2.2.2.2.2.1; omega
        have rb : IntKind.i64.wrap (M : Int) = (M : Int) := wrapIn (by omega) (by omega)
        have rc : ((x : Int)).tmod M = (i : Int) := by rw [tmodIn (by omega), hik]
        have rd : IntKind.i64.wrap (i : Int) = (i : Int) := wrapIn (by omega) (by omega)
        have re : IntKind.i64.wrap (E : Int) = (E : Int) := wrapIn (by omega) (by omega)
        have rf : IntKind.u32.wrap Z = Z := by rw [IntKind.wrap_u32]; omega
        have rg : IntKind.u32.wrap (Z * 256) = Z * 256 := by rw [IntKind.wrap_u32]; omega
        clear HSET hM1
        refine wp_region_k (S := PkSt w go gp gm #[.int .i64 W, .int .i64 H, .slice (some ⟨bA, oA, none⟩) ps.length c] V H N (packS ps ts W M T V N k) D ts.length) hst' (PkSt.keep _ _ _ _ _ _ _ _ _ _ _)
          15 (fun _ => none) (by rintro k b h; cases h) (by kernel_rfl) (by kernel_rfl) ?_
        clear hst'
        rintro w7 hst
        simp only [List.take_succ_cons, List.take_zero, List.drop_succ_cons, List.drop_zero]
        have c4 := ExtOf.cell ((hst.b4.cell j).trans ((cellsU_get .u32 _ j (by rw [packS_length]; exact hjN)).trans (by rw [HGET.out])))
        repeat (refine free_q (by rfl) (fun K hK => ?_); go_simp; refine hK _ ?_; clear hK K)
        refine free_nil ?_
        rintro w9 hst' - -
        clear c4 hst ra rb rc rd re rf rg
        have c5 := hst'.b4.cell j
        rw [cellsU_get .u32 _ j (by rw [packS_length]; exact hjN)] at c5
        have f5 := hst'.b4.frozen j
        go_wp2_with fail
        go_roundw
        case rel => exact ⟨k + 1, by omega, by go_num, by
          have h := hst'.set hgp j new
          rw [HSUC2.out] at h
          exact h, Lib.hid (fun j hj => by
            rcases Nat.lt_or_ge j k with h | h
            · exact hin.out j h
            · have : j = k := by omega
              rw [this, HPK.out]; exact HME.out)⟩
        case measure => simp [intOf]; omega
      · have hhas : Maps.has D (Lit.int .u32 p) = false := by rw [HD.out.1]; simpa using hmem
        have hok : packOk ⟨W, H, ps⟩ ts = false := packOk_not (m := ⟨W, H, ps⟩) hkl (by rw [← HPK.out] at hmem; exact hmem)
        have hpost : ∀ w7, Below w.heap.size w w7 → RetImg (packF ⟨W, H, ps⟩ ts) (.int .i64 er) w (.returned (.tuple #[.agg #[.int .i64 0, .int .i64 0, .slice none 0 0], .int .i64 1])) w7 := fun w7 h2 => by
          rw [HP.out.2.1 hok, HP.out.2.2.2.2 hok]
          exact ⟨none, 0, rfl, RI.nil_ _ _ _ (by omega) _, h2⟩
        have HPP := Lib.hid hpost
        clear hmem hok hpost
        have e2 := hst.b2.cell; have f2 := hst.b2.frozen
        go_wp2_with (at_lookup; refine wpList_lookup_own_ok_int _ rfl _ _ 75 rfl 40 3 .i64 (Maps.int_keyed Try.underlying40) Try.underlying75 Try.underlying3 (Try.zeroValue3 _) gm ts.length D rfl hmp _ _ rfl hkey ?_; intro cc hat hwc; clear hat hwc)
        obtain ⟨w7, e7, k0, k1, k2, r7, h7⟩ := img_end hst.b2 hst.below (by omega) (RI.nil_ .u32 wr 0 (by omega) none) 0 0 0
        rw [e7]
        exact bodyPost_ret (v := .tuple #[.agg #[.int .i64 0, .int .i64 0, .slice none 0 0], .int .i64 1]) (by simp [results, Try.results11, go_sem, k0, k1, k2]) rfl (HPP.out w7 h7)
    · have hkk : k = ps.length := by omega
      subst hkk
      have hok := HP.out.2.2.1 (fun j hj => hin.out j hj)
      have hlW := HH.out.2.2.2.2.2.2.2.2.2.2.2.1
      have hpost : ∀ w7, RI .u32 w7 (some ⟨gp, 0, none⟩) N (packS ps ts W M T V N ps.length) → Below w.heap.size w w7 → RetImg (packF ⟨W, H, ps⟩ ts) (.int .i64 er) w (.returned (.tuple #[.agg #[.int .i64 V, .int .i64 H, .slice (some ⟨gp, 0, none⟩) N N], .int .i64 0])) w7 := fun w7 h1 h2 => by
        rw [HP.out.1 hok, HP.out.2.2.2.1 hok]
        rw [hlW] at h1
        exact ⟨_, N, by simp [packS_length], h1, h2⟩
      have HPP := Lib.hid hpost
      clear hok hpost hlW
      have hri := RI.of_blk hst.b4 (c := N) (by rw [packS_length]; exact Nat.le_refl _) (by omega)
      have o3 := hst.b3.cell
      have e2 := hst.b2.cell
      have f2 := hst.b2.frozen
      go_wp2_with fail
      obtain ⟨w7, e7, k0, k1, k2, r7, h7⟩ := img_end hst.b2 hst.below (by omega) hri V H N
      rw [e7]
      exact bodyPost_ret (v := .tuple #[.agg #[.int .i64 V, .int .i64 H, .slice (some ⟨gp, 0, none⟩) N N], .int .i64 0]) (by simp [results, Try.results11, go_sem, k0, k1, k2]) rfl (HPP.out w7 r7 h7)
theorem pack_any (m : ImgP) (A B : Option Addr) (c d : Nat) (ts : List Int) (w : World) (hps : RI .u32 w A c m.P) (hts : RI .u32 w B d ts) (hpx : ∀ x ∈ m.P, IsPx x) (hqx : ∀ x ∈ ts, IsPx x) :
    Calls Try.prog 11 #[.agg #[.int .i64 m.W, .int .i64 m.H, .slice A m.P.length c], .slice B ts.length d] w (RetImg (packF m ts) (.int .i64 (if packOk m ts then 0 else 1)) w) := by
  by_cases h : (goodB m.W m.H m.P.length && decide (1 ≤ ts.length ∧ ts.length ≤ 256)) = true
  · rw [Bool.and_eq_true, decide_eq_true_eq] at h
    obtain ⟨W, H, P⟩ := m
    have g := goodB_iff.1 h.1
    obtain ⟨W, rfl⟩ := Int.eq_ofNat_of_zero_le (show 0 ≤ W by have := g.1; dsimp only at this; omega)
    obtain ⟨H, rfl⟩ := Int.eq_ofNat_of_zero_le (show 0 ≤ H by have := g.2.2.1; dsimp only at this; omega)
    exact pack_ok W H A B c d P ts w hps hts hpx hqx h.1 h.2
  · have h' : (goodB m.W m.H m.P.length && decide (1 ≤ ts.length ∧ ts.length ≤ 256)) = false := by simpa using h
    have hok : packOk m ts = false := by unfold packOk; rw [h']; rfl
    have hF : packF m ts = ⟨0, 0, []⟩ := by unfold packF; rw [if_neg (by rw [hok]; simp)]
    rw [hF, hok]
    exact pack_err m.W m.H A B c d m.P ts w h'
end Go.Proofs.Ytlhhihdfcbkmmaa
