import Derived.Test.YtlhhihdfcbkmmaaG2
set_option linter.unusedVariables false
set_option linter.unusedSimpArgs false
namespace Go.Proofs.Ytlhhihdfcbkmmaa
open Go.RowKit
/-- An image is written over another. -/
theorem img_set {w w1 : World} {g : Nat} {t : TypeId} {A B : Option Addr} {c d m : Nat} {a b : Int} {xs : List Int} (h : Blk w1 g t #[.int .i64 a, .int .i64 b, .slice B m d]) (HW : Below w.heap.size w w1) (hg : w.heap.size ≤ g) (hri : RI .u32 w1 A c xs) (W H : Int) (n : Nat) :
    ∃ w7 : World, ((w1.setCell ⟨g, 0, none⟩ (.int .i64 W)).setCell ⟨g, 1, none⟩ (.int .i64 H)).setCell ⟨g, 2, none⟩ (.slice A n c) = w7 ∧
      Blk w7 g t #[.int .i64 W, .int .i64 H, .slice A n c] ∧ RI .u32 w7 A c xs ∧ Below w.heap.size w w7 ∧ (∀ g' t' cs', Blk w1 g' t' cs' → g' ≠ g → Blk w7 g' t' cs') := by
  have hne := hri.apart h (by intro i x; match i with | 0 => simp | 1 => simp | 2 => simp | n + 3 => simp)
  have g0 := ((h.set_ 0 (.int .i64 W)).set_ 1 (.int .i64 H)).set_ 2 (.slice A n c)
  refine ⟨_, rfl, by simpa using g0, ((hri.setCell hne _ _).setCell hne _ _).setCell hne _ _, ?_, fun g' t' cs' h' hd => ((h'.far (p := ⟨g, 0, none⟩) hd _).far (p := ⟨g, 1, none⟩) hd _).far (p := ⟨g, 2, none⟩) hd _⟩
  exact ext_set (ext_set (ext_set HW (p := ⟨g, 0, none⟩) hg _) (p := ⟨g, 1, none⟩) hg _) (p := ⟨g, 2, none⟩) hg _
theorem img_swap {w w1 : World} {g : Nat} {t : TypeId} {A B : Option Addr} {c d m : Nat} {a b : Int} {xs : List Int} (h : Blk w1 g t #[.int .i64 a, .int .i64 b, .slice B m d]) (HW : Below w.heap.size w w1) (hg : w.heap.size ≤ g) (hri : RI .u32 w1 A c xs) (n : Nat) :
    ∃ w7 : World, w1.setCell ⟨g, 2, none⟩ (.slice A n c) = w7 ∧
      Blk w7 g t #[.int .i64 a, .int .i64 b, .slice A n c] ∧ RI .u32 w7 A c xs ∧ Below w.heap.size w w7 ∧ (∀ g' t' cs', Blk w1 g' t' cs' → g' ≠ g → Blk w7 g' t' cs') := by
  have hne := hri.apart h (by intro i x; match i with | 0 => simp | 1 => simp | 2 => simp | n + 3 => simp)
  have g0 := h.set_ 2 (.slice A n c)
  refine ⟨_, rfl, by simpa using g0, hri.setCell hne _ _, ?_, fun g' t' cs' h' hd => h'.far (p := ⟨g, 2, none⟩) hd _⟩
  exact ext_set HW (p := ⟨g, 2, none⟩) hg _
set_option maxRecDepth 100000 in
set_option maxHeartbeats 1000000 in
theorem turn2_ok (W H : Int) (A : Option Addr) (c0 : Nat) (ps : List Int) (S M : Option Addr) (n c k d : Nat) (ca mb : Int) (w : World) (hps : RI .u32 w A c0 ps) (hpx : ∀ x ∈ ps, IsPx x) (hg : goodB W H ps.length = true) :
    Calls Try.prog 97 #[.agg #[.int .i64 W, .int .i64 H, .slice A ps.length c0], .agg #[.slice S n c, .int .i64 0, .slice none 0 0, .int .i64 0, .slice none 0 0, .int .i64 ca, .int .i64 mb, .slice M k d, .slice none 0 0], .int .i64 2] w (RetImg ⟨W, H, ps.map greenP⟩ (.bool true) w) := by
  go_enter Try.func97, Try.ntmps97
  have hb : Below w.heap.size w (((w.alloc (.cells #[.int .i64 W, .int .i64 H, .slice A ps.length c0] 24)).alloc (.cells #[.slice S n c, .int .i64 0, .slice none 0 0, .int .i64 0, .slice none 0 0, .int .i64 ca, .int .i64 mb, .slice M k d, .slice none 0 0] 69)).alloc (.cells #[.int .i64 0, .int .i64 0, .slice none 0 0] 24)) := ext_alloc (ext_alloc (ext_alloc (Below.refl _ _) _) _) _
  have hps' := hps.mono hb
  go_wp2_with fail
  refine (gforth_ok W H A c0 ps _ hps' hpx hg).mono ?_
  rintro e w1 ⟨A1, c1, rfl, hri, hb1⟩
  have d1 : Blk w1 w.heap.size 24 #[.int .i64 W, .int .i64 H, .slice A ps.length c0] := (((Blk.new _ _ _).alloc _).alloc _).ext hb1
  have d2 : Blk w1 (w.heap.size + 1 + 1) 24 #[.int .i64 0, .int .i64 0, .slice none 0 0] := (Blk.new' (by simp only [size_alloc]) _ _).ext hb1
  have HW := ext_then hb hb1
  clear hb hb1 hps'
  have e2 := d1.cell
  have f2 := d1.frozen
  have e3 := d2.cell
  have f3 := d2.frozen
  go_wp2_with fail
  obtain ⟨w5, e5, g5, r5, h5, k5⟩ := img_set d1 HW (by omega) hri W H ps.length
  rw [e5]
  obtain ⟨w7, e7, k0, k1, k2, r7, h7⟩ := img_end (k5 _ _ _ d2 (by omega)) h5 (by omega) r5 W H ps.length
  rw [e7]
  exact bodyPost_ret (v := .tuple #[.agg #[.int .i64 W, .int .i64 H, .slice A1 ps.length c1], .bool true]) (by simp [results, Try.results97, go_sem, k0, k1, k2]) rfl ⟨A1, c1, by simp, r7, h7⟩
set_option maxRecDepth 100000 in
set_option maxHeartbeats 1000000 in
theorem apply_not (W H : Int) (A : Option Addr) (N c0 : Nat) (S M : Option Addr) (n c k d : Nat) (ca mb : Int) (w : World) (hg : goodB W H N = false) :
    Calls Try.prog 69 #[.agg #[.int .i64 W, .int .i64 H, .slice A N c0], .agg #[.slice S n c, .int .i64 0, .slice none 0 0, .int .i64 0, .slice none 0 0, .int .i64 ca, .int .i64 mb, .slice M k d, .slice none 0 0]] w (RetImg ⟨0, 0, []⟩ (.bool false) w) := by
  go_enter Try.func69, Try.ntmps69
  have hb : Below w.heap.size w (((w.alloc (.cells #[.int .i64 W, .int .i64 H, .slice A N c0] 24)).alloc (.cells #[.slice S n c, .int .i64 0, .slice none 0 0, .int .i64 0, .slice none 0 0, .int .i64 ca, .int .i64 mb, .slice M k d, .slice none 0 0] 69)).alloc (.cells #[.int .i64 0, .int .i64 0, .slice none 0 0] 24)) := ext_alloc (ext_alloc (ext_alloc (Below.refl _ _) _) _) _
  go_wp2_with fail
  refine (good_any W H A N c0 _).mono ?_
  rintro e w1 ⟨rfl, hb1⟩
  rw [hg]
  have d2 : Blk w1 (w.heap.size + 1 + 1) 24 #[.int .i64 0, .int .i64 0, .slice none 0 0] := (Blk.new' (by simp only [size_alloc]) _ _).ext hb1
  have HW := ext_then hb hb1
  clear hb hb1
  have e3 := d2.cell
  have f3 := d2.frozen
  go_wp2_with fail
  obtain ⟨w7, e7, k0, k1, k2, r7, h7⟩ := img_end d2 HW (by omega) (RI.nil_ .u32 w1 0 (by omega) none) 0 0 0
  rw [e7]
  exact bodyPost_ret (v := .tuple #[.agg #[.int .i64 0, .int .i64 0, .slice none 0 0], .bool false]) (by simp [results, Try.results69, go_sem, k0, k1, k2]) rfl ⟨none, 0, rfl, r7, h7⟩
set_option maxRecDepth 100000 in
set_option maxHeartbeats 1000000 in
theorem apply_bad (W H : Int) (A : Option Addr) (N c0 : Nat) (S M : Option Addr) (n c k d : Nat) (ca mb : Int) (w : World) (hg : goodB W H N = true)
    (hst : ∀ w', Below w.heap.size w w' → Calls Try.prog 96 #[.slice S n c] w' fun e w'' => e = .returned (.bool false) ∧ Below w'.heap.size w' w'') :
    Calls Try.prog 69 #[.agg #[.int .i64 W, .int .i64 H, .slice A N c0], .agg #[.slice S n c, .int .i64 0, .slice none 0 0, .int .i64 0, .slice none 0 0, .int .i64 ca, .int .i64 mb, .slice M k d, .slice none 0 0]] w (RetImg ⟨0, 0, []⟩ (.bool false) w) := by
  go_enter Try.func69, Try.ntmps69
  have hb : Below w.heap.size w (((w.alloc (.cells #[.int .i64 W, .int .i64 H, .slice A N c0] 24)).alloc (.cells #[.slice S n c, .int .i64 0, .slice none 0 0, .int .i64 0, .slice none 0 0, .int .i64 ca, .int .i64 mb, .slice M k d, .slice none 0 0] 69)).alloc (.cells #[.int .i64 0, .int .i64 0, .slice none 0 0] 24)) := ext_alloc (ext_alloc (ext_alloc (Below.refl _ _) _) _) _
  go_wp2_with fail
  refine (good_any W H A N c0 _).mono ?_
  rintro e w1 ⟨rfl, hb1⟩
  rw [hg]
  have d2 : Blk w1 (w.heap.size + 1 + 1) 24 #[.int .i64 0, .int .i64 0, .slice none 0 0] := (Blk.new' (by simp only [size_alloc]) _ _).ext hb1
  have d1 : Blk w1 (w.heap.size + 1) 69 #[.slice S n c, .int .i64 0, .slice none 0 0, .int .i64 0, .slice none 0 0, .int .i64 ca, .int .i64 mb, .slice M k d, .slice none 0 0] := ((Blk.new' (by simp only [size_alloc]) _ _).alloc _).ext hb1
  have HW := ext_then hb hb1
  clear hb hb1
  have e1 := d1.cell
  go_wp2_with fail
  refine (hst _ HW).mono ?_
  rintro e w2 ⟨rfl, hb2⟩
  have D2 := d2.ext hb2
  have HW2 := ext_then HW hb2
  clear e1 d1 d2 HW hb2
  have e3 := D2.cell
  have f3 := D2.frozen
  go_wp2_with fail
  obtain ⟨w7, e7, k0, k1, k2, r7, h7⟩ := img_end D2 HW2 (by omega) (RI.nil_ .u32 w2 0 (by omega) none) 0 0 0
  rw [e7]
  exact bodyPost_ret (v := .tuple #[.agg #[.int .i64 0, .int .i64 0, .slice none 0 0], .bool false]) (by simp [results, Try.results69, go_sem, k0, k1, k2]) rfl ⟨none, 0, rfl, r7, h7⟩
set_option maxRecDepth 100000 in
set_option maxHeartbeats 1000000 in
theorem apply_0 (W H : Int) (A : Option Addr) (c0 : Nat) (ps : List Int) (S M : Option Addr) (c k d : Nat) (ca mb : Int) (w : World) (hps : RI .u32 w A c0 ps) (hg : goodB W H ps.length = true) (n : Nat) (hn : n = 0) :
    Calls Try.prog 69 #[.agg #[.int .i64 W, .int .i64 H, .slice A ps.length c0], .agg #[.slice S n c, .int .i64 0, .slice none 0 0, .int .i64 0, .slice none 0 0, .int .i64 ca, .int .i64 mb, .slice M k d, .slice none 0 0]] w (RetImg ⟨W, H, ps⟩ (.bool true) w) := by
  subst hn
  have hmW : 1 ≤ ps.length ∧ ps.length ≤ 268435456 := by
    have g := goodB_iff.1 hg
    have := mul_small g.1 g.2.1 g.2.2.1 g.2.2.2.1
    omega
  obtain ⟨n, hn⟩ : ∃ n : Nat, n = 0 := ⟨0, rfl⟩
  go_enter Try.func69, Try.ntmps69
  have hb0 := fun (o1 o2 o3 : Obj) => ext_alloc (ext_alloc (ext_alloc (Below.refl w.heap.size w) o1) o2) o3
  clear hn
  go_wp2_with fail
  refine (good_any W H A ps.length c0 _).mono ?_
  rintro e w1 ⟨rfl, hb1⟩
  rw [hg]
  have d0 : Blk w1 w.heap.size 24 #[.int .i64 W, .int .i64 H, .slice A ps.length c0] := (((Blk.new _ _ _).alloc _).alloc _).ext hb1
  have d2 : Blk w1 (w.heap.size + 1 + 1) 24 #[.int .i64 0, .int .i64 0, .slice none 0 0] := (Blk.new' (by simp only [size_alloc]) _ _).ext hb1
  have d1 := (show Blk w1 (w.heap.size + 1) 69 _ from ((Blk.new' (by simp only [size_alloc]) _ _).alloc _).ext hb1)
  have HW := ext_then (hb0 _ _ _) hb1
  clear hb0 hb1
  have e0 := d0.cell
  have f0 := d0.frozen
  have e1 := d1.cell
  go_wp2_with fail
  refine (stack0 _ _ _).mono ?_
  rintro e w2 ⟨rfl, rfl⟩
  go_wp2_with fail
  refine (clone_any A c0 ps _ (hps.mono HW) (by omega) (by omega)).mono ?_
  rintro e w2 ⟨B, m, rfl, hri, hb2⟩
  have D0 := d0.ext hb2; have D1 := d1.ext hb2; have D2 := d2.ext hb2
  have HW2 := ext_then HW hb2
  clear e0 f0 e1 d0 d1 d2 HW hb2
  have e0 := D0.cell
  have f0 := D0.frozen
  have e1 := D1.cell
  have e2 := D2.cell
  have f2 := D2.frozen
  go_wp2_with fail
  obtain ⟨w3, e3, D0', r3, h3, k3⟩ := img_swap D0 HW2 (by omega) hri ps.length
  rw [e3]
  have D1' := k3 _ _ _ D1 (by omega)
  have D2' := k3 _ _ _ D2 (by omega)
  clear e0 f0 e1 e2 f2 D0 D1 D2 hri HW2 k3 e3
  have e0 := D0'.cell
  have e1 := D1'.cell
  have e2 := D2'.cell
  have f2 := D2'.frozen
  refine wp_loop_rounds 2 ?_
  rw [rounds_succ]
  go_wp2_with fail
  obtain ⟨w7, e7, k0, k1, k2, r7, h7⟩ := img_end D2' h3 (by omega) r3 W H ps.length
  rw [e7]
  exact bodyPost_ret (v := .tuple #[.agg #[.int .i64 W, .int .i64 H, .slice B ps.length m], .bool true]) (by simp [results, Try.results69, go_sem, k0, k1, k2]) rfl ⟨B, m, rfl, r7, h7⟩
set_option maxRecDepth 100000 in
set_option maxHeartbeats 1000000 in
theorem apply_2 (W H : Int) (A : Option Addr) (c0 : Nat) (ps : List Int) (b o : Nat) (S M : Option Addr) (n c k d : Nat) (ca mb : Int) (w : World) (hps : RI .u32 w A c0 ps) (hpx : ∀ x ∈ ps, IsPx x) (hg : goodB W H ps.length = true)
    (hS : S = some ⟨b, o, none⟩) (hn : n = 1) (hcell : w.cell? ⟨b, o, none⟩ = some (.int .i64 2)) :
    Calls Try.prog 69 #[.agg #[.int .i64 W, .int .i64 H, .slice A ps.length c0], .agg #[.slice S n c, .int .i64 0, .slice none 0 0, .int .i64 0, .slice none 0 0, .int .i64 ca, .int .i64 mb, .slice M k d, .slice none 0 0]] w (RetImg ⟨W, H, ps.map greenP⟩ (.bool true) w) := by
  subst hS; subst hn
  have hlt := World.block_lt_of_cell? _ _ hcell
  have hmW : 1 ≤ ps.length ∧ ps.length ≤ 268435456 := by
    have g := goodB_iff.1 hg
    have := mul_small g.1 g.2.1 g.2.2.1 g.2.2.2.1
    omega
  obtain ⟨n, -⟩ : ∃ n : Nat, n = 0 := ⟨0, rfl⟩
  obtain ⟨S, -⟩ : ∃ S : Option Addr, S = none := ⟨none, rfl⟩
  have hb0 := fun (o1 o2 o3 : Obj) => ext_alloc (ext_alloc (ext_alloc (Below.refl w.heap.size w) o1) o2) o3
  go_enter Try.func69, Try.ntmps69
  go_wp2_with fail
  refine (good_any W H A ps.length c0 _).mono ?_
  rintro e w1 ⟨rfl, hb1⟩
  rw [hg]
  have d0 : Blk w1 w.heap.size 24 #[.int .i64 W, .int .i64 H, .slice A ps.length c0] := (((Blk.new _ _ _).alloc _).alloc _).ext hb1
  have d2 : Blk w1 (w.heap.size + 1 + 1) 24 #[.int .i64 0, .int .i64 0, .slice none 0 0] := (Blk.new' (by simp only [size_alloc]) _ _).ext hb1
  have d1 := (show Blk w1 (w.heap.size + 1) 69 _ from ((Blk.new' (by simp only [size_alloc]) _ _).alloc _).ext hb1)
  have HW := ext_then (hb0 _ _ _) hb1
  clear hb0 hb1
  have cS := (HW.cell (p := ⟨b, o, none⟩) hlt).trans hcell
  have e0 := d0.cell
  have f0 := d0.frozen
  have e1 := d1.cell
  go_wp2_with fail
  refine (stack2 _ _ _ _ cS).mono ?_
  rintro e w2 ⟨rfl, hb2⟩
  have D0 := d0.ext hb2; have D1 := d1.ext hb2; have D2 := d2.ext hb2
  have HW2 := ext_then HW hb2
  clear e0 f0 e1 d0 d1 d2 HW hb2 cS
  have e0 := D0.cell
  have f0 := D0.frozen
  have e1 := D1.cell
  go_wp2_with fail
  refine (clone_any A c0 ps _ (hps.mono HW2) (by omega) (by omega)).mono ?_
  rintro e w3 ⟨B, m, rfl, hri, hb2⟩
  have d0 := D0.ext hb2; have d1 := D1.ext hb2; have d2 := D2.ext hb2
  have HW := ext_then HW2 hb2
  clear e0 f0 e1 D0 D1 D2 HW2 hb2
  have e0 := d0.cell
  have f0 := d0.frozen
  have e1 := d1.cell
  go_wp2_with fail
  obtain ⟨w4, e3, D0, r3, HW2, k3⟩ := img_swap d0 HW (by omega) hri ps.length
  rw [e3]
  have D1 := k3 _ _ _ d1 (by omega)
  have D2 := k3 _ _ _ d2 (by omega)
  clear e0 f0 e1 d0 d1 d2 hri HW k3 e3
  have cS := (HW2.cell (p := ⟨b, o, none⟩) hlt).trans hcell
  have e0 := D0.cell
  have e1 := D1.cell
  refine wp_loop_rounds 3 ?_
  rw [rounds_succ]
  go_wp2_with fail
  refine (turn2_ok W H B m ps _ _ _ _ _ _ _ _ _ r3 hpx hg).mono ?_
  rintro e w5 ⟨B2, m2, rfl, hri, hb2⟩
  have hx := ext_then hb2 (ext_alloc (Below.refl _ w5) (.cells #[.int .i64 W, .int .i64 H, .slice B2 (ps.map greenP).length m2] 24))
  have dn := Blk.new w5 24 #[.int .i64 W, .int .i64 H, .slice B2 (ps.map greenP).length m2]
  have d0 := D0.ext hx; have d2 := D2.ext hx
  have r5 := hri.mono (ext_alloc (Below.refl _ w5) (.cells #[.int .i64 W, .int .i64 H, .slice B2 (ps.map greenP).length m2] 24))
  have HW := ext_then HW2 hx
  have lt2 := (D2.ext hb2).lt
  clear e0 e1 D0 D1 D2 HW2 hb2 cS r3 hx hri
  simp only [List.length_map] at dn d0 d2 r5 HW
  have e0 := d0.cell
  have f0 := d0.frozen
  have e2 := d2.cell
  have f2 := d2.frozen
  have e3 := dn.cell
  go_wp2_with fail
  obtain ⟨w6, e6, D0, r6, h6, k6⟩ := img_set d0 HW (by omega) r5 W H ps.length
  rw [e6]
  have D2 := k6 _ _ _ d2 (by omega)
  clear e0 f0 e2 f2 e3 d0 d2 dn r5 HW k6 e6
  have e0 := D0.cell
  have e2 := D2.cell
  have f2 := D2.frozen
  rw [rounds_succ]
  go_wp2_with fail
  obtain ⟨w7, e7, k0, k1, k2, r7, h7⟩ := img_end D2 h6 (by omega) r6 W H ps.length
  rw [e7]
  exact bodyPost_ret (v := .tuple #[.agg #[.int .i64 W, .int .i64 H, .slice B2 ps.length m2], .bool true]) (by simp [results, Try.results69, go_sem, k0, k1, k2]) rfl ⟨B2, m2, by simp, r7, h7⟩
end Go.Proofs.Ytlhhihdfcbkmmaa
