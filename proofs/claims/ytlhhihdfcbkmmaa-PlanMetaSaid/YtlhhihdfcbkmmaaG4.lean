import Derived.Test.YtlhhihdfcbkmmaaG3
set_option linter.unusedVariables false
set_option linter.unusedSimpArgs false
namespace Go.Proofs.Ytlhhihdfcbkmmaa
open Go.RowKit
set_option maxRecDepth 100000 in
theorem fits_nil (A : Option Addr) (n c : Nat) (w : World) : Calls Try.prog 71 #[.slice A n c, .slice none 0 0] w fun e w' => e = .returned (.bool true) ∧ w = w' := by
  go_enter Try.func71, Try.ntmps71
  go_wp2
  refine wp_loop_rounds 2 ?_
  rw [rounds_succ]; go_wp2
  go_ret
  exact ⟨rfl, rfl⟩
set_option maxRecDepth 100000 in
theorem meta0 (W H : Int) (A : Option Addr) (N c0 : Nat) (S M : Option Addr) (n c k d : Nat) (ca mb : Int) (hmb : mb = 0) (w : World) :
    Calls Try.prog 70 #[.agg #[.int .i64 W, .int .i64 H, .slice A N c0], .agg #[.slice S n c, .int .i64 0, .slice none 0 0, .int .i64 0, .slice none 0 0, .int .i64 ca, .int .i64 mb, .slice M k d, .slice none 0 0]] w fun e w' => e = .returned (.bool true) ∧ Below w.heap.size w w' := by
  subst hmb
  go_enter Try.func70, Try.ntmps70
  go_wp2
  go_ret
  exact ⟨rfl, ext_alloc (ext_alloc (Below.refl _ _) _) _⟩
set_option maxRecDepth 100000 in
set_option maxHeartbeats 1000000 in
theorem valid_of (W H : Int) (A : Option Addr) (N c0 : Nat) (S M : Option Addr) (n c k d : Nat) (ca mb : Int) (w : World) (ok : Bool) (mt : Bool) (img : ImgP)
    (hA : ∀ w', Below w.heap.size w w' → Calls Try.prog 69 #[.agg #[.int .i64 W, .int .i64 H, .slice A N c0], .agg #[.slice S n c, .int .i64 0, .slice none 0 0, .int .i64 0, .slice none 0 0, .int .i64 ca, .int .i64 mb, .slice M k d, .slice none 0 0]] w' (RetImg img (.bool ok) w'))
    (hM : ok = true → ∀ w' B m, Below w.heap.size w w' → Calls Try.prog 70 #[.agg #[.int .i64 img.W, .int .i64 img.H, .slice B img.P.length m], .agg #[.slice S n c, .int .i64 0, .slice none 0 0, .int .i64 0, .slice none 0 0, .int .i64 ca, .int .i64 mb, .slice M k d, .slice none 0 0]] w' fun e w'' => e = .returned (.bool mt) ∧ Below w'.heap.size w' w'') :
    Calls Try.prog 38 #[.agg #[.int .i64 W, .int .i64 H, .slice A N c0], .agg #[.slice S n c, .int .i64 0, .slice none 0 0, .int .i64 0, .slice none 0 0, .int .i64 ca, .int .i64 mb, .slice M k d, .slice none 0 0]] w fun e w' => e = .returned (.bool (ok && decide (0 ≤ ca ∧ ca ≤ 11) && mt)) ∧ Below w.heap.size w w' := by
  have hb0 := fun (o1 o2 : Obj) => ext_alloc (ext_alloc (Below.refl w.heap.size w) o1) o2
  go_enter Try.func38, Try.ntmps38
  go_wp2_with fail
  refine (hA _ (hb0 _ _)).mono ?_
  rintro e w1 ⟨B, m, rfl, hri, hb1⟩
  have hx := ext_then hb1 (ext_alloc (Below.refl _ w1) (.cells #[.int .i64 img.W, .int .i64 img.H, .slice B img.P.length m] 24))
  have dn := Blk.new w1 24 #[.int .i64 img.W, .int .i64 img.H, .slice B img.P.length m]
  have d1 := (show Blk _ (w.heap.size + 1) 69 _ from (Blk.new' (by simp only [size_alloc]) _ _).ext hx)
  have HW := ext_then (hb0 _ _) hx
  clear hb0 hb1 hx hri
  have HA := Lib.hid HW; have HM := Lib.hid hM
  clear HW hM hA
  have e1 := d1.cell
  have en := dn.cell
  cases ok
  · go_wp2_with fail
    go_ret
    exact ⟨by simp, HA.out⟩
  · by_cases hc0 : 0 ≤ ca
    · by_cases hc1 : ca ≤ 11
      · go_wp2_with fail
        refine (HM.out (by trivial) _ _ _ HA.out).mono ?_
        rintro e w2 ⟨rfl, hb2⟩
        have HB := Lib.hid (ext_then HA.out hb2)
        have e1' := (d1.ext hb2).cell
        have en' := (dn.ext hb2).cell
        clear e1 en HA d1 dn hb2
        cases mt
        · go_wp2_with fail
          go_ret
          exact ⟨by simp, HB.out⟩
        · go_wp2_with fail
          refine (fits_nil _ _ _ _).mono ?_
          rintro e w' ⟨rfl, rfl⟩
          go_wp2_with fail
          go_ret
          exact ⟨by simp [hc0, hc1], HB.out⟩
      · go_wp2_with fail
        go_ret
        exact ⟨by simp; intros; omega, HA.out⟩
    · go_wp2_with fail
      go_ret
      exact ⟨by simp; intros; omega, HA.out⟩
set_option maxRecDepth 100000 in
theorem valid_0 (W H : Int) (A : Option Addr) (c0 : Nat) (ps : List Int) (S M : Option Addr) (n c k d : Nat) (ca mb : Int) (w : World) (hps : RI .u32 w A c0 ps) (hn : n = 0) (hmb : mb = 0) :
    Calls Try.prog 38 #[.agg #[.int .i64 W, .int .i64 H, .slice A ps.length c0], .agg #[.slice S n c, .int .i64 0, .slice none 0 0, .int .i64 0, .slice none 0 0, .int .i64 ca, .int .i64 mb, .slice M k d, .slice none 0 0]] w fun e w' => e = .returned (.bool (goodB W H ps.length && decide (0 ≤ ca ∧ ca ≤ 11))) ∧ Below w.heap.size w w' := by
  cases hg : goodB W H ps.length
  · refine (valid_of W H A ps.length c0 S M n c k d ca mb w false true ⟨0, 0, []⟩ (fun w' hb => apply_not W H A ps.length c0 S M n c k d ca mb w' hg) (by simp)).mono ?_
    rintro e w' ⟨rfl, h⟩
    exact ⟨by simp, h⟩
  · refine (valid_of W H A ps.length c0 S M n c k d ca mb w true true ⟨W, H, ps⟩ (fun w' hb => apply_0 W H A c0 ps S M c k d ca mb w' (hps.mono hb) hg n hn) (fun _ w' B m hb => meta0 W H B ps.length m S M n c k d ca mb hmb w')).mono ?_
    rintro e w' ⟨rfl, h⟩
    exact ⟨by simp, h⟩
set_option maxRecDepth 100000 in
theorem valid_2 (W H : Int) (A : Option Addr) (c0 : Nat) (ps : List Int) (b o : Nat) (S M : Option Addr) (n c k d : Nat) (ca mb : Int) (w : World) (hps : RI .u32 w A c0 ps) (hpx : ∀ x ∈ ps, IsPx x) (hS : S = some ⟨b, o, none⟩) (hn : n = 1) (hcell : w.cell? ⟨b, o, none⟩ = some (.int .i64 2)) (hmb : mb = 0) :
    Calls Try.prog 38 #[.agg #[.int .i64 W, .int .i64 H, .slice A ps.length c0], .agg #[.slice S n c, .int .i64 0, .slice none 0 0, .int .i64 0, .slice none 0 0, .int .i64 ca, .int .i64 mb, .slice M k d, .slice none 0 0]] w fun e w' => e = .returned (.bool (goodB W H ps.length && decide (0 ≤ ca ∧ ca ≤ 11))) ∧ Below w.heap.size w w' := by
  cases hg : goodB W H ps.length
  · refine (valid_of W H A ps.length c0 S M n c k d ca mb w false true ⟨0, 0, []⟩ (fun w' hb => apply_not W H A ps.length c0 S M n c k d ca mb w' hg) (by simp)).mono ?_
    rintro e w' ⟨rfl, h⟩
    exact ⟨by simp, h⟩
  · have hlt := World.block_lt_of_cell? _ _ hcell
    refine (valid_of W H A ps.length c0 S M n c k d ca mb w true true ⟨W, H, ps.map greenP⟩ (fun w' hb => apply_2 W H A c0 ps b o S M n c k d ca mb w' (hps.mono hb) hpx hg hS hn ((hb.cell (p := ⟨b, o, none⟩) hlt).trans hcell)) (fun _ w' B m hb => meta0 W H B _ m S M n c k d ca mb hmb w')).mono ?_
    rintro e w' ⟨rfl, h⟩
    exact ⟨by simp, h⟩
set_option maxRecDepth 100000 in
theorem valid_bad (W H : Int) (A : Option Addr) (N c0 : Nat) (S M : Option Addr) (n c k d : Nat) (ca mb : Int) (w : World)
    (hst : ∀ w', Below w.heap.size w w' → Calls Try.prog 96 #[.slice S n c] w' fun e w'' => e = .returned (.bool false) ∧ Below w'.heap.size w' w'') :
    Calls Try.prog 38 #[.agg #[.int .i64 W, .int .i64 H, .slice A N c0], .agg #[.slice S n c, .int .i64 0, .slice none 0 0, .int .i64 0, .slice none 0 0, .int .i64 ca, .int .i64 mb, .slice M k d, .slice none 0 0]] w fun e w' => e = .returned (.bool false) ∧ Below w.heap.size w w' := by
  refine (valid_of W H A N c0 S M n c k d ca mb w false true ⟨0, 0, []⟩ (fun w' hb => ?_) (by simp)).mono ?_
  · cases hg : goodB W H N
    · exact apply_not W H A N c0 S M n c k d ca mb w' hg
    · exact apply_bad W H A N c0 S M n c k d ca mb w' hg (fun w2 hb2 => hst w2 (ext_then hb hb2))
  · rintro e w' ⟨rfl, h⟩
    exact ⟨by simp, h⟩
end Go.Proofs.Ytlhhihdfcbkmmaa
