import Derived.Test.YtlhhihdfcbkmmaaM1
import Derived.Test.YtlhhihdfcbkmmaaG9
set_option linter.unusedVariables false
set_option linter.unusedSimpArgs false
namespace Go.Proofs.Ytlhhihdfcbkmmaa
open Go.RowKit
theorem valid_m (W H : Int) (A : Option Addr) (c0 : Nat) (ps : List Int) (S M : Option Addr) (n c k d : Nat) (ca mb : Int) (ms : List Int) (w : World) (hps : RI .u32 w A c0 ps) (hn : n = 0) (hM : RI .i64 w M d ms) (hk : k = ms.length) :
    Calls Try.prog 38 #[.agg #[.int .i64 W, .int .i64 H, .slice A ps.length c0], .agg #[.slice S n c, .int .i64 0, .slice none 0 0, .int .i64 0, .slice none 0 0, .int .i64 ca, .int .i64 mb, .slice M k d, .slice none 0 0]] w fun e w' => e = .returned (.bool (goodB W H ps.length && decide (0 ≤ ca ∧ ca ≤ 11) && metaB W H mb ms)) ∧ Below w.heap.size w w' := by
  cases hg : goodB W H ps.length
  · refine (valid_of W H A ps.length c0 S M n c k d ca mb w false true ⟨0, 0, []⟩ (fun w' hb => apply_not W H A ps.length c0 S M n c k d ca mb w' hg) (by simp)).mono ?_
    rintro e w' ⟨rfl, h⟩
    exact ⟨by simp, h⟩
  · refine (valid_of W H A ps.length c0 S M n c k d ca mb w true (metaB W H mb ms) ⟨W, H, ps⟩ (fun w' hb => apply_0 W H A c0 ps S M c k d ca mb w' (hps.mono hb) hg n hn) (fun _ w' B m hb => meta_any W H B ps.length m S M n c d ca mb ms w' (hM.mono hb) k hk)).mono ?_
    rintro e w' ⟨rfl, h⟩
    exact ⟨by simp, h⟩
theorem all_take_succ {f : Int → Bool} {xs : List Int} {k : Nat} (hk : k < xs.length) : (xs.take (k + 1)).all f = ((xs.take k).all f && f (xs.getD k 0)) := by
  rw [List.take_succ_eq_append_getElem hk, List.all_append, List.getD_eq_getElem?_getD, List.getElem?_eq_getElem hk]
  simp
theorem all_false_at {f : Int → Bool} {xs : List Int} {k : Nat} (hk : k < xs.length) (h : f (xs.getD k 0) = false) : xs.all f = false := by
  rw [List.all_eq_false]
  rw [List.getD_eq_getElem?_getD, List.getElem?_eq_getElem hk] at h
  exact ⟨xs[k], List.getElem_mem hk, by simpa using h⟩
set_option maxRecDepth 100000 in
set_option maxHeartbeats 1000000 in
theorem rmeta_any (W H b : Int) (A M : Option Addr) (n c d : Nat) (ms : List Int) (w : World) (hM : RI .i64 w M d ms) :
    Calls Try.prog 40 #[.agg #[.int .i64 W, .int .i64 H, .slice A n c], .int .i64 b, .slice M ms.length d] w fun e w' => e = .returned (.bool (metaB W H b ms)) ∧ Below w.heap.size w w' := by
  have hl := hM.le; have ht := hM.top
  have hB0 := ext_alloc (Below.refl w.heap.size w) (.cells #[.int .i64 W, .int .i64 H, .slice A n c] 24)
  by_cases hb0 : b = 0
  · have hr : metaB W H b ms = true := by subst hb0; simp [metaB]
    rw [hr]
    have hbz : (b == 0) = true := by simpa using hb0
    clear hr hb0
    go_enter Try.func40, Try.ntmps40
    go_wp2
    go_ret
    exact ⟨rfl, hB0⟩
  · have hbz : (b == 0) = false := by simpa using hb0
    rcases (show b < 2 ∨ 9 < b ∨ (2 ≤ b ∧ b ≤ 9) by omega) with h | h | h
    · have hr : metaB W H b ms = false := by rw [metaB_split _ _ _ _ hb0]; have : bitsB b = false := by simp [bitsB]; omega
                                             rw [this]; rfl
      rw [hr]
      clear hr hb0
      go_enter Try.func40, Try.ntmps40
      go_wp2
      go_ret
      exact ⟨rfl, hB0⟩
    · have hr : metaB W H b ms = false := by rw [metaB_split _ _ _ _ hb0]; have : bitsB b = false := by simp [bitsB]; omega
                                             rw [this]; rfl
      rw [hr]
      clear hr hb0
      have h2 : ¬ b < 2 := by omega
      go_enter Try.func40, Try.ntmps40
      go_wp2
      go_ret
      exact ⟨rfl, hB0⟩
    · have hbb : bitsB b = true := by simp [bitsB]; omega
      obtain ⟨h2, h9⟩ := h
      by_cases hlen : ((ms.length : Int) != manyI W H b) = true
      · have hr : metaB W H b ms = false := by
          rw [metaB_split _ _ _ _ hb0, hbb]
          have : ((ms.length : Int) == manyI W H b) = false := by simpa using hlen
          rw [this]; rfl
        rw [hr]
        clear hr hb0 hbb
        go_enter Try.func40, Try.ntmps40
        go_wp2_with fail
        refine (many_any W H b A n c _).mono ?_
        rintro e w1 ⟨rfl, hb1⟩
        have HB := Lib.hid (ext_then hB0 hb1)
        clear hb1 hB0
        go_wp2_with fail
        go_ret
        exact ⟨rfl, HB.out⟩
      · have hlen' : ((ms.length : Int) != manyI W H b) = false := by simpa using hlen
        have hr : metaB W H b ms = ms.all okMeta := by
          unfold metaB
          have e1 : decide (b = 0) = false := by simpa using hb0
          have e2 : decide ((ms.length : Int) = manyI W H b) = true := by simpa using hlen'
          rw [e1, e2, hbb]; simp
        rw [hr]
        clear hr hb0 hbb hlen
        go_enter Try.func40, Try.ntmps40
        go_wp2_with fail
        refine (many_any W H b A n c _).mono ?_
        rintro e w1 ⟨rfl, hb1⟩
        have HB := ext_then hB0 hb1
        clear hb1 hB0
        go_wp2_with fail
        clear hlen' hbz
        go_loopw [7] (fun i wr => ∃ k : Nat, k ≤ ms.length ∧ i = .int .i64 k ∧ (ms.take k).all okMeta = true ∧ Below w.heap.size w wr) (fun i _ => ms.length - (intOf i).toNat)
        case atStart => exact ⟨0, Nat.zero_le _, rfl, by simp, HB⟩
        case round =>
          clear HB
          obtain ⟨k, hk, rfl, he, hb⟩ := hrel
          by_cases hlt : k < ms.length
          · obtain ⟨b1, o1, rfl, h1, c1⟩ := hM.at_ (by omega)
            have e1 := (hb.cell (p := ⟨b1, o1 + k, none⟩) h1).trans (c1 k hlt)
            have hs := all_take_succ (f := okMeta) hlt
            have hf := all_false_at (f := okMeta) hlt
            rw [he, Bool.true_and] at hs
            generalize ms.getD k 0 = x at e1 hs hf
            have HS := Lib.hid hs; have HF := Lib.hid hf
            clear c1 hs hf he
            by_cases hx0 : x < 0
            · go_wp2_with fail
              go_ret
              exact ⟨ret_bool (HF.out (by simp [okMeta]; omega)).symm, hb⟩
            · by_cases hx1 : x > 63
              · go_wp2_with fail
                go_ret
                exact ⟨ret_bool (HF.out (by simp [okMeta]; omega)).symm, hb⟩
              · go_wp2_with fail
                go_roundw
                case rel => exact ⟨k + 1, by omega, by go_num, by rw [HS.out]; simp [okMeta]; omega, hb⟩
                case measure => simp [intOf]; omega
          · have hkk : k = ms.length := by omega
            subst hkk
            rw [List.take_length] at he
            have HE := Lib.hid he
            clear he
            go_wp2_with fail
            go_ret
            exact ⟨ret_bool HE.out.symm, hb⟩
set_option maxRecDepth 100000 in
set_option maxHeartbeats 4000000 in
theorem planMeta_any (W H b : Int) (A M : Option Addr) (c0 d : Nat) (ps ms : List Int) (w : World) (hps : RI .u32 w A c0 ps) (hM : RI .i64 w M d ms) :
    Calls Try.prog 9 #[.agg #[.int .i64 W, .int .i64 H, .slice A ps.length c0], .int .i64 b, .slice M ms.length d] w fun e w' => e = .returned (.bool true) ∧ Below w.heap.size w w' := by
  have hb0 := ext_alloc (Below.refl w.heap.size w) (.cells #[.int .i64 W, .int .i64 H, .slice A ps.length c0] 24)
  have d0 := Blk.new w 24 #[.int .i64 W, .int .i64 H, .slice A ps.length c0]
  have r0 := hps.mono hb0
  have m0 := hM.mono hb0
  by_cases hl : 1000 < ps.length ∨ 1500 < ms.length
  · rcases (show 1000 < ps.length ∨ (ps.length ≤ 1000 ∧ 1500 < ms.length) by omega) with hl | ⟨hl, hl2⟩
    · have hl' : decide ((1000 : Int) < (ps.length : Int)) = true := by simp; omega
      go_enter Try.func9, Try.ntmps9
      have HB := Lib.hid hb0
      clear hb0 d0 r0 m0
      go_wp2_with fail
      refine (answers20_any _).mono ?_
      rintro e w1 ⟨rfl, hb1⟩
      have HB2 := Lib.hid (ext_then HB.out hb1)
      clear hb1
      go_wp2_with fail
      go_ret
      exact ⟨rfl, HB2.out⟩
    · have hl' : decide ((1000 : Int) < (ps.length : Int)) = false := by simp; omega
      have hl2' : decide ((1500 : Int) < (ms.length : Int)) = true := by simp; omega
      go_enter Try.func9, Try.ntmps9
      have HB := Lib.hid hb0
      clear hb0 d0 r0 m0
      go_wp2_with fail
      refine (answers20_any _).mono ?_
      rintro e w1 ⟨rfl, hb1⟩
      have HB2 := Lib.hid (ext_then HB.out hb1)
      clear hb1
      go_wp2_with fail
      go_ret
      exact ⟨rfl, HB2.out⟩
  · have hl1 : decide ((1000 : Int) < (ps.length : Int)) = false := by simp; omega
    have hl2 : decide ((1500 : Int) < (ms.length : Int)) = false := by simp; omega
    cases hg : goodB W H ps.length <;> cases hmt : metaB W H b ms
    all_goals
      have HG := Lib.hid hg
      have HM := Lib.hid hmt
      have HV := Lib.hid (show (goodB W H ps.length && decide ((0 : Int) ≤ 0 ∧ (0 : Int) ≤ 11) && metaB W H b ms) = (goodB W H ps.length && metaB W H b ms) by simp)
      clear hg hmt
      go_enter Try.func9, Try.ntmps9
      have HB0 := Lib.hid hb0
      clear hb0
      go_wp2_with fail
      refine (goodr_any W H A ps.length c0 _).mono ?_
      rintro e w1 ⟨rfl, hb1⟩
      rw [HG.out]
      have d1 := d0.ext hb1; have r1 := r0.mono hb1; have m1 := m0.mono hb1; have HB1 := Lib.hid (ext_then HB0.out hb1)
      clear d0 r0 m0 HB0 hb1
      have e1 := d1.cell
      go_wp2_with (go_at_call 40; refine (rmeta_any W H b A M ps.length c0 d ms _ m1).mono ?_; rintro e w2 ⟨rfl, hb1⟩; rw [HM.out]; have d2 := d1.ext hb1; have r2 := r1.mono hb1; have m2 := m1.mono hb1; have HB2 := Lib.hid (ext_then HB1.out hb1); clear d1 r1 m1 HB1 hb1 e1; have e2 := d2.cell)
      refine (answers20_any _).mono ?_
      rintro e w3 ⟨rfl, hb1⟩
      first
        | (have d3 := d2.ext hb1; have r3 := r2.mono hb1; have m3 := m2.mono hb1; have HB3 := Lib.hid (ext_then HB2.out hb1); clear d2 r2 m2 HB2 hb1 e2)
        | (have d3 := d1.ext hb1; have r3 := r1.mono hb1; have m3 := m1.mono hb1; have HB3 := Lib.hid (ext_then HB1.out hb1); clear d1 r1 m1 HB1 hb1 e1)
      have e3 := d3.cell
      go_wp2_with fail
      refine (valid_m W H A c0 ps none M 0 0 ms.length d 0 b ms _ r3 rfl m3 rfl).mono ?_
      rintro e w4 ⟨rfl, hb1⟩
      rw [HV.out, HG.out, HM.out]
      have HB4 := Lib.hid (ext_then HB3.out hb1)
      clear d3 r3 m3 HB3 hb1 e3
      go_wp2_with fail
      go_ret
      exact ⟨rfl, HB4.out⟩
end Go.Proofs.Ytlhhihdfcbkmmaa
