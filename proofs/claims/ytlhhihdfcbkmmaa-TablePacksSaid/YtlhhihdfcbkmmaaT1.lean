import Derived.Test.YtlhhihdfcbkmmaaS2
set_option linter.unusedVariables false
set_option linter.unusedSimpArgs false
namespace Go.Proofs.Ytlhhihdfcbkmmaa
open Go.RowKit
/-- An image and a value are handed back. -/
def RetImg (m : ImgP) (x : Value) (w : World) (e : Ending) (w' : World) : Prop :=
  ∃ A c, e = .returned (.tuple #[.agg #[.int .i64 m.W, .int .i64 m.H, .slice A m.P.length c], x]) ∧ RI .u32 w' A c m.P ∧ Below w.heap.size w w'

set_option maxHeartbeats 400000 in
theorem pixels_any (A B : Option Addr) (c d : Nat) (xs ys : List Int) (w : World) (hx : RI .u32 w A c xs) (hy : RI .u32 w B d ys) :
    Calls Try.prog 19 #[.slice A xs.length c, .slice B ys.length d] w fun e w' => e = .returned (.bool (xs == ys)) ∧ Below w.heap.size w w' := by
  have hl := hx.le; have ht := hx.top
  by_cases hn : xs.length = ys.length
  · go_enter Try.func19, Try.ntmps19
    go_wp2
    go_loopw [5] (fun i wr => ∃ k : Nat, k ≤ xs.length ∧ i = .int .i64 k ∧ xs.take k = ys.take k ∧ Below w.heap.size w wr) (fun i _ => xs.length - (intOf i).toNat)
    case atStart => exact ⟨0, Nat.zero_le _, rfl, rfl, Below.refl _ _⟩
    case round =>
      obtain ⟨k, hk, rfl, he, hb⟩ := hrel
      by_cases hlt : k < xs.length
      · obtain ⟨b1, o1, rfl, h1, c1⟩ := hx.at_ (by omega)
        obtain ⟨b2, o2, rfl, h2, c2⟩ := hy.at_ (by omega)
        have e1 := (hb.cell (p := ⟨b1, o1 + k, none⟩) h1).trans (c1 k hlt)
        have e2 := (hb.cell (p := ⟨b2, o2 + k, none⟩) h2).trans (c2 k (by omega))
        clear c1 c2
        go_wp2_with fail
        go_quiet (fail)
        go_wp2_with fail
        · have hne : (xs[k] != ys[k]) = true := by assumption
          go_ret
          refine ⟨ret_bool ?_, ext_drewN hb _⟩
          symm; rw [beq_eq_false_iff_ne]
          rintro rfl
          simp at hne
        · have heq : (xs[k] != ys[k]) = false := by assumption
          go_roundw
          case rel =>
            refine ⟨k + 1, by omega, by go_num, ?_, ext_drewN hb _⟩
            rw [List.take_succ_eq_append_getElem hlt, List.take_succ_eq_append_getElem (show k < ys.length by omega), he]
            have h3 : xs[k] = ys[k] := by simpa using heq
            rw [h3]
          case measure => simp [intOf]; omega
      · go_wp2_with fail
        have : k = xs.length := by omega
        subst this
        go_ret
        refine ⟨ret_bool ?_, hb⟩
        rw [List.take_length, hn, List.take_length] at he
        rw [he]; simp
  · go_enter Try.func19, Try.ntmps19
    go_wp2
    go_ret
    refine ⟨ret_bool ?_, Below.refl _ _⟩
    symm; rw [beq_eq_false_iff_ne]
    rintro rfl
    exact hn rfl
set_option maxHeartbeats 400000 in
theorem same_any (W H V G : Int) (A B : Option Addr) (c d : Nat) (xs ys : List Int) (w : World) (hx : RI .u32 w A c xs) (hy : RI .u32 w B d ys) :
    Calls Try.prog 15 #[.agg #[.int .i64 W, .int .i64 H, .slice A xs.length c], .agg #[.int .i64 V, .int .i64 G, .slice B ys.length d]] w
      fun e w' => e = .returned (.bool (decide (W = V ∧ H = G ∧ xs = ys))) ∧ Below w.heap.size w w' := by
  by_cases hW : W = V
  · subst hW
    by_cases hH : H = G
    · subst hH
      have hb : Below w.heap.size w ((w.alloc (.cells #[.int .i64 W, .int .i64 H, .slice A xs.length c] 24)).alloc (.cells #[.int .i64 W, .int .i64 H, .slice B ys.length d] 24)) := ext_alloc (ext_alloc (Below.refl _ _) _) _
      have hx' := hx.mono hb
      have hy' := hy.mono hb
      have HB := Lib.hid hb
      clear hb
      go_enter Try.func15, Try.ntmps15
      go_wp2_with (go_at_call 19; refine (pixels_any _ _ _ _ _ _ _ hx' hy').mono ?_; rintro e w1 ⟨rfl, hb1⟩)
      go_ret
      exact ⟨ret_bool (by rw [Bool.eq_iff_iff]; simp), ext_then HB.out hb1⟩
    · have hH' : (H == G) = false := by simpa using hH
      have hd : decide (W = W ∧ H = G ∧ xs = ys) = false := by simp [hH]
      rw [hd]
      clear hH hd
      go_enter Try.func15, Try.ntmps15
      go_wp2
      go_ret
      exact ⟨rfl, ext_alloc (ext_alloc (Below.refl _ _) _) _⟩
  · have hW' : (W == V) = false := by simpa using hW
    have hd : decide (W = V ∧ H = G ∧ xs = ys) = false := by simp [hW]
    rw [hd]
    clear hW hd
    go_enter Try.func15, Try.ntmps15
    go_wp2
    go_ret
    exact ⟨rfl, ext_alloc (ext_alloc (Below.refl _ _) _) _⟩
end Go.Proofs.Ytlhhihdfcbkmmaa
