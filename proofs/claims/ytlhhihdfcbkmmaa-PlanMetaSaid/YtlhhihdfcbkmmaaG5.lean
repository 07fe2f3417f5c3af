import Derived.Test.YtlhhihdfcbkmmaaG4
set_option linter.unusedVariables false
set_option linter.unusedSimpArgs false
namespace Go.Proofs.Ytlhhihdfcbkmmaa
open Go.RowKit
def cmpI (x y : Int) : Int := if x < y then -1 else if y < x then 1 else 0
def lexI : List Int → List Int → Int
  | [], [] => 0
  | [], _ :: _ => -1
  | _ :: _, [] => 1
  | x :: xs, y :: ys => if x < y then -1 else if y < x then 1 else lexI xs ys
def shortI (xs ys : List Int) : Int := if xs.length = ys.length then lexI xs ys else (xs.length : Int) - ys.length
theorem lexI_nil_of {xs ys : List Int} {k : Nat} (h1 : k = xs.length) (h2 : ys.length = k) : lexI (xs.drop k) (ys.drop k) = 0 := by
  rw [List.drop_eq_nil_of_le (by omega), List.drop_eq_nil_of_le (by omega)]; rfl
theorem lexI_step {xs ys : List Int} {k : Nat} (h1 : k < xs.length) (h2 : k < ys.length) : lexI (xs.drop k) (ys.drop k) = if xs.getD k 0 < ys.getD k 0 then -1 else if ys.getD k 0 < xs.getD k 0 then 1 else lexI (xs.drop (k + 1)) (ys.drop (k + 1)) := by
  rw [List.drop_eq_getElem_cons h1, List.drop_eq_getElem_cons h2]
  simp only [lexI, List.getD_eq_getElem?_getD, List.getElem?_eq_getElem h1, List.getElem?_eq_getElem h2, Option.getD_some]
theorem ccmp_any (x y : Int) (w : World) : Calls Try.prog 103 #[.int .i64 x, .int .i64 y] w fun e w' => e = .returned (.int .i64 (cmpI x y)) ∧ w = w' := by
  go_enter Try.func103, Try.ntmps103
  go_wp2
  all_goals
    go_ret
    refine ⟨ret_int ?_, rfl⟩
    unfold cmpI
    repeat (first | rw [if_pos (by omega)] | rw [if_neg (by omega)])
set_option maxHeartbeats 400000 in
theorem lex_any (A B : Option Addr) (c d : Nat) (xs ys : List Int) (w : World) (hx : RI .i64 w A c xs) (hy : RI .i64 w B d ys) (hl : xs.length = ys.length) :
    Calls Try.prog 74 #[.slice A xs.length c, .slice B ys.length d] w fun e w' => e = .returned (.int .i64 (lexI xs ys)) ∧ w = w' := by
  have h1 := hx.le; have h2 := hx.top
  have hl1 : xs.length ≤ ys.length := by omega
  have hl2 : ys.length ≤ xs.length := by omega
  clear hl
  go_enter Try.func74, Try.ntmps74
  go_wp2_with fail
  go_loopw [11] (fun i wr => ∃ k : Nat, k ≤ xs.length ∧ i = .int .i64 k ∧ lexI (xs.drop k) (ys.drop k) = lexI xs ys ∧ w = wr) (fun i _ => xs.length - (intOf i).toNat)
  case atStart => exact ⟨0, Nat.zero_le _, rfl, rfl, rfl⟩
  case round =>
    obtain ⟨k, hk, rfl, he, rfl⟩ := hrel
    by_cases hlt : k < xs.length
    · obtain ⟨b1, o1, rfl, hb1, c1⟩ := hx.at_ (by omega)
      obtain ⟨b2, o2, rfl, hb2, c2⟩ := hy.at_ (by omega)
      have e1 := c1 k hlt
      have e2 := c2 k (by omega)
      rw [lexI_step hlt (by omega)] at he
      generalize xs.getD k 0 = x at e1 he
      generalize ys.getD k 0 = y at e2 he
      have HE := Lib.hid he
      clear he c1 c2
      have hge : decide ((k : Int) ≥ (ys.length : Int)) = false := by simp; omega
      go_wp2_with fail
      refine (ccmp_any _ _ _).mono ?_
      rintro e w' ⟨rfl, rfl⟩
      by_cases h3 : x < y
      · rw [show cmpI x y = -1 by unfold cmpI; rw [if_pos h3]]
        go_wp2_with fail
        go_ret
        refine ⟨ret_int ?_, rfl⟩
        have := HE.out; rw [if_pos (by omega)] at this; exact this
      · by_cases h4 : y < x
        · rw [show cmpI x y = 1 by unfold cmpI; rw [if_neg h3, if_pos h4]]
          go_wp2_with fail
          go_ret
          refine ⟨ret_int ?_, rfl⟩
          have := HE.out; rw [if_neg (by omega), if_pos (by omega)] at this; exact this
        · rw [show cmpI x y = 0 by unfold cmpI; rw [if_neg h3, if_neg h4]]
          go_wp2_with fail
          go_roundw
          case rel => exact ⟨k + 1, by omega, by go_num, by have := HE.out; rw [if_neg (show ¬ x < y by omega), if_neg (show ¬ y < x by omega)] at this; exact this, by trivial⟩
          case measure => simp [intOf]; omega
    · have hk2 : k = xs.length := by omega
      rw [lexI_nil_of hk2 (by omega)] at he
      have HE := Lib.hid he
      clear he
      have hno : decide ((xs.length : Int) < (ys.length : Int)) = false := by simp; omega
      subst hk2
      go_wp2_with fail
      go_ret
      exact ⟨ret_int HE.out, rfl⟩
theorem scmp_any (A B : Option Addr) (c d : Nat) (xs ys : List Int) (w : World) (hx : RI .i64 w A c xs) (hy : RI .i64 w B d ys) (h1 : xs.length ≤ 4) (h2 : ys.length ≤ 4) :
    Calls Try.prog 73 #[.slice A xs.length c, .slice B ys.length d] w fun e w' => e = .returned (.int .i64 (shortI xs ys)) ∧ w = w' := by
  have w1 : wrap64 ((xs.length : Int) - ys.length) = (xs.length : Int) - ys.length := wrap64In (by omega) (by omega)
  by_cases hl : xs.length = ys.length
  · rw [show shortI xs ys = lexI xs ys by unfold shortI; rw [if_pos hl]]
    have HL := Lib.hid hl
    have hne : ((xs.length : Int) != (ys.length : Int)) = false := by simp; omega
    clear hl w1 h1 h2
    go_enter Try.func73, Try.ntmps73
    go_wp2_with fail
    refine (lex_any A B c d xs ys w hx hy HL.out).mono ?_
    rintro e w' ⟨rfl, rfl⟩
    go_wp2_with fail
    go_ret
    exact ⟨rfl, rfl⟩
  · rw [show shortI xs ys = (xs.length : Int) - ys.length by unfold shortI; rw [if_neg hl]]
    have hne : ((xs.length : Int) != (ys.length : Int)) = true := by simp; omega
    clear hl h1 h2
    go_enter Try.func73, Try.ntmps73
    go_wp2_with fail
    go_ret
    exact ⟨ret_int w1, rfl⟩
end Go.Proofs.Ytlhhihdfcbkmmaa
