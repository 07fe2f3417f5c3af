import Derived.Test.YtlhhihdfcbkmmaaG7
set_option linter.unusedVariables false
set_option linter.unusedSimpArgs false
namespace Go.Proofs.Ytlhhihdfcbkmmaa
open Go.RowKit
/-- While the sets are made: n are there. -/
def SetsSt (w : World) (n : Nat) (v : Value) (wr : World) : Prop :=
  ∃ xs : List Value, xs.length = n ∧ OwnV wr w.heap.size 42 v xs ∧ (∀ j, j < n → Own wr w.heap.size 3 .i64 (xs.getD j (.slice none 0 0)) (stkL j 4)) ∧ Below w.heap.size w wr
/-- The sets, in order. -/
def setAt (j : Nat) : List Int := stkL (setsO.getD j 0).1 4
def StacksPost (w : World) (e : Ending) (w' : World) : Prop :=
  ∃ g c, e = .returned (.slice (some ⟨g, 0, none⟩) 16 c) ∧ g < w'.heap.size ∧ (∀ j, j < 16 → ∃ A k, w'.cell? ⟨g, j, none⟩ = some (.slice A (setAt j).length k) ∧ RI .i64 w' A k (setAt j)) ∧ Below w.heap.size w w'
open Go.Sort Go.Lib in
/-- The sets are made: they are sorted. -/
theorem sets_sort {w wr : World} {v : Value} (h : SetsSt w 16 v wr) :
    ∃ g cap, v = .slice (some ⟨g, 0, none⟩) 16 cap ∧ Calls Try.prog 72 #[v, .func (.func 73) #[] #[]] wr fun e w' => e = .returned (.tuple #[]) ∧ StacksPost w (.returned v) w' := by
  obtain ⟨xs, hxl, hov, hall, HB⟩ := h
  rcases hov.2 with ⟨rfl, h0⟩ | ⟨g, cap, cur, rfl, hbase, hh, h1, h2, h3, h4⟩
  · omega
  have hG : Blk wr g 42 cur := hh
  rw [hxl] at h1 h4
  obtain ⟨enc, henc⟩ : ∃ enc : Fin 16 → Value, enc = fun i => xs.getD i.1 (.slice none 0 0) := ⟨_, rfl⟩
  have hel : ∀ x : Fin 16, ∃ A c, enc x = .slice A (stkL x.1 4).length c ∧ RI .i64 wr A c (stkL x.1 4) ∧ ∀ b o, 0 < (stkL x.1 4).length → A = some ⟨b, o, none⟩ → b ≠ g ∧ b < wr.heap.size := fun x => by
    rw [henc]
    exact (hall x.1 x.2).far hG (by decide)
  have hO : OneCell enc := fun x => by obtain ⟨A, c, e, -⟩ := hel x; rw [e]; rfl
  have hcell : ∀ j : Fin 16, wr.cell? ⟨g, j.1, none⟩ = some (enc j) := fun j => by
    have hj := j.2
    rw [hG.cell, henc]
    have e : (cur.toList.take (16 * 1))[j.1]? = xs[j.1]? := by rw [h4]
    rw [List.getElem?_take, if_pos (by omega)] at e
    rw [← Array.getElem?_toList, e, List.getElem?_eq_getElem (by omega)]; dsimp only; rw [List.getD_eq_getElem?_getD, List.getElem?_eq_getElem (by omega)]; rfl
  have hH : Holds enc wr g 0 setsD := fun j hj => by
    have hj' : j < 16 := hj
    have e := setsD_at ⟨j, hj'⟩
    dsimp only at e
    rw [e, Nat.zero_add]
    exact ⟨hcell ⟨j, hj'⟩, hG.frozen j⟩
  have hcmp : CmpReads Try.prog 73 #[] enc setCf g 0 setsD.size wr := fun m os dk hdk x y => by
    obtain ⟨A, c, e1, r1, f1⟩ := hel x
    obtain ⟨B, d, e2, r2, f2⟩ := hel y
    have hmove : ∀ b, b ≠ g → b < wr.heap.size → b < (sortWorld enc wr g 0 m dk os).heap.size ∧ ∀ i, (sortWorld enc wr g 0 m dk os).cell? ⟨b, i, none⟩ = wr.cell? ⟨b, i, none⟩ := fun b hb hl => by
      have hs : (putRow enc (Sort.ahead wr m) g 0 dk).heap.size = wr.heap.size := by rw [size_putRow]; rfl
      refine ⟨?_, fun i => ?_⟩
      · show b < ((putRow enc (Sort.ahead wr m) g 0 dk).heap ++ os).size
        rw [Array.size_append, hs]; omega
      · unfold sortWorld
        rw [cell?_grow _ _ _ (by show b < _; rw [hs]; exact hl), cell?_putRow_other _ _ _ _ _ _ (.inl hb)]
        rfl
    have hl1 := stkL_len x.1 4
    have hl2 := stkL_len y.1 4
    rw [e1, e2]
    refine (scmp_any A B c d (stkL x.1 4) (stkL y.1 4) _ (r1.carry fun b o hn hA => hmove b (f1 b o hn hA).1 (f1 b o hn hA).2) (r2.carry fun b o hn hA => hmove b (f2 b o hn hA).1 (f2 b o hn hA).2) hl1 hl2).mono ?_
    rintro e w' ⟨rfl, rfl⟩
    exact ⟨rfl, 0, rfl⟩
  refine ⟨g, cap, by rw [hxl], ?_⟩
  rw [hxl]
  refine (ssort_any enc hO setCf g cap setsD rfl wr hcmp hH).mono ?_
  rintro e w' ⟨rfl, n, rfl⟩
  rw [sets_sorted]
  refine ⟨rfl, g, cap, rfl, ?_, fun j hj => ?_, ?_⟩
  · show g < (putRow enc wr g 0 setsO).heap.size
    rw [size_putRow]; exact hG.lt
  · obtain ⟨A, c, e1, r1, f1⟩ := hel (setsO.getD j 0)
    have hget : ∀ j : Fin 16, setsO[j.1]! = setsO.getD j.1 0 := by decide
    have hcj := cell?_putRow enc wr g 0 setsD setsO hH rfl j hj
    have e := hget ⟨j, hj⟩
    dsimp only at e
    rw [e, e1, Nat.zero_add] at hcj
    refine ⟨A, c, hcj, r1.carry fun b o hn hA => ⟨?_, fun i => ?_⟩⟩
    · show b < (putRow enc wr g 0 setsO).heap.size
      rw [size_putRow]; exact (f1 b o hn hA).2
    · exact cell?_putRow_other _ _ _ _ _ _ (.inl (f1 b o hn hA).1)
  · refine ⟨HB.os, HB.tape, HB.output, ?_, fun i hi => ?_⟩
    · show w.heap.size ≤ (putRow enc wr g 0 setsO).heap.size
      rw [size_putRow]; exact HB.size
    · rw [← HB.block i hi]
      show (wr.heap.modify g _)[i]? = _
      rw [Array.getElem?_modify, if_neg (by omega)]
set_option maxRecDepth 100000 in
set_option maxHeartbeats 1000000 in
theorem stacks_any (w : World) : Calls Try.prog 39 #[] w (StacksPost w) := by
  go_enter Try.func39, Try.ntmps39
  go_wp2_with fail
  go_loopw [1, 5] (fun v i wr => ∃ s : Nat, s ≤ 16 ∧ i = .int .i64 s ∧ SetsSt w s v wr) (fun _ i _ => 16 - (intOf i).toNat)
  case atStart => exact ⟨0, Nat.zero_le _, rfl, [], rfl, ⟨rfl, .inl ⟨rfl, rfl⟩⟩, fun j hj => absurd hj (by omega), Below.refl _ _⟩
  case round =>
    obtain ⟨s, hs, rfl, hst⟩ := hrel
    by_cases hsl : s < 16
    · have hz1 : decide ((s : Int) < 16) = true := by simp; omega
      go_wp2_with fail
      clear hz1
      obtain ⟨wo, rfl⟩ : ∃ wo : World, wo = wr := ⟨_, rfl⟩
      go_loopw [3, 8] (fun v i wr => ∃ k : Nat, k ≤ 4 ∧ i = .int .i64 k ∧ Own wr wo.heap.size 3 .i64 v (stkL s k) ∧ Below wo.heap.size wo wr) (fun _ i _ => 4 - (intOf i).toNat)
      case atStart => exact ⟨0, Nat.zero_le _, rfl, Own.none_ _ _ _ _, Below.refl _ _⟩
      case round =>
        obtain ⟨k, hk, rfl, hown, hb⟩ := hrel
        by_cases hkl : k < 4
        · have hbit := bit_of s k hsl
          by_cases hodd : s / 2 ^ k % 2 = 1
          · rw [hodd] at hbit
            have HO := Lib.hid hodd
            clear hodd
            go_wp2_with (at_builtin; refine wl_app (W := wr) wo.heap.size rfl _ _ 42 3 .i64 8 rfl Try.underlying42 infoInt u3 (stkL s k) k rfl rfl hown hb.size (by have := stkL_len s k; omega) (by have := stkL_len s k; omega) ?_; intro v1 w9 hown1 hgrow hloc)
            go_roundw
            case rel => exact ⟨k + 1, by omega, by go_num, by rw [stkL_yes HO.out]; exact hown1, ext_grown hb hgrow hb.size hown (Nat.le_refl _)⟩
            case measure => simp [intOf]; omega
          · have h0 : s / 2 ^ k % 2 = 0 := by omega
            rw [h0] at hbit
            have HO := Lib.hid hodd
            clear hodd h0
            go_wp2_with fail
            go_roundw
            case rel => exact ⟨k + 1, by omega, by go_num, by rw [stkL_no HO.out]; exact hown, hb⟩
            case measure => simp [intOf]; omega
        · have hk4 : k = 4 := by omega
          subst hk4
          obtain ⟨xs, hxl, hov, hall, HB⟩ := hst
          obtain ⟨A1, c1, rfl, -⟩ := hown.ri
          go_wp2_with (at_builtin; refine wl_appV (W := wr) w.heap.size rfl _ _ 71 42 (.slice none 0 0) 24 rfl Try.underlying71 infoInts rfl u1 xs (.slice A1 (stkL s 4).length c1) rfl rfl rfl (hov.ext hb) (Nat.le_trans HB.size hb.size) (by omega) (by omega) ?_; intro v1 w9 hown1 hgrow)
          go_roundw
          case rel =>
            refine ⟨s + 1, by omega, by go_num, xs ++ [.slice A1 (stkL s 4).length c1], by simp [hxl], hown1, fun j hj => ?_, ?_⟩
            · have hov' := hov.ext hb
              rcases Nat.lt_or_ge j s with hj' | hj'
              · rw [List.getD_eq_getElem?_getD, List.getElem?_append_left (by omega), ← List.getD_eq_getElem?_getD]
                have h1 := (hall j hj').ext hb
                exact h1.kept hgrow (h1.apart hov' (by decide))
              · have hjs : j = s := by omega
                subst hjs
                rw [List.getD_eq_getElem?_getD, List.getElem?_append_right (by omega), hxl, Nat.sub_self]
                exact (hown.lower HB.size).kept hgrow (hown.apart hov' (by decide))
            · exact (ext_then HB hb).grown hgrow (Nat.le_trans HB.size hb.size) (fun j hj => (hov.ext hb).base_le hj)
          case measure => simp [intOf]; omega
    · have hs16 : s = 16 := by omega
      subst hs16
      obtain ⟨g, cap, rfl, hc⟩ := sets_sort hst
      have HC := Lib.hid hc
      clear hc hst
      go_wp2_with fail
      refine HC.out.mono ?_
      rintro e w' ⟨rfl, hpost⟩
      have HP := Lib.hid hpost
      clear hpost
      go_wp2_with fail
      go_ret
      exact HP.out
end Go.Proofs.Ytlhhihdfcbkmmaa
