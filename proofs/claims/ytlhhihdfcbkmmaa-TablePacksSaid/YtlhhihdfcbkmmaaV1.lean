/- slices.Sort at uint32: words for its rows; math/bits.Len (off the shelf's template); cmp.Less; slices.insertionSortOrdered. -/
import Derived.Test.YtlhhihdfcbkmmaaK3
import Derived.Test.YtlhhihdfcbkmmaaP6
import Derived.Lib.Strings
import Derived.Lib.Slices
import Derived.Lib.Small
import Derived.Lib.Walk
import Derived.Lib.BitFns
import Derived.Sort.LotD4
set_option linter.unusedVariables false
set_option linter.unusedSimpArgs false
namespace Go.Proofs.Ytlhhihdfcbkmmaa
open Go.RowKit
open Go.Sort (swp insInner insOuter insertionSort ltInt)
/-- Block g is the row d, and what lies behind it. -/
def SU (w : World) (g : Nat) (rest : Array Value) (d : Array Int) : Prop := Blk w g 40 (d.map (Value.int .u32) ++ rest)
section
variable {w w' : World} {g : Nat} {rest : Array Value} {d : Array Int}
theorem SU.cell (h : SU w g rest d) {j : Nat} (hj : j < d.size) : w.cell? ⟨g, j, none⟩ = some (.int .u32 d[j]!) := by
  rw [Blk.cell h j, Array.getElem?_append_left (by simpa using hj)]
  simp [hj]
theorem SU.frozen (h : SU w g rest d) (j : Nat) : w.frozen? ⟨g, j, none⟩ = false := Blk.frozen h j
theorem SU.set (h : SU w g rest d) {j : Nat} (hj : j < d.size) (x : Int) : SU (w.setCell ⟨g, j, none⟩ (.int .u32 x)) g rest (d.setIfInBounds j x) := by
  have e := Blk.set_ h j (.int .u32 x)
  have e2 : (d.map (Value.int .u32) ++ rest).setIfInBounds j (.int .u32 x) = (d.setIfInBounds j x).map (Value.int .u32) ++ rest := by
    apply Array.ext'
    simp [List.set_append, hj]
  rw [e2] at e
  exact e
theorem SU.ext (h : SU w g rest d) (hb : Below w.heap.size w w') : SU w' g rest d := Blk.ext h hb
theorem SU.drew (h : SU w g rest d) : SU w.drew g rest d := h
theorem SU.drewN (h : SU w g rest d) (n : Nat) : SU (w.drewN n) g rest d := h
theorem SU.lt (h : SU w g rest d) : g < w.heap.size := Blk.lt h
theorem SU.cellAfter (h : SU w g rest d) {i j : Nat} (hi : i < d.size) (hj : j < d.size) (x : Int) : ∃ u, (w.setCell ⟨g, i, none⟩ (.int .u32 x)).cell? ⟨g, j, none⟩ = some u :=
  ⟨_, (h.set hi x).cell (by simpa using hj)⟩
end
/-- Nothing but the row has turned. -/
def Grn (w : World) (g : Nat) (w' : World) : Prop := w.grownBy w' (some g)
theorem Grn.refl (w : World) (g : Nat) : Grn w g w := ⟨rfl, rfl, rfl, Nat.le_refl _, fun _ _ _ => rfl⟩
theorem Grn.trans {w w1 w2 : World} {g : Nat} (h : Grn w g w1) (k : Grn w1 g w2) : Grn w g w2 :=
  ⟨k.os.trans h.os, k.tape.trans h.tape, k.output.trans h.output, Nat.le_trans h.size k.size, fun i hi hne => (k.block i (Nat.lt_of_lt_of_le hi h.size) hne).trans (h.block i hi hne)⟩
theorem Grn.set {w w1 : World} {g : Nat} (h : Grn w g w1) (j : Nat) (v : Value) : Grn w g (w1.setCell ⟨g, j, none⟩ v) :=
  h.trans ⟨rfl, rfl, rfl, by rw [size_set]; exact Nat.le_refl _, fun i _ hne => Below.heap_setCell w1 _ v i (by rintro rfl; exact hne rfl)⟩
theorem Grn.ext {w w1 w2 : World} {g : Nat} (h : Grn w g w1) (hb : Below w1.heap.size w1 w2) : Grn w g w2 :=
  h.trans ⟨hb.os, hb.tape, hb.output, hb.size, fun i hi _ => hb.block i hi⟩
theorem Grn.drew {w w1 : World} {g : Nat} (h : Grn w g w1) : Grn w g w1.drew := h.trans ⟨rfl, rfl, rfl, Nat.le_refl _, fun _ _ _ => rfl⟩
theorem Grn.below {w w1 : World} {g B : Nat} (h : Grn w g w1) {w0 : World} (h0 : Below B w0 w) (hB : B ≤ w.heap.size) (hg : B ≤ g) : Below B w0 w1 := h0.grown h hB (fun j e => by cases e; exact hg)
/-- The row was sorted so far. -/
structure Srt (w : World) (g : Nat) (rest : Array Value) (d : Array Int) (w' : World) : Prop where
  su : SU w' g rest d
  gr : Grn w g w'
theorem Srt.keep (w : World) (g : Nat) (rest : Array Value) (d : Array Int) : Keep (Srt w g rest d) := fun w1 w2 h hb => ⟨h.su.ext hb, h.gr.ext hb⟩
theorem Srt.set {w w' : World} {g : Nat} {rest : Array Value} {d : Array Int} (h : Srt w g rest d w') {j : Nat} (hj : j < d.size) (x : Int) : Srt w g rest (d.setIfInBounds j x) (w'.setCell ⟨g, j, none⟩ (.int .u32 x)) := ⟨h.su.set hj x, h.gr.set j _⟩
theorem Srt.drew {w w' : World} {g : Nat} {rest : Array Value} {d : Array Int} (h : Srt w g rest d w') : Srt w g rest d w'.drew := ⟨h.su, h.gr.drew⟩
theorem Srt.swap {w w' : World} {g : Nat} {rest : Array Value} {d : Array Int} (h : Srt w g rest d w') {i j : Nat} (hi : i < d.size) (hj : j < d.size) :
    Srt w g rest (swp d i j) (((w'.setCell ⟨g, i, none⟩ (.int .u32 d[j]!)).setCell ⟨g, j, none⟩ (.int .u32 d[i]!)).drew) := by
  have := (h.set hi d[j]!).set (j := j) (by simpa using hj) d[i]!
  exact this.drew
theorem isnan_any (x : Int) (w : World) : Calls Try.prog 142 #[.int .u32 x] w fun e w' => e = .returned (.bool false) ∧ w = w' := by
  go_enter Try.func142, Try.ntmps142
  go_wp2
  go_ret
  exact ⟨by simp, rfl⟩
theorem less_any (x y : Int) (w : World) : Calls Try.prog 111 #[.int .u32 x, .int .u32 y] w fun e w' => e = .returned (.bool (ltInt x y)) ∧ w = w' := by
  go_enter Try.func111, Try.ntmps111
  go_wp2_with (go_at_call 142; refine (isnan_any _ _).mono ?_; rintro e w' ⟨rfl, rfl⟩)
  go_ret
  exact ⟨rfl, rfl⟩
theorem insInner_go' (a j : Nat) (d : Array Int) (hj : a < j + 1) (hl : ltInt d[j + 1]! d[j]! = true) : insInner ltInt a (j + 1) d = insInner ltInt a j (swp d (j + 1) j) := by
  rw [insInner, if_pos (by simp [hl]; omega)]
theorem insInner_end (a j : Nat) (d : Array Int) (h : ¬ a < j ∨ ltInt d[j]! d[j - 1]! = false) : insInner ltInt a j d = d := by
  cases j with
  | zero => rfl
  | succ j =>
    rw [insInner, if_neg]
    rcases h with h | h
    · simp; omega
    · rw [show j + 1 - 1 = j by omega] at h; simp [h]
theorem insOuter_go' (a b i : Nat) (d : Array Int) (h : i < b) : insOuter ltInt a b i d = insOuter ltInt a b (i + 1) (insInner ltInt a i d) := by rw [insOuter, if_pos h]
theorem insOuter_end (a b i : Nat) (d : Array Int) (h : ¬ i < b) : insOuter ltInt a b i d = d := by rw [insOuter, if_neg h]
theorem size_swp' (d : Array Int) (i j : Nat) : (swp d i j).size = d.size := by simp [swp]
set_option maxHeartbeats 4000000 in
set_option maxRecDepth 100000 in
theorem insertion_any (g cap a b : Nat) (rest : Array Value) (d : Array Int) (w0 w : World) (h : Srt w0 g rest d w) (hab : a ≤ b) (hb : b ≤ d.size) (hsz : d.size < 4611686018427387904) :
    Calls Try.prog 105 #[.slice (some ⟨g, 0, none⟩) d.size cap, .int .i64 a, .int .i64 b] w fun e w' => e = .returned (.tuple #[]) ∧ Srt w0 g rest (insertionSort ltInt d a b) w' := by
  go_enter Try.func105, Try.ntmps105
  go_wp2_with fail
  go_loopw [6] (fun iv wr => ∃ (i : Nat) (dk : Array Int), iv = .int .i64 i ∧ a < i ∧ i ≤ b + 1 ∧ dk.size = d.size ∧ Srt w0 g rest dk wr ∧ Hid (insOuter ltInt a b i dk = insOuter ltInt a b (a + 1) d)) (fun iv _ => b + 1 - (intOf iv).toNat)
  case atStart => exact ⟨a + 1, d, by go_num, by omega, by omega, rfl, h, Lib.hid rfl⟩
  case round =>
    clear h
    obtain ⟨i, dk, rfl, hai, hib, hsk, h, HO⟩ := hrel
    by_cases hlt : i < b
    · go_wp2_with fail
      obtain ⟨wo, rfl⟩ : ∃ wo : World, wo = wr := ⟨_, rfl⟩
      go_loopw [7] (fun jv wr => ∃ (j : Nat) (dj : Array Int), jv = .int .i64 j ∧ a ≤ j ∧ j ≤ i ∧ dj.size = d.size ∧ Srt w0 g rest dj wr ∧ Hid (insInner ltInt a j dj = insInner ltInt a i dk)) (fun jv _ => (intOf jv).toNat)
      case atStart => exact ⟨i, dk, rfl, by omega, by omega, hsk, h, Lib.hid rfl⟩
      case round =>
        clear h
        obtain ⟨j, dj, rfl, haj, hji, hsj, h, HI⟩ := hrel
        have hout : insInner ltInt a j dj = dj → insOuter ltInt a b (i + 1) dj = insOuter ltInt a b (a + 1) d := fun e => by
          rw [← HO.out, insOuter_go' _ _ _ _ hlt, ← HI.out, e]
        have HOUT := Lib.hid hout
        clear hout
        by_cases hja : a < j
        · obtain ⟨jp, rfl⟩ : ∃ jp, j = jp + 1 := ⟨j - 1, by omega⟩
          have hz1 : ((jp + 1 : Nat) : Int) = (jp : Int) + 1 := by omega
          rw [hz1]
          have hjd : decide ((a : Int) < (jp : Int) + 1) = true := by simp; omega
          have ea : ((jp : Int) + 1).toNat = jp + 1 := by omega
          have pa : (0 : Int) ≤ (jp : Int) + 1 := by omega
          have ba : (jp : Int) + 1 < (d.size : Int) := by omega
          have bc : (jp : Int) < (d.size : Int) := by omega
          have ra : IntKind.i64.wrap ((jp : Int) + 1 - 1) = (jp : Int) := by rw [show (jp : Int) + 1 - 1 = jp by omega]; exact wrapIn (by omega) (by omega)
          have rc : IntKind.i64.wrap (jp : Int) = (jp : Int) := wrapIn (by omega) (by omega)
          have hI : jp + 1 < dj.size := by omega
          have hJ : jp < dj.size := by omega
          obtain ⟨x, hx⟩ : ∃ x, x = dj[jp + 1]! := ⟨_, rfl⟩
          obtain ⟨y, hy⟩ : ∃ y, y = dj[jp]! := ⟨_, rfl⟩
          have hlv : ltInt dj[jp + 1]! dj[jp]! = ltInt x y := by rw [hx, hy]
          have HLV := Lib.hid (And.intro hlv (And.intro hx hy))
          clear hlv hx hy
          go_wp2_with fail
          refine wp_region_k (S := Srt w0 g rest dj) h (Srt.keep _ _ _ _)
            14 (fun | 13 => some (fun _ u _ => u = .bool (ltInt x y)) | _ => none) (by rintro k b h vs u w w' hb hx; dsimp only at h; split at h <;> first | (cases h; exact hb) | (cases h; obtain ⟨g, e, hb, hl⟩ := hb; exact ⟨g, e, hb.ext hx, hl⟩) | cases h) (by kernel_rfl) (by kernel_rfl) ?_
          clear h
          rintro w7 h
          simp only [List.take_succ_cons, List.take_zero, List.drop_succ_cons, List.drop_zero]
          have c1 := ExtOf.cell (h.su.cell hI); have c2 := ExtOf.cell (h.su.cell hJ)
          rw [← HLV.out.2.1] at c1
          rw [← HLV.out.2.2] at c2
          repeat (refine free_q (by rfl) (fun K hK => ?_); go_simp; refine hK _ ?_; clear hK K)
          refine free_c (by rfl) 111 #[.int .u32 x, .int .u32 y] (by rfl) (fun w => by go_simp) (fun δ _ => (less_any x y _).mono (by rintro e w' ⟨rfl, rfl⟩; exact ⟨_, rfl, Below.refl _ _, rfl⟩)) (fun v δ _ hv => ?_)
          obtain rfl := hv
          (try dsimp only [Act.put, List.setIfInBounds_toArray, List.set_cons_zero, List.set_cons_succ])
          repeat (refine free_q (by rfl) (fun K hK => ?_); go_simp; refine hK _ ?_; clear hK K)
          refine free_nil ?_
          rintro w8 h' - -
          clear h c1 c2
          cases hl : ltInt x y
          · go_wp2_with fail
            go_roundw
            case rel => exact ⟨i + 1, dj, by go_num, by omega, by omega, hsj, h', Lib.hid (HOUT.out (insInner_end _ _ _ (.inr (by rw [show jp + 1 - 1 = jp by omega, HLV.out.1, hl]))))⟩
            case measure => simp [intOf]; omega
          · have c1 := h'.su.cell hI; have c2 := h'.su.cell hJ
            have f1 := h'.su.frozen (jp + 1); have f2 := h'.su.frozen jp
            obtain ⟨u, c3⟩ := h'.su.cellAfter hI hJ y
            have hS := h'.swap hI hJ
            rw [← HLV.out.2.1] at c1 hS
            rw [← HLV.out.2.2] at c2 hS
            go_wp2_with fail
            go_big_region
            clear c1 c2 c3 f1 f2
            generalize ((w8.setCell ⟨g, jp + 1, none⟩ (.int .u32 y)).setCell ⟨g, jp, none⟩ (.int .u32 x)).drew = w9 at *
            go_wp2_with fail
            go_roundw
            case rel => exact ⟨jp, swp dj (jp + 1) jp, by go_num, by omega, by omega, by rw [size_swp']; exact hsj, hS, Lib.hid (by rw [← HI.out, insInner_go' _ _ _ hja (by rw [HLV.out.1, hl])])⟩
            case measure => simp [intOf] <;> omega
        · have hjd : decide ((a : Int) < (j : Int)) = false := by simp; omega
          go_wp2_with fail
          refine wp_region_k (S := Srt w0 g rest dj) h (Srt.keep _ _ _ _)
            14 (fun _ => none) (by rintro k b h; cases h) (by kernel_rfl) (by kernel_rfl) ?_
          clear h
          rintro w7 -
          simp only [List.take_succ_cons, List.take_zero, List.drop_succ_cons, List.drop_zero]
          repeat (first
            | (refine free_q (by rfl) (fun K hK => ?_); go_simp; refine hK _ ?_; clear hK K)
            | (refine free_off ?_ ?_; (focus (first | rfl | go_simp)); dsimp only [Act.put, List.setIfInBounds_toArray, List.set_cons_zero, List.set_cons_succ]))
          refine free_nil ?_
          rintro w8 h' - -
          go_wp2_with fail
          go_roundw
          case rel => exact ⟨i + 1, dj, by go_num, by omega, by omega, hsj, h', Lib.hid (HOUT.out (insInner_end _ _ _ (.inl hja)))⟩
          case measure => simp [intOf]; omega
    · go_wp2_with fail
      go_end0
      refine ⟨rfl, ?_⟩
      have : insertionSort ltInt d a b = dk := by
        show insOuter ltInt a b (a + 1) d = dk
        rw [← HO.out, insOuter_end _ _ _ _ hlt]
      rw [this]
      exact h
end Go.Proofs.Ytlhhihdfcbkmmaa
