import Derived.Test.YtlhhihdfcbkmmaaG1
import Derived.Lib.LazyBuf
set_option linter.unusedVariables false
set_option linter.unusedSimpArgs false
namespace Go.Proofs.Ytlhhihdfcbkmmaa
open Go.RowKit
/-- A row of pixels does not lie in a block that holds none. -/
theorem RI.apart {w : World} {A : Option Addr} {c : Nat} {xs : List Int} {g : Nat} {t : TypeId} {cs : Array Value} (h : RI .u32 w A c xs) (d : Blk w g t cs) (hcs : ∀ (i : Nat) (x : Int), cs[i]? ≠ some (Value.int .u32 x)) :
    ∀ b o, 0 < xs.length → A = some ⟨b, o, none⟩ → b ≠ g := by
  rintro b o hn rfl rfl
  obtain ⟨b', o', e, hb, hc⟩ := h.at_ hn
  injection e with e
  injection e with e1 e2
  subst e1; subst e2
  have := hc 0 hn
  rw [d.cell] at this
  exact hcs _ _ this
theorem RI.setCell {w : World} {k : IntKind} {A : Option Addr} {c : Nat} {xs : List Int} {g : Nat} (h : RI k w A c xs) (hne : ∀ b o, 0 < xs.length → A = some ⟨b, o, none⟩ → b ≠ g) (i : Nat) (u : Value) : RI k (w.setCell ⟨g, i, none⟩ u) A c xs :=
  ⟨h.le, h.top, fun hn => by
    obtain ⟨b, o, rfl, hb, hc⟩ := h.at_ hn
    refine ⟨b, o, rfl, by rw [size_set]; exact hb, fun j hj => ?_⟩
    rw [← hc j hj]
    have := Below.heap_setCell w ⟨g, i, none⟩ u b (hne b o hn rfl)
    simp only [World.cell?, this]⟩
/-- The end of a call that hands back an image: its result cell is written. -/
theorem img_end {w w1 : World} {g : Nat} {t : TypeId} {A : Option Addr} {c : Nat} {xs : List Int} (d : Blk w1 g t #[.int .i64 0, .int .i64 0, .slice none 0 0]) (HW : Below w.heap.size w w1) (hg : w.heap.size ≤ g) (hri : RI .u32 w1 A c xs) (W H : Int) (n : Nat) :
    ∃ w7 : World, ((w1.setCell ⟨g, 0, none⟩ (.int .i64 W)).setCell ⟨g, 1, none⟩ (.int .i64 H)).setCell ⟨g, 2, none⟩ (.slice A n c) = w7 ∧
      w7.cell? ⟨g, 0, none⟩ = some (.int .i64 W) ∧ w7.cell? ⟨g, 1, none⟩ = some (.int .i64 H) ∧ w7.cell? ⟨g, 2, none⟩ = some (.slice A n c) ∧ RI .u32 w7 A c xs ∧ Below w.heap.size w w7 := by
  have hne := hri.apart d (by intro i x; match i with | 0 => simp | 1 => simp | 2 => simp | n + 3 => simp)
  have g0 := ((d.set_ 0 (.int .i64 W)).set_ 1 (.int .i64 H)).set_ 2 (.slice A n c)
  refine ⟨_, rfl, by rw [g0.cell]; rfl, by rw [g0.cell]; rfl, by rw [g0.cell]; rfl, ((hri.setCell hne _ _).setCell hne _ _).setCell hne _ _, ?_⟩
  exact ext_set (ext_set (ext_set HW (p := ⟨g, 0, none⟩) hg _) (p := ⟨g, 1, none⟩) hg _) (p := ⟨g, 2, none⟩) hg _
theorem stack0 (A : Option Addr) (c : Nat) (w : World) : Calls Try.prog 96 #[.slice A 0 c] w fun e w' => e = .returned (.bool true) ∧ w = w' := by
  go_enter Try.func96, Try.ntmps96
  go_wp2
  refine wp_loop_rounds 2 ?_
  rw [rounds_succ]; go_wp2
  go_ret
  exact ⟨rfl, rfl⟩
theorem stack2 (b o c : Nat) (w : World) (h : w.cell? ⟨b, o, none⟩ = some (.int .i64 2)) : Calls Try.prog 96 #[.slice (some ⟨b, o, none⟩) 1 c] w fun e w' => e = .returned (.bool true) ∧ Below w.heap.size w w' := by
  go_enter Try.func96, Try.ntmps96
  go_wp2
  refine wp_loop_rounds 3 ?_
  rw [rounds_succ]; go_wp2
  rw [rounds_succ]; go_wp2
  go_ret
  exact ⟨rfl, Below.refl _ _⟩
theorem stack4 (b o c : Nat) (w : World) (h : w.cell? ⟨b, o, none⟩ = some (.int .i64 4)) : Calls Try.prog 96 #[.slice (some ⟨b, o, none⟩) 1 c] w fun e w' => e = .returned (.bool false) ∧ Below w.heap.size w w' := by
  go_enter Try.func96, Try.ntmps96
  go_wp2
  refine wp_loop_rounds 3 ?_
  rw [rounds_succ]; go_wp2
  go_ret
  exact ⟨rfl, Below.refl _ _⟩
theorem stack22 (b o c : Nat) (w : World) (h : w.cell? ⟨b, o, none⟩ = some (.int .i64 2)) (h1 : w.cell? ⟨b, o + 1, none⟩ = some (.int .i64 2)) : Calls Try.prog 96 #[.slice (some ⟨b, o, none⟩) 2 c] w fun e w' => e = .returned (.bool false) ∧ Below w.heap.size w w' := by
  go_enter Try.func96, Try.ntmps96
  go_wp2
  refine wp_loop_rounds 4 ?_
  rw [rounds_succ]; go_wp2
  rw [rounds_succ]; go_wp2
  go_ret
  exact ⟨rfl, Below.refl _ _⟩
set_option maxRecDepth 100000 in
set_option maxHeartbeats 400000 in
theorem clone_any (A : Option Addr) (c : Nat) (xs : List Int) (w : World) (hx : RI .u32 w A c xs) (hn : 0 < xs.length) (hm : xs.length ≤ 268435456) :
    Calls Try.prog 51 #[.slice A xs.length c] w fun e w' => ∃ B d, e = .returned (.slice B xs.length d) ∧ RI .u32 w' B d xs ∧ Below w.heap.size w w' := by
  obtain ⟨b, o, rfl, hb, hc⟩ := hx.at_ hn
  have HC := Lib.hid hc
  clear hc
  have hnil : ∀ w', (binOp .eql 22 (.slice (some ⟨b, o, none⟩) xs.length c) (.slice none 0 0)).run Try.prog w' = .ok (.bool false) w' := fun w' => run_eql_slice_nil w' _ _ _ _ _ Try.underlying22
  go_enter Try.func51, Try.ntmps51
  go_wp2_with (at_builtin; refine wl_apps w.heap.size rfl _ _ 22 40 .u32 4 rfl Try.underlying22 infoU32 (.slice (some ⟨w.heap.size, 0, none⟩) 0 0) [] xs b o c rfl rfl (fun j hj => ?_) ?_ ?_ (by simp; omega) (by simp; omega) ?_)
  · rw [cell_alloc_if, if_neg (by omega)]; exact HC.out j hj
  · exact ⟨by simp, .inr ⟨w.heap.size, 0, #[], rfl, Nat.le_refl _, Blk.new _ _ _, by simp, by simp [maxLen], by simp, by simp⟩⟩
  · rw [size_alloc]; omega
  · intro v1 w1 hown hg _ hloc
    obtain ⟨B, d, rfl, hri⟩ := hown.ri
    have HB := Lib.hid (show Below w.heap.size w w1 from (ext_alloc (Below.refl _ _) _).grown hg (by rw [size_alloc]; omega) (fun j hj => by simp [Value.ownBlock] at hj; omega))
    clear hown hg hloc
    go_wp2_with fail
    go_ret
    exact ⟨B, d, rfl, hri, HB.out⟩
set_option maxHeartbeats 400000 in
theorem gforth_ok (W H : Int) (A : Option Addr) (c : Nat) (ps : List Int) (w : World) (hps : RI .u32 w A c ps) (hpx : ∀ x ∈ ps, IsPx x) (hg : goodB W H ps.length = true) :
    Calls Try.prog 131 #[.agg #[.int .i64 W, .int .i64 H, .slice A ps.length c]] w (RetImg ⟨W, H, ps.map greenP⟩ (.int .i64 0) w) := by
  go_enter Try.func131, Try.ntmps131
  have hb : Below w.heap.size w ((w.alloc (.cells #[.int .i64 W, .int .i64 H, .slice A ps.length c] 24)).alloc (.cells #[.int .i64 0, .int .i64 0, .slice none 0 0] 24)) := ext_alloc (ext_alloc (Below.refl _ _) _) _
  have hps' := hps.mono hb
  go_wp2_with fail
  refine (gturn_ok W H A c ps _ hps' hpx hg).mono ?_
  rintro e w1 ⟨A1, c1, rfl, hri, hb1⟩
  have d2 : Blk w1 (w.heap.size + 1) 24 #[.int .i64 0, .int .i64 0, .slice none 0 0] := (Blk.new' (by simp only [size_alloc]) _ _).ext hb1
  have HW := ext_then hb hb1
  clear hb hb1 hps'
  have e2 := d2.cell
  have f2 := d2.frozen
  go_wp2_with fail
  obtain ⟨w7, e7, k0, k1, k2, r7, h7⟩ := img_end d2 HW (by omega) hri W H ps.length
  rw [e7]
  exact bodyPost_ret (v := .tuple #[.agg #[.int .i64 W, .int .i64 H, .slice A1 ps.length c1], .int .i64 0]) (by simp [results, Try.results131, go_sem, k0, k1, k2]) rfl ⟨A1, c1, by simp, r7, h7⟩
end Go.Proofs.Ytlhhihdfcbkmmaa
