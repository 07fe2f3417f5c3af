/- What table.numbers' map says: a colour is there just if it is in the table, with its first place. -/
import Derived.Test.YtlhhihdfcbkmmaaU1
import Derived.Test.YtlhhihdfcbkmmaaP7
set_option linter.unusedVariables false
set_option linter.unusedSimpArgs false
namespace Go.Proofs.Ytlhhihdfcbkmmaa
open Go.RowKit Go.Shelf
theorem num_isMap {H : Type} (xs : List PlaceP) : Maps.IsMap (numD (H := H) xs) := by
  have : ∀ (xs : List PlaceP) (D : DataW H), Maps.IsMap D → Maps.IsMap (xs.foldl (fun D x => D.put (.int .u32 x.1.2) (.lit (.int .i64 (x.1.1 : Int)))) D) := by
    intro xs
    induction xs with
    | nil => intro D h; exact h
    | cons x xs ih => intro D h; exact ih _ (h.put _ _)
  exact this xs _ Maps.isMap_empty
section
variable {H : Type} (ts : List Int) (hpx : ∀ x ∈ ts, IsPx x) (hl : ts.length ≤ 1000000)
theorem num_spec : ∀ (k : Nat), k ≤ ts.length → ∀ p : Int,
    (Maps.has (numD (H := H) (uptoP (backF ts hpx hl) k)) (.int .u32 p) = true ↔ ∃ i, ts.length - k ≤ i ∧ i < ts.length ∧ ts.getD i 0 = p) ∧
    ∀ i, ts.length - k ≤ i → i < ts.length → ts.getD i 0 = p → (∀ j, ts.length - k ≤ j → j < i → ts.getD j 0 ≠ p) → ∀ z, (numD (H := H) (uptoP (backF ts hpx hl) k)).atKey (.int .u32 p) z = .lit (.int .i64 (i : Int))
  | 0, _, p => by
    refine ⟨⟨fun h => ?_, fun ⟨i, h1, h2, _⟩ => by omega⟩, fun i h1 h2 _ _ => by omega⟩
    simp [uptoP, numD, Maps.has_eq] at h
  | k + 1, hk, p => by
    obtain ⟨ih1, ih2⟩ := num_spec k (by omega) p
    rw [uptoP_succ, numD_snoc]
    obtain ⟨q, hq⟩ : ∃ q, q = ts.length - 1 - k := ⟨_, rfl⟩
    have e1 : (backF ts hpx hl k).1.1 = q := by rw [hq]; rfl
    have e2 : (backF ts hpx hl k).1.2 = ts.getD q 0 := by rw [hq]; rfl
    rw [e1, e2]
    by_cases hp : p = ts.getD q 0
    · refine ⟨⟨fun _ => ⟨q, by omega, by omega, hp.symm⟩, fun _ => ?_⟩, fun i h1 h2 h3 h4 z => ?_⟩
      · rw [hp]; exact Maps.has_put_same (num_isMap _) (show WideAt.IsKeyLit (.int .u32 (ts.getD q 0)) from trivial) _
      · have : i = q := by
          rcases Nat.lt_or_ge q i with h | h
          · exact absurd hp.symm (h4 q (by omega) h)
          · omega
        subst this
        rw [hp]; exact Maps.atKey_put_same (num_isMap _) (show WideAt.IsKeyLit (.int .u32 (ts.getD i 0)) from trivial) _ _
    · have hne : (Lit.int .u32 p) ≠ .int .u32 (ts.getD q 0) := fun e => hp (by injection e)
      refine ⟨?_, fun i h1 h2 h3 h4 z => ?_⟩
      · rw [Maps.has_put_other hne, ih1]
        constructor
        · rintro ⟨i, a, b, c⟩; exact ⟨i, by omega, b, c⟩
        · rintro ⟨i, a, b, c⟩
          refine ⟨i, ?_, b, c⟩
          have : i ≠ q := by rintro rfl; exact hp c.symm
          omega
      · rw [Maps.atKey_put_other hne]
        have : i ≠ q := by rintro rfl; exact hp h3.symm
        exact ih2 i (by omega) h2 h3 (fun j hj1 hj2 => h4 j (by omega) hj2) z
theorem num_has (p : Int) : Maps.has (numD (H := H) (uptoP (backF ts hpx hl) ts.length)) (.int .u32 p) = decide (p ∈ ts) := by
  obtain ⟨h1, _⟩ := num_spec (H := H) ts hpx hl ts.length (Nat.le_refl _) p
  rw [Bool.eq_iff_iff, h1, decide_eq_true_eq]
  constructor
  · rintro ⟨i, _, hi, rfl⟩; exact getD_mem hi
  · intro h
    obtain ⟨i, hi, rfl⟩ := List.getElem_of_mem h
    exact ⟨i, by omega, hi, by rw [List.getD_eq_getElem?_getD, List.getElem?_eq_getElem hi]; rfl⟩
theorem num_at (p : Int) (h : p ∈ ts) (z : DataW H) : (numD (H := H) (uptoP (backF ts hpx hl) ts.length)).atKey (.int .u32 p) z = .lit (.int .i64 (idxN ts p : Int)) := by
  obtain ⟨_, h2⟩ := num_spec (H := H) ts hpx hl ts.length (Nat.le_refl _) p
  have hlt := idxN_lt h
  have hat : ts.getD (idxN ts p) 0 = p := by
    have h := List.findIdx_getElem (xs := ts) (p := (· == p)) (w := hlt)
    rw [List.getD_eq_getElem?_getD, List.getElem?_eq_getElem hlt]
    exact eq_of_beq h
  refine h2 _ (by omega) hlt hat (fun j _ hj => ?_) z
  have := List.not_of_lt_findIdx (xs := ts) (p := (· == p)) hj
  rw [List.getD_eq_getElem?_getD, List.getElem?_eq_getElem (by omega)]
  simpa using this
end
theorem numbers_any (b off cap : Nat) (ts : List Int) (hpx : ∀ x ∈ ts, IsPx x) (hl : ts.length ≤ 1000000) (w : World) (hb : b < w.heap.size) (hI : ∀ j, j < ts.length → w.cell? ⟨b, off + j, none⟩ = some (.int .u32 (ts.getD j 0))) :
    Calls Try.prog 43 #[.slice (some ⟨b, off, none⟩) ts.length cap] w fun e W' => e = .returned (.map (some w.heap.size)) ∧ W'.ownsMap Try.prog 40 (plainElem (H := Unit) Try.prog 3) w.heap.size ts.length (numD (uptoP (backF ts hpx hl) ts.length)) ∧ Below w.heap.size w W' :=
  callsIn_wide.1 (numbers_in (H := Unit) Fence.wide 3 trivial trivial trivial rfl (by omega) b off cap ts hpx hl w hb hI)
theorem owns_ext {P : Program} {k : TypeId} {R : Value → Option (DataW Unit × List MemPlace)} {w w' : World} {b n : Nat} {D : DataW Unit} (h : w.ownsMap P k R b n D) (hb : Below w.heap.size w w') : w'.ownsMap P k R b n D :=
  h.kept (row := none) ⟨hb.os, hb.tape, hb.output, hb.size, fun i hi _ => hb.block i hi⟩ (by simp)
end Go.Proofs.Ytlhhihdfcbkmmaa
