import Derived.Test.YtlhhihdfcbkmmaaG6
set_option linter.unusedVariables false
set_option linter.unusedSimpArgs false
namespace Go.Proofs.Ytlhhihdfcbkmmaa
open Go.RowKit Go.Sort Go.Lib
def insF {α : Type} [Inhabited α] (lt : α → α → Bool) (a b : Nat) : Nat → Nat → Array α → Array α
  | 0, _, d => d
  | f + 1, i, d => if i < b then insF lt a b f (i + 1) (insInner lt a i d) else d
theorem insF_eq {α : Type} [Inhabited α] (lt : α → α → Bool) (a b : Nat) (f i : Nat) (d : Array α) (h : b ≤ i + f) : insOuter lt a b i d = insF lt a b f i d := by
  induction f generalizing i d with
  | zero => rw [insOuter_stop _ _ _ _ _ (by omega)]; rfl
  | succ f ih =>
    unfold insF
    by_cases hi : i < b
    · rw [insOuter_go _ _ _ _ _ hi, if_pos hi, ih _ _ (by omega)]
    · rw [insOuter_stop _ _ _ _ _ hi, if_neg hi]
def setsD : Array (Fin 16) := #[0, 1, 2, 3, 4, 5, 6, 7, 8, 9, 10, 11, 12, 13, 14, 15]
def setsO : Array (Fin 16) := #[0, 1, 2, 4, 8, 3, 5, 9, 6, 10, 12, 7, 11, 13, 14, 15]
def setCf (x y : Fin 16) : Int := shortI (stkL x.1 4) (stkL y.1 4)
theorem sets_sorted : Sort.insertionSort (ltOf setCf) setsD 0 16 = setsO := by
  unfold Sort.insertionSort
  rw [insF_eq _ 0 16 16 1 setsD (by omega)]
  decide +kernel
theorem setsD_at : ∀ j : Fin 16, setsD[j.1]! = j := by decide
theorem RI.carry {w w' : World} {k : IntKind} {A : Option Addr} {c : Nat} {xs : List Int} (h : RI k w A c xs)
    (hw : ∀ b o, 0 < xs.length → A = some ⟨b, o, none⟩ → b < w'.heap.size ∧ ∀ i, w'.cell? ⟨b, i, none⟩ = w.cell? ⟨b, i, none⟩) : RI k w' A c xs :=
  ⟨h.le, h.top, fun hn => by
    obtain ⟨b, o, rfl, hb, hc⟩ := h.at_ hn
    obtain ⟨h1, h2⟩ := hw b o hn rfl
    exact ⟨b, o, rfl, h1, fun j hj => (h2 _).trans (hc j hj)⟩⟩
/-- The block of a row of whole numbers is another than that of a row of rows. -/
theorem Own.far {w : World} {base : Nat} {e t : TypeId} {k : IntKind} {x : Value} {xs : List Int} {g : Nat} {cs : Array Value} (h : Own w base e k x xs) (hg : Blk w g t cs) (hne : e ≠ t) :
    ∃ A c, x = .slice A xs.length c ∧ RI k w A c xs ∧ ∀ b o, 0 < xs.length → A = some ⟨b, o, none⟩ → b ≠ g ∧ b < w.heap.size := by
  rcases h.2 with ⟨rfl, h0⟩ | ⟨g', cap, cur, rfl, _, hh, h1, h2, h3, h4⟩
  · obtain ⟨A, c, e1, e2⟩ := h.ri
    exact ⟨A, c, e1, e2, fun b o hn _ => absurd hn (by omega)⟩
  · obtain ⟨A, c, e1, e2⟩ := h.ri
    refine ⟨A, c, e1, e2, fun b o hn hA => ?_⟩
    subst hA
    injection e1 with e1 _ _
    injection e1 with e1
    injection e1 with e1 _ _
    subst e1
    exact ⟨Blk.ne_ (t := e) hh hg hne, (Array.getElem?_eq_some_iff.1 hh).1⟩
end Go.Proofs.Ytlhhihdfcbkmmaa
