/- Small words for rows: a slice of whole numbers that came in, as a list. -/
import Derived.Test.YtlhhihdfcbkmmaaK
import Derived.ProofKit
import Derived.OpenShut
set_option linter.unusedVariables false
set_option linter.unusedSimpArgs false
namespace Go.Proofs.Ytlhhihdfcbkmmaa
open Go.ChangeShapes Go.WideShapes Go.ChangeAt Go.RowKit
def IsRow (k : IntKind) (w : World) (a : Option Addr) (len cap : Nat) (zs : List Int) : Prop :=
  (a = none ∧ len = 0 ∧ cap = 0 ∧ zs = []) ∨
  ∃ x, a = some x ∧ len ≤ cap ∧ cap ≤ maxLen ∧ zs.length = cap ∧ (∀ i, i < zs.length → w.cell? (x.add i) = some (.int k (zs.getD i 0))) ∧ ∀ n ∈ zs, (Lit.int k n).wf = true
theorem IsRow.ri {k : IntKind} {w : World} {a : Option Addr} {len cap : Nat} {zs : List Int} (h : IsRow k w a len cap zs) :
    ∃ xs : List Int, xs.length = len ∧ RI k w a cap xs ∧ ∀ x ∈ xs, (Lit.int k x).wf = true := by
  rcases h with ⟨rfl, rfl, rfl, rfl⟩ | ⟨x, rfl, h1, h2, h3, h4, h5⟩
  · exact ⟨[], rfl, ⟨Nat.zero_le _, by omega, fun hn => absurd hn (by simp)⟩, fun x hx => by cases hx⟩
  · have hl : (zs.take len).length = len := by rw [List.length_take]; omega
    refine ⟨zs.take len, hl, ⟨by omega, by unfold maxLen at h2; omega, fun hn => ?_⟩, fun y hy => h5 y (List.mem_of_mem_take hy)⟩
    obtain ⟨b, o, rfl, hc⟩ := ints_at h4 (by omega)
    refine ⟨b, o, rfl, ?_, fun j hj => ?_⟩
    · have := hc 0 (by omega)
      exact World.block_lt_of_cell? _ _ this
    · rw [hl] at hj
      rw [hc j (by omega)]
      simp [List.getD_eq_getElem?_getD, List.getElem?_take, hj]
end Go.Proofs.Ytlhhihdfcbkmmaa
