/- slices.Sort at uint32 sorts at most twelve; the answers of layer 16. -/
import Derived.Test.YtlhhihdfcbkmmaaV3
import Derived.Test.YtlhhihdfcbkmmaaU4
import Derived.Sort.AssemblyPlain
set_option linter.unusedVariables false
set_option linter.unusedSimpArgs false
namespace Go.Proofs.Ytlhhihdfcbkmmaa
open Go.RowKit
open Go.Sort (insertionSort ltInt)
theorem swo_lt : Go.Sort.SWO ltInt := ⟨fun x => by simp [ltInt], fun x y z h1 h2 => by simp [ltInt] at *; omega, fun x y z h1 h2 => by simp [ltInt] at *; omega⟩
theorem perm_of_in {d d' : Array Int} (h : Go.Sort.PermIn 0 d.size d d') : d'.toList.Perm d.toList := by
  have := h.2.2
  rw [Array.extract_eq_self_of_le (by rw [h.1]; exact Nat.le_refl _), Array.extract_eq_self_of_le (Nat.le_refl _)] at this
  exact this
theorem sorted_of_in {d : Array Int} (h : Go.Sort.SortedIn ltInt 0 d.size d) : d.toList.Pairwise (fun x y => x ≤ y) := by
  rw [List.pairwise_iff_getElem]
  intro i j hi hj hij
  have := h i j (by omega) hij (by simpa using hj)
  have hi' : i < d.size := by simpa using hi
  have hj' : j < d.size := by simpa using hj
  simp [ltInt, hi', hj'] at this
  simpa using this
theorem sortsAt_small {n : Nat} (h : n ≤ 12) : SortsAt n := fun g cap rest d w0 w hd hS => by
  subst hd
  refine (sort_small g cap rest d w0 w hS h).mono ?_
  rintro e w' ⟨rfl, h'⟩
  obtain ⟨hp, hs⟩ := Go.Sort.insertionSort_holds (lt := ltInt) swo_lt d 0 d.size (Nat.zero_le _) (Nat.le_refl _)
  refine ⟨rfl, _, h', perm_of_in hp, sorted_of_in ?_⟩
  rw [hp.1]
  exact hs
end Go.Proofs.Ytlhhihdfcbkmmaa
