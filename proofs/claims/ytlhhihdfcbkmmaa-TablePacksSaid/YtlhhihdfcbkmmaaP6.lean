/- All colours of a picture, rising: no program in sight. -/
import Derived.Test.YtlhhihdfcbkmmaaP5
set_option linter.unusedVariables false
set_option linter.unusedSimpArgs false
namespace Go.Proofs.Ytlhhihdfcbkmmaa
open Go.RowKit
/-- p is laid into a rising list. -/
def insI (p : Int) : List Int → List Int
  | [] => [p]
  | x :: l => if x < p then x :: insI p l else if x = p then x :: l else p :: x :: l
theorem mem_insI {p q : Int} : ∀ {l : List Int}, q ∈ insI p l ↔ q = p ∨ q ∈ l
  | [] => by simp [insI]
  | x :: l => by
    unfold insI
    split
    · rw [List.mem_cons, mem_insI, List.mem_cons]
      constructor
      · rintro (h | h | h)
        · exact .inr (.inl h)
        · exact .inl h
        · exact .inr (.inr h)
      · rintro (h | h | h)
        · exact .inr (.inl h)
        · exact .inl h
        · exact .inr (.inr h)
    · split
      · rename_i h
        subst h
        simp
      · simp
theorem insI_rising {p : Int} : ∀ {l : List Int}, l.Pairwise (· < ·) → (insI p l).Pairwise (· < ·)
  | [], _ => by simp [insI]
  | x :: l, h => by
    obtain ⟨h1, h2⟩ := List.pairwise_cons.1 h
    unfold insI
    split
    · rename_i hx
      refine List.pairwise_cons.2 ⟨fun q hq => ?_, insI_rising h2⟩
      rcases mem_insI.1 hq with rfl | hq
      · exact hx
      · exact h1 q hq
    · split
      · exact h
      · rename_i ha hb
        refine List.pairwise_cons.2 ⟨fun q hq => ?_, h⟩
        rcases List.mem_cons.1 hq with rfl | hq
        · omega
        · have := h1 q hq; omega
theorem insI_length {p : Int} : ∀ {l : List Int}, l.Pairwise (· < ·) → (insI p l).length = if p ∈ l then l.length else l.length + 1
  | [], _ => by simp [insI]
  | x :: l, h => by
    obtain ⟨h1, h2⟩ := List.pairwise_cons.1 h
    unfold insI
    split
    · rename_i hx
      rw [List.length_cons, insI_length h2, List.length_cons]
      have hne : p ≠ x := by omega
      by_cases hm : p ∈ l
      · rw [if_pos hm, if_pos (List.mem_cons_of_mem _ hm)]
      · rw [if_neg hm, if_neg (by simp [hne, hm])]
    · split
      · rename_i h'
        subst h'
        simp
      · rename_i ha hb
        have hm : p ∉ x :: l := by
          intro hm
          rcases List.mem_cons.1 hm with h' | h'
          · omega
          · have := h1 p h'; omega
        rw [if_neg hm]
        simp
theorem insI_split {p : Int} : ∀ {l : List Int} {k : Nat}, k ≤ l.length → (∀ j, j < k → l.getD j 0 < p) → (k = l.length ∨ ¬ l.getD k 0 < p) →
    insI p l = if k < l.length ∧ l.getD k 0 = p then l else l.take k ++ p :: l.drop k
  | [], 0, _, _, _ => by simp [insI]
  | [], k + 1, h, _, _ => by simp at h
  | x :: l, 0, _, _, h => by
    have hx : ¬ x < p := by rcases h with h | h; · simp at h
                            · simpa using h
    unfold insI
    rw [if_neg hx]
    simp
  | x :: l, k + 1, h, h1, h2 => by
    have hx : x < p := by simpa using h1 0 (by omega)
    unfold insI
    rw [if_pos hx, insI_split (l := l) (k := k) (by simpa using h) (fun j hj => by simpa using h1 (j + 1) (by omega)) (by simpa using h2)]
    simp only [List.length_cons, List.getD_cons_succ, Nat.add_lt_add_iff_right, List.take_succ_cons, List.drop_succ_cons, List.cons_append]
    split <;> rfl
/-- All colours, rising. -/
def colsF (ps : List Int) : List Int := ps.foldl (fun l p => insI p l) []
theorem colsF_snoc (ps : List Int) (p : Int) : colsF (ps ++ [p]) = insI p (colsF ps) := by simp [colsF]
theorem fold_rising : ∀ (ps l : List Int), l.Pairwise (· < ·) → (ps.foldl (fun l p => insI p l) l).Pairwise (· < ·)
  | [], l, h => h
  | p :: ps, l, h => fold_rising ps _ (insI_rising h)
theorem fold_mem {q : Int} : ∀ (ps l : List Int), q ∈ ps.foldl (fun l p => insI p l) l ↔ q ∈ ps ∨ q ∈ l
  | [], l => by simp
  | p :: ps, l => by
    rw [List.foldl_cons, fold_mem ps, mem_insI, List.mem_cons]
    constructor
    · rintro (h | h | h)
      · exact .inl (.inr h)
      · exact .inl (.inl h)
      · exact .inr h
    · rintro ((h | h) | h)
      · exact .inr (.inl h)
      · exact .inl h
      · exact .inr (.inr h)
theorem fold_le : ∀ (ps l : List Int), l.Pairwise (· < ·) → l.length ≤ (ps.foldl (fun l p => insI p l) l).length
  | [], l, _ => Nat.le_refl _
  | p :: ps, l, h => by
    refine Nat.le_trans ?_ (fold_le ps _ (insI_rising h))
    rw [insI_length h]; split <;> omega
theorem colsF_rising (ps : List Int) : (colsF ps).Pairwise (· < ·) := fold_rising ps [] List.Pairwise.nil
theorem colsF_mem {q : Int} {ps : List Int} : q ∈ colsF ps ↔ q ∈ ps := by unfold colsF; rw [fold_mem]; simp
theorem colsF_take (ps : List Int) (k : Nat) : (colsF (ps.take k)).length ≤ (colsF ps).length := by
  have h := fold_le (ps.drop k) (colsF (ps.take k)) (colsF_rising _)
  have e : (ps.drop k).foldl (fun l p => insI p l) (colsF (ps.take k)) = colsF ps := by
    unfold colsF
    rw [← List.foldl_append, List.take_append_drop]
  rwa [e] at h
theorem colsF_step {ps : List Int} {k : Nat} (hk : k < ps.length) : colsF (ps.take (k + 1)) = insI (ps.getD k 0) (colsF (ps.take k)) := by
  rw [List.take_succ_eq_append_getElem hk, colsF_snoc, List.getD_eq_getElem?_getD, List.getElem?_eq_getElem hk]; rfl
theorem colsF_pos {ps : List Int} (h : 0 < ps.length) : 0 < (colsF ps).length := by
  rcases Nat.eq_zero_or_pos (colsF ps).length with h0 | h0
  · have h1 := List.eq_nil_of_length_eq_zero h0
    have : ps[0] ∈ colsF ps := colsF_mem.2 (List.getElem_mem h)
    rw [h1] at this
    cases this
  · exact h0
theorem colsF_px {ps : List Int} (h : ∀ x ∈ ps, IsPx x) : ∀ x ∈ colsF ps, IsPx x := fun x hx => h x (colsF_mem.1 hx)
/-- Two rising lists of the same numbers are one. -/
theorem rising_unique : ∀ {l l' : List Int}, l.Pairwise (· < ·) → l'.Pairwise (· < ·) → (∀ x, x ∈ l ↔ x ∈ l') → l = l'
  | [], [], _, _, _ => rfl
  | [], y :: l', _, _, h => by have := (h y).2 (by simp); cases this
  | x :: l, [], _, _, h => by have := (h x).1 (by simp); cases this
  | x :: l, y :: l', h1, h2, h => by
    obtain ⟨a1, a2⟩ := List.pairwise_cons.1 h1
    obtain ⟨b1, b2⟩ := List.pairwise_cons.1 h2
    have e : x = y := by
      rcases List.mem_cons.1 ((h x).1 (by simp)) with e | hx
      · exact e
      · rcases List.mem_cons.1 ((h y).2 (by simp)) with e | hy
        · exact e.symm
        · have := b1 x hx; have := a1 y hy; omega
    subst e
    rw [rising_unique a2 b2 fun z => ?_]
    constructor
    · intro hz
      rcases List.mem_cons.1 ((h z).1 (List.mem_cons_of_mem _ hz)) with e | hz'
      · have := a1 z hz; omega
      · exact hz'
    · intro hz
      rcases List.mem_cons.1 ((h z).2 (List.mem_cons_of_mem _ hz)) with e | hz'
      · have := b1 z hz; omega
      · exact hz'
/-- Are there few? -/
def colsOk (m : ImgP) : Bool := goodB m.W m.H m.P.length && decide ((colsF m.P).length ≤ 256)
def colsR (m : ImgP) : List Int := if colsOk m then colsF m.P else []
end Go.Proofs.Ytlhhihdfcbkmmaa
