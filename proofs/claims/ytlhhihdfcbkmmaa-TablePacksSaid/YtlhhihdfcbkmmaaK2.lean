/- Rows of whole numbers in a block of their own. -/
import Derived.Test.YtlhhihdfcbkmmaaK
import Derived.Deep.OwnRows
import Derived.Maps.AppendAt
import Derived.OwnWalk
set_option linter.unusedVariables false
set_option linter.unusedSimpArgs false
namespace Go.Proofs.Ytlhhihdfcbkmmaa
open Go.RowKit
def cellsU (k : IntKind) (xs : List Int) : Array Value := (xs.map (Value.int k)).toArray
theorem cellsU_size (k : IntKind) (xs : List Int) : (cellsU k xs).size = xs.length := by simp [cellsU]
theorem cellsU_get (k : IntKind) (xs : List Int) (i : Nat) (h : i < xs.length) : (cellsU k xs)[i]? = some (.int k (xs.getD i 0)) := by
  simp [cellsU, List.getElem?_eq_getElem h, List.getD_eq_getElem?_getD]
theorem cellsU_set (k : IntKind) (xs : List Int) (i : Nat) (x : Int) : (cellsU k xs).setIfInBounds i (.int k x) = cellsU k (xs.set i x) := by
  simp [cellsU, List.map_set]
theorem cellsU_made (k : IntKind) (n : Nat) : madeCells #[.int k 0] n = cellsU k (List.replicate n 0) := by
  apply Array.ext
  · simp [madeCells, cellsU]
  · intro i h1 h2
    simp [madeCells, cellsU, Nat.mod_one]
theorem RI.of_blk {w : World} {g : Nat} {t : TypeId} {k : IntKind} {xs : List Int} {c : Nat} (h : Blk w g t (cellsU k xs)) (hc : xs.length ≤ c) (ht : c ≤ 9223372036854775807) : RI k w (some ⟨g, 0, none⟩) c xs :=
  ⟨hc, ht, fun _ => ⟨g, 0, rfl, h.lt, fun j hj => by rw [Nat.zero_add, h.cell, cellsU_get k xs j hj]⟩⟩
theorem RI.nil_ (k : IntKind) (w : World) (c : Nat) (hc : c ≤ 9223372036854775807) (A : Option Addr) : RI k w A c [] := ⟨Nat.zero_le _, hc, fun h => absurd h (by simp)⟩
theorem Blk.ne_ {w : World} {g g' : Nat} {t t' : TypeId} {cs cs' : Array Value} (h : Blk w g t cs) (h' : Blk w g' t' cs') (hne : t ≠ t') : g ≠ g' := by
  rintro rfl
  unfold Blk at h h'
  rw [h] at h'
  injection h' with h'
  injection h' with _ ht
  exact hne ht
theorem Blk.grown {w w' : World} {g : Nat} {t : TypeId} {cs : Array Value} {row : Option Nat} (h : Blk w g t cs) (hb : w.grownBy w' row) (hg : some g ≠ row) : Blk w' g t cs := (hb.block g h.lt hg).trans h
/-! ### a row of the call's own that is appended to -/
def Own (w : World) (base : Nat) (e : TypeId) (k : IntKind) (v : Value) (xs : List Int) : Prop := w.ownsRow base e 1 v xs.length (xs.map (.int k))
theorem Own.none_ (w : World) (base : Nat) (e : TypeId) (k : IntKind) : Own w base e k (.slice none 0 0) [] := ⟨by simp, .inl ⟨rfl, rfl⟩⟩
theorem Own.kept {w w' : World} {base : Nat} {e : TypeId} {k : IntKind} {v : Value} {xs : List Int} (h : Own w base e k v xs) {row : Option Nat} (hg : w.grownBy w' row) (hne : v.ownBlock = none ∨ v.ownBlock ≠ row) : Own w' base e k v xs := World.ownsRow.kept h hg hne
theorem Own.ext {w w' : World} {base : Nat} {e : TypeId} {k : IntKind} {v : Value} {xs : List Int} (h : Own w base e k v xs) (hb : Below w.heap.size w w') : Own w' base e k v xs :=
  h.kept (row := none) ⟨hb.os, hb.tape, hb.output, hb.size, fun i hi _ => hb.block i hi⟩ (by cases v.ownBlock <;> simp)
theorem Own.base_le {w : World} {base : Nat} {e : TypeId} {k : IntKind} {v : Value} {xs : List Int} (h : Own w base e k v xs) {g : Nat} (hg : v.ownBlock = some g) : base ≤ g := by
  rcases h.2 with ⟨rfl, _⟩ | ⟨g', cap, cur, rfl, hb, _⟩
  · simp [Value.ownBlock] at hg
  · have : g' = g := by simpa [Value.ownBlock] using hg
    omega
theorem Own.ri {w : World} {base : Nat} {e : TypeId} {k : IntKind} {v : Value} {xs : List Int} (h : Own w base e k v xs) : ∃ A c, v = .slice A xs.length c ∧ RI k w A c xs := by
  rcases h.2 with ⟨rfl, h0⟩ | ⟨g, cap, cur, rfl, _, hh, h1, h2, h3, h4⟩
  · obtain rfl : xs = [] := List.eq_nil_of_length_eq_zero h0
    exact ⟨none, 0, rfl, RI.nil_ _ _ _ (by omega) _⟩
  · refine ⟨_, cap, rfl, h1, by simpa [maxLen] using h2, fun hn => ⟨g, 0, rfl, (Array.getElem?_eq_some_iff.1 hh).1, fun j hj => ?_⟩⟩
    have hj' : j < cur.size := by omega
    have e1 : cur[j]? = some (.int k (xs.getD j 0)) := by
      have e2 : (cur.toList.take (xs.length * 1))[j]? = some (.int k (xs.getD j 0)) := by
        rw [h4]; simp [List.getElem?_eq_getElem hj, List.getD_eq_getElem?_getD]
      rw [List.getElem?_take] at e2
      split at e2
      · simpa using e2
      · cases e2
    rw [Nat.zero_add]
    simp [World.cell?, hh, e1]
theorem Own.ne_blk {w : World} {base g : Nat} {e t : TypeId} {k : IntKind} {v : Value} {xs : List Int} {cs : Array Value} (h : Own w base e k v xs) (hg : Blk w g t cs) (hne : e ≠ t) : some g ≠ v.ownBlock := by
  rcases h.2 with ⟨rfl, _⟩ | ⟨g', cap, cur, rfl, _, hh, _⟩
  · simp [Value.ownBlock]
  · intro he
    have : g = g' := by simpa [Value.ownBlock] using he
    subst this
    exact Blk.ne_ (t := e) hh hg hne rfl
theorem Own.set_far {w : World} {base : Nat} {e t : TypeId} {k : IntKind} {v : Value} {xs : List Int} {g : Nat} {cs : Array Value} (h : Own w base e k v xs) (hg : Blk w g t cs) (hne : e ≠ t) (i : Nat) (u : Value) : Own (w.setCell ⟨g, i, none⟩ u) base e k v xs :=
  h.kept (row := some g) ⟨rfl, rfl, rfl, by rw [size_set]; exact Nat.le_refl _, fun j _ hj => Below.heap_setCell w _ u j (by rintro rfl; exact hj rfl)⟩ (by
    cases hv : v.ownBlock with
    | none => exact .inl rfl
    | some b => exact .inr (by rw [← hv]; exact (h.ne_blk hg hne).symm))
theorem ext_grown {B : Nat} {w w1 w2 : World} {v : Value} {base : Nat} {e : TypeId} {k : IntKind} {xs : List Int} (h : Below B w w1) (hg : w1.grownBy w2 v.ownBlock) (hB : B ≤ w1.heap.size) (ho : Own w1 base e k v xs) (hb : B ≤ base) : Below B w w2 :=
  h.grown hg hB (fun j hj => Nat.le_trans hb (ho.base_le hj))
section
variable {P : Program} {ops : Array Oper} {rest : List Oper} {o : Oper} {a : Act} {Q : Exit → Act → World → Prop}
/-- 'append(v, y)'. -/
theorem wl_app {W : World} (base : Nat) (hgd : o.guard = none) (s x : Operand) (t e : TypeId) (k : IntKind) (bytes : Nat)
    (ho : o.op = .call { callee := .builtin .append, args := #[s, x], argTypes := #[t, t] })
    (ht : P.underlying t = some (.slice e)) (hinfo : (P.info? e).map (fun i => (i.zero, i.size, i.bytes)) = some (some (.int k 0), 1, bytes))
    (v : Value) (xs : List Int) (y : Int) (hs : a.eval s = v) (hx : a.eval x = .slice (some ⟨W.heap.size, 0, none⟩) 1 1)
    (HO : Own W base e k v xs) (hbase : base ≤ W.heap.size) (hlen : xs.length + 1 ≤ 9223372036854775807) (hl : (xs.length + 1) * bytes ≤ 140737488355328)
    (h : ∀ v1 w1, Own w1 base e k v1 (xs ++ [y]) → W.grownBy w1 v.ownBlock → (v1.ownBlock = v.ownBlock ∨ v1.ownBlock = some (W.heap.size + 1)) → wpList P ops Q rest (a.put o.dst v1) w1) :
    wpList P ops Q (o :: rest) a (W.alloc (.cells #[.int k y] e)) := by
  obtain ⟨i0, hi, hzz⟩ := Option.map_eq_some_iff.1 hinfo
  simp only [Prod.mk.injEq] at hzz
  obtain ⟨hz0, hz1, hz2⟩ := hzz
  refine wpList_append_own_at (W.alloc (.cells #[.int k y] e)) hgd s x t ho base e i0 (.int k 0) 1 bytes ht hi hz0 hz1 hz2 rfl (by omega) v xs.length (xs.map (.int k)) hs (World.ownsRow.alloc HO _) ⟨W.heap.size, 0, none⟩ 1 1 [.int k y] hx rfl
    (cell_one_new _ _ _) (by simp [Value.oneCell']) (by simpa [maxLen] using hlen) hl (by rw [size_alloc]; omega) ?_
  intro v1 w1 hown hg _ hat
  refine h v1 w1 (by simpa [Own] using hown) (World.grownBy.trans (World.grownBy_alloc W _ _) hg) ?_
  rcases hat with hat | hat
  · exact .inl hat
  · exact .inr (by rw [hat, size_alloc])
end
/-- The first k are reckoned, the others 0. -/
def stepL (f : Nat → Int) (n k : Nat) : List Int := (List.range n).map fun j => if j < k then f j else 0
theorem stepL_length (f : Nat → Int) (n k : Nat) : (stepL f n k).length = n := by simp [stepL]
theorem stepL_zero (f : Nat → Int) (n : Nat) : stepL f n 0 = List.replicate n 0 := by
  apply List.ext_getElem <;> simp [stepL]
theorem stepL_all (f : Nat → Int) (n : Nat) : stepL f n n = (List.range n).map f := by
  unfold stepL
  refine List.map_congr_left fun j hj => ?_
  rw [if_pos (List.mem_range.1 hj)]
theorem stepL_succ (f : Nat → Int) (n k : Nat) : (stepL f n k).set k (f k) = stepL f n (k + 1) := by
  apply List.ext_getElem
  · simp [stepL]
  · intro i h1 h2
    simp only [stepL, List.getElem_set, List.getElem_map, List.getElem_range]
    by_cases h : k = i
    · subst h; simp
    · rw [if_neg h]
      by_cases h' : i < k
      · rw [if_pos h', if_pos (by omega)]
      · rw [if_neg h', if_neg (by omega)]
theorem stepL_same (f : Nat → Int) (n k : Nat) (h : f k = 0) : stepL f n k = stepL f n (k + 1) := by
  apply List.ext_getElem
  · simp [stepL]
  · intro i h1 h2
    simp only [stepL, List.getElem_map, List.getElem_range]
    by_cases h' : i < k
    · rw [if_pos h', if_pos (by omega)]
    · rw [if_neg h']
      by_cases h'' : i = k
      · subst h''; rw [if_pos (by omega), h]
      · rw [if_neg (by omega)]
end Go.Proofs.Ytlhhihdfcbkmmaa
