/- Appending a row that lies somewhere. -/
import Derived.Test.YtlhhihdfcbkmmaaT5
set_option linter.unusedVariables false
set_option linter.unusedSimpArgs false
namespace Go.Proofs.Ytlhhihdfcbkmmaa
open Go.RowKit
section
variable {P : Program} {ops : Array Oper} {rest : List Oper} {o : Oper} {a : Act} {Q : Exit → Act → World → Prop}
/-- 'append(v, ys...)'. -/
theorem wl_apps {W : World} (base : Nat) (hgd : o.guard = none) (s x : Operand) (t e : TypeId) (k : IntKind) (bytes : Nat)
    (ho : o.op = .call { callee := .builtin .append, args := #[s, x], argTypes := #[t, t] })
    (ht : P.underlying t = some (.slice e)) (hinfo : (P.info? e).map (fun i => (i.zero, i.size, i.bytes)) = some (some (.int k 0), 1, bytes))
    (v : Value) (xs ys : List Int) (b off c : Nat) (hs : a.eval s = v) (hx : a.eval x = .slice (some ⟨b, off, none⟩) ys.length c)
    (hc : ∀ j, j < ys.length → W.cell? ⟨b, off + j, none⟩ = some (.int k (ys.getD j 0)))
    (HO : Own W base e k v xs) (hbase : base ≤ W.heap.size) (hlen : xs.length + ys.length ≤ 9223372036854775807) (hl : (xs.length + ys.length) * bytes ≤ 140737488355328)
    (h : ∀ v1 w1, Own w1 base e k v1 (xs ++ ys) → W.grownBy w1 v.ownBlock → (v1 = .slice none 0 0 ↔ v = .slice none 0 0 ∧ ys.length = 0) → (v1.ownBlock = v.ownBlock ∨ v1.ownBlock = some W.heap.size) → wpList P ops Q rest (a.put o.dst v1) w1) :
    wpList P ops Q (o :: rest) a W := by
  obtain ⟨i0, hi, hzz⟩ := Option.map_eq_some_iff.1 hinfo
  simp only [Prod.mk.injEq] at hzz
  obtain ⟨hz0, hz1, hz2⟩ := hzz
  refine wpList_append_own_at W hgd s x t ho base e i0 (.int k 0) 1 bytes ht hi hz0 hz1 hz2 rfl (by omega) v xs.length (xs.map (.int k)) hs HO ⟨b, off, none⟩ ys.length c (ys.map (.int k)) hx (by simp)
    (fun j u hj => ?_) (fun u hu => by obtain ⟨z, _, rfl⟩ := List.mem_map.1 hu; rfl) (by simpa [maxLen] using hlen) hl hbase ?_
  · have hjl : j < ys.length := by
      rcases Nat.lt_or_ge j ys.length with h | h
      · exact h
      · rw [List.getElem?_eq_none (by simpa using h)] at hj; cases hj
    have : u = .int k (ys.getD j 0) := by
      rw [List.getElem?_map, List.getElem?_eq_getElem hjl] at hj
      simp at hj
      rw [← hj, List.getD_eq_getElem?_getD, List.getElem?_eq_getElem hjl]; rfl
    rw [this, Addr.add_lit]
    exact hc j hjl
  · intro v1 w1 hown hg hn hat
    exact h v1 w1 (by simpa [Own] using hown) hg hn hat
end
end Go.Proofs.Ytlhhihdfcbkmmaa
