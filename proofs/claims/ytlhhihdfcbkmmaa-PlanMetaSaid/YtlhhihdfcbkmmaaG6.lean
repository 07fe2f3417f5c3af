import Derived.Test.YtlhhihdfcbkmmaaG5
import Derived.Shelf.SlSortCmp.Insertion
set_option linter.unusedVariables false
set_option linter.unusedSimpArgs false
namespace Go.Proofs.Ytlhhihdfcbkmmaa
open Go.RowKit
/-! ### rows of values -/
def OwnV (w : World) (base : Nat) (e : TypeId) (v : Value) (xs : List Value) : Prop := w.ownsRow base e 1 v xs.length xs
theorem OwnV.kept {w w' : World} {base : Nat} {e : TypeId} {v : Value} {xs : List Value} (h : OwnV w base e v xs) {row : Option Nat} (hg : w.grownBy w' row) (hne : v.ownBlock = none ∨ v.ownBlock ≠ row) : OwnV w' base e v xs := World.ownsRow.kept h hg hne
theorem OwnV.ext {w w' : World} {base : Nat} {e : TypeId} {v : Value} {xs : List Value} (h : OwnV w base e v xs) (hb : Below w.heap.size w w') : OwnV w' base e v xs :=
  h.kept (row := none) ⟨hb.os, hb.tape, hb.output, hb.size, fun i hi _ => hb.block i hi⟩ (by cases v.ownBlock <;> simp)
theorem OwnV.base_le {w : World} {base : Nat} {e : TypeId} {v : Value} {xs : List Value} (h : OwnV w base e v xs) {g : Nat} (hg : v.ownBlock = some g) : base ≤ g := by
  rcases h.2 with ⟨rfl, _⟩ | ⟨g', cap, cur, rfl, hb, _⟩
  · simp [Value.ownBlock] at hg
  · have : g' = g := by simpa [Value.ownBlock] using hg
    omega
theorem Own.apart {w : World} {base base' : Nat} {e e' : TypeId} {k : IntKind} {x v : Value} {xs : List Int} {ys : List Value} (h : Own w base e k x xs) (h' : OwnV w base' e' v ys) (hne : e ≠ e') : x.ownBlock = none ∨ x.ownBlock ≠ v.ownBlock := by
  rcases h.2 with ⟨rfl, _⟩ | ⟨g, cap, cur, rfl, _, hh, _⟩
  · exact .inl rfl
  · refine .inr fun hb => ?_
    rcases h'.2 with ⟨rfl, _⟩ | ⟨g', cap', cur', rfl, _, hh', _⟩
    · simp [Value.ownBlock] at hb
    · have : g = g' := by simpa [Value.ownBlock] using hb
      subst this
      rw [hh] at hh'
      injection hh' with hh'
      injection hh' with _ ht
      exact hne ht
theorem Own.lower {w : World} {base base' : Nat} {e : TypeId} {k : IntKind} {x : Value} {xs : List Int} (h : Own w base e k x xs) (hb : base' ≤ base) : Own w base' e k x xs := by
  refine ⟨h.1, ?_⟩
  rcases h.2 with h0 | ⟨g, cap, cur, e1, h1, rest⟩
  · exact .inl h0
  · exact .inr ⟨g, cap, cur, e1, by omega, rest⟩
section
variable {P : Program} {ops : Array Oper} {rest : List Oper} {o : Oper} {a : Act} {Q : Exit → Act → World → Prop}
/-- 'append(v, y)' of a value of one cell that lies in a new block. -/
theorem wl_appV {W : World} (base : Nat) (hgd : o.guard = none) (s x : Operand) (t e : TypeId) (z : Value) (bytes : Nat)
    (ho : o.op = .call { callee := .builtin .append, args := #[s, x], argTypes := #[t, t] })
    (ht : P.underlying t = some (.slice e)) (hinfo : (P.info? e).map (fun i => (i.zero, i.size, i.bytes)) = some (some z, 1, bytes)) (hz : z.cells.size = 1)
    (v : Value) (xs : List Value) (y : Value) (hy : y.oneCell' = true) (hs : a.eval s = v) (hx : a.eval x = .slice (some ⟨W.heap.size, 0, none⟩) 1 1)
    (HO : OwnV W base e v xs) (hbase : base ≤ W.heap.size) (hlen : xs.length + 1 ≤ 9223372036854775807) (hl : (xs.length + 1) * bytes ≤ 140737488355328)
    (h : ∀ v1 w1, OwnV w1 base e v1 (xs ++ [y]) → W.grownBy w1 v.ownBlock → wpList P ops Q rest (a.put o.dst v1) w1) :
    wpList P ops Q (o :: rest) a (W.alloc (.cells #[y] e)) := by
  obtain ⟨i0, hi, hzz⟩ := Option.map_eq_some_iff.1 hinfo
  simp only [Prod.mk.injEq] at hzz
  obtain ⟨hz0, hz1, hz2⟩ := hzz
  refine wpList_append_own_at (W.alloc (.cells #[y] e)) hgd s x t ho base e i0 z 1 bytes ht hi hz0 hz1 hz2 hz (by omega) v xs.length xs hs (World.ownsRow.alloc HO _) ⟨W.heap.size, 0, none⟩ 1 1 [y] hx rfl
    (cell_one_new _ _ _) (by intro u hu; rw [List.mem_singleton.1 hu]; exact hy) (by simpa [maxLen] using hlen) hl (by rw [size_alloc]; omega) ?_
  intro v1 w1 hown hg _ hat
  exact h v1 w1 (by simpa [OwnV] using hown) (World.grownBy.trans (World.grownBy_alloc W _ _) hg)
end
/-! ### the sets -/
def stkL (s k : Nat) : List Int := ((List.range k).filter fun (j : Nat) => s / 2 ^ j % 2 == 1).map fun (j : Nat) => (j : Int)
theorem stkL_yes {s k : Nat} (h : s / 2 ^ k % 2 = 1) : stkL s (k + 1) = stkL s k ++ [(k : Int)] := by
  unfold stkL; rw [List.range_succ, List.filter_append, List.map_append]; simp [h]
theorem stkL_no {s k : Nat} (h : ¬ s / 2 ^ k % 2 = 1) : stkL s (k + 1) = stkL s k := by
  unfold stkL; rw [List.range_succ, List.filter_append, List.map_append]; simp [h]
theorem stkL_len (s k : Nat) : (stkL s k).length ≤ k := by
  unfold stkL; rw [List.length_map]; exact Nat.le_trans (List.length_filter_le _ _) (by simp)
theorem bit_of (s k : Nat) (hs : s < 16) : bits .and .i64 ((s : Int) / 2 ^ k) 1 = ((s / 2 ^ k % 2 : Nat) : Int) := by
  have h : (s : Int) / 2 ^ k = ((s / 2 ^ k : Nat) : Int) := by
    rw [Int.natCast_ediv, Int.natCast_pow]; rfl
  have h1 : s / 2 ^ k ≤ s := Nat.div_le_self _ _
  rw [h]
  generalize s / 2 ^ k = q at h1
  have := and_mask64 1 (by omega) (q : Int) (by omega) (by omega)
  refine Eq.trans this ?_
  rw [Int.natCast_emod]; rfl
theorem infoInt : (Try.prog.info? 3).map (fun i => (i.zero, i.size, i.bytes)) = some (some (.int .i64 0), 1, 8) := by kernel_rfl
theorem infoInts : (Try.prog.info? 42).map (fun i => (i.zero, i.size, i.bytes)) = some (some (.slice none 0 0), 1, 24) := by kernel_rfl
open Go.Shelf Go.Lib Go.Sort in
def insInts_ren : Go.Shelf.Ren := ⟨fun | 20 => 134 | n => n, fun | 0 => 0 | 3 => 3 | 4 => 4 | 22 => 71 | 24 => 42 | 25 => 105 | n => n, fun n => n⟩
open Go.Shelf Go.Lib Go.Sort in
theorem insInts : SlLaysF.n20 Try.prog insInts_ren := {
  mixed := by kernel_rfl
  f20 := ⟨Try.f134.name, by decide, Try.func134.trans (congrArg some (by kernel_rfl))⟩
  t0 := Try.underlying0
  a0 := Try.isAgg0
  z0 := Try.sizeOf0
  v0 := Try.zeroValue0
  t3 := Try.underlying3
  a3 := Try.isAgg3
  z3 := Try.sizeOf3
  v3 := Try.zeroValue3
  t4 := Try.underlying4
  a4 := Try.isAgg4
  z4 := Try.sizeOf4
  v4 := Try.zeroValue4
  t22 := Try.underlying71
  a22 := Try.isAgg71
  z22 := Try.sizeOf71
  v22 := Try.zeroValue71
  a24 := Try.isAgg42
  z24 := Try.sizeOf42
  t25 := Try.underlying105
  a25 := Try.isAgg105
  z25 := Try.sizeOf105
  v25 := Try.zeroValue105 }
open Go.Shelf Go.Lib Go.Sort in
set_option maxRecDepth 100000 in
theorem ssort_any (enc : Fin 16 → Value) (hO : OneCell enc) (cf : Fin 16 → Fin 16 → Int) (blk cap : Nat) (d : Array (Fin 16)) (hd : d.size = 16) (w : World) (hcmp : CmpReads Try.prog 73 #[] enc cf blk 0 d.size w) (hH : Holds enc w blk 0 d) :
    Calls Try.prog 72 #[.slice (some ⟨blk, 0, none⟩) 16 cap, .func (.func 73) #[] #[]] w fun e w' => e = .returned (.tuple #[]) ∧ ∃ n, w' = (putRow enc w blk 0 (Sort.insertionSort (ltOf cf) d 0 16)).drewN n := by
  have hc := Any.insertionSortCmpFunc_one insInts enc hO cf 73 #[] blk 0 cap 0 16 d w (fun args w => by kernel_rfl) hcmp hH (by omega) (by omega) (by omega)
  rw [hd] at hc
  change Calls Try.prog 134 _ _ _ at hc
  have HC := Lib.hid hc
  clear hc hcmp hH
  have hst : Calls Try.prog 102 #[.slice (some ⟨blk, 0, none⟩) 16 cap, .int .i64 16, .func (.func 73) #[] #[]] w fun e w' => e = .returned (.tuple #[]) ∧ ∃ n, w' = (putRow enc w blk 0 (Sort.insertionSort (ltOf cf) d 0 16)).drewN n := by
    go_enter Try.func102, Try.ntmps102
    go_wp2_with fail
    refine wp_loop_rounds 2 ?_
    rw [rounds_succ]
    go_wp2_with fail
    refine HC.out.mono ?_
    rintro e w' ⟨rfl, n, rfl⟩
    go_wp2_with fail
    refine wp_loop_rounds 2 ?_
    rw [rounds_succ]
    go_wp2_with fail
    go_end0
    exact ⟨rfl, n, rfl⟩
  have HST := Lib.hid hst
  clear hst HC
  go_enter Try.func72, Try.ntmps72
  go_wp2_with fail
  refine HST.out.mono ?_
  rintro e w' ⟨rfl, n, rfl⟩
  go_wp2_with fail
  go_end0
  exact ⟨rfl, n, rfl⟩
end Go.Proofs.Ytlhhihdfcbkmmaa
