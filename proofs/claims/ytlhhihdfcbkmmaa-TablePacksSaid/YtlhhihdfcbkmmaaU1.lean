/- table.numbers: of each colour the first place, as a map. -/
import Derived.Test.YtlhhihdfcbkmmaaK3
import Derived.Test.YtlhhihdfcbkmmaaP4
import Derived.RangeFuncBox
import Derived.RangeFuncLeaves
import Derived.Shelf.Abstract
import Derived.WalkKit
import Derived.OwnWalkIn
import Derived.TacticsInMore
import Derived.LoopNIn
import Derived.LoopIn
import Derived.Maps.OwnIn
import Derived.Sort.EveryDepth
set_option linter.unusedVariables false
set_option linter.unusedSimpArgs false
namespace Go.Proofs.Ytlhhihdfcbkmmaa
open Go.RowKit Go.Shelf
attribute [local go_sem] Oper.semAt_some
/-- A place, and the pixel there. -/
abbrev PlaceP := { x : Nat × Int // (Lit.int .i64 (x.1 : Int)).wf = true ∧ (Lit.int .u32 x.2).wf = true }
def uptoP {α : Type} (f : Nat → α) (k : Nat) : List α := (List.range k).map f
theorem uptoP_succ {α : Type} (f : Nat → α) (k : Nat) : uptoP f (k + 1) = uptoP f k ++ [f k] := by simp [uptoP, List.range_succ]
theorem uptoP_length {α : Type} (f : Nat → α) (k : Nat) : (uptoP f k).length = k := by simp [uptoP]
theorem wf_u32 {x : Int} (h : IsPx x) : (Lit.int .u32 x).wf = true := by
  unfold IsPx at h
  simp [Lit.wf, IntKind.min, IntKind.max, IntKind.signed, IntKind.bits]; omega
theorem wf_i64 {x : Int} (h0 : -9223372036854775808 ≤ x) (h1 : x ≤ 9223372036854775807) : (Lit.int .i64 x).wf = true := by
  simp [Lit.wf, IntKind.min, IntKind.max, IntKind.signed, IntKind.bits]; omega
/-- What the rounds leave as it is. -/
def KpBack (b Bs : Nat) (W W' : World) : Prop := W'.heap[b]? = W.heap[b]? ∧ W'.heap[Bs]? = W.heap[Bs]?
theorem KpBack.trans {b Bs : Nat} {A B C : World} (h : KpBack b Bs A B) (k : KpBack b Bs B C) : KpBack b Bs A C := ⟨k.1.trans h.1, k.2.trans h.2⟩
theorem cell_of_heap {A B : World} {b : Nat} (h : B.heap[b]? = A.heap[b]?) (i : Nat) : B.cell? ⟨b, i, none⟩ = A.cell? ⟨b, i, none⟩ := by simp only [World.cell?, h]
theorem KpBack.put {w : World} {b Bs : Nat} (h1 : b < w.heap.size) (h2 : Bs < w.heap.size) (W : World) (l : Nat) (o o' : Obj) (hl : w.heap.size ≤ l) (h : W.heap[l]? = some o) (_ : o.isCells = false) (_ : o.isWalk = false) : KpBack b Bs W (W.putObj l o') :=
  ⟨World.putObj_heap_other (by omega), World.putObj_heap_other (by omega)⟩
theorem KpBack.grown {W W' : World} {b Bs g : Nat} (h : W.grownBy W' (some g)) (h1 : b < W.heap.size) (h2 : Bs < W.heap.size) (n1 : b ≠ g) (n2 : Bs ≠ g) : KpBack b Bs W W' :=
  ⟨h.block b h1 (fun e => n1 (by cases e; rfl)), h.block Bs h2 (fun e => n2 (by cases e; rfl))⟩
/-- Places from the last to the first. -/
def backF (ts : List Int) (hpx : ∀ x ∈ ts, IsPx x) (hl : ts.length ≤ 1000000) (j : Nat) : PlaceP :=
  ⟨(ts.length - 1 - j, ts.getD (ts.length - 1 - j) 0), wf_i64 (by omega) (by omega), wf_u32 (by
    rcases Nat.lt_or_ge (ts.length - 1 - j) ts.length with h | h
    · exact hpx _ (getD_mem h)
    · rw [List.getD_eq_getElem?_getD, List.getElem?_eq_none h]; simp [IsPx])⟩
set_option maxRecDepth 100000 in
set_option maxHeartbeats 2000000 in
theorem back1_in (F : Fence) (n : Nat) (h7 : F.fn 104) (hro : F.round = none) (hn : 1 ≤ n) (l Bs b off cap : Nat) (ts : List Int) (hpx : ∀ x ∈ ts, IsPx x) (hl : ts.length ≤ 1000000) (J Jx : List PlaceP → World → Prop)
    (hY : ∀ pre x W, J pre W → pre.length < ts.length → YieldAt F (n - 1) Try.prog l #[.int .i64 (x.1.1 : Int), .int .u32 x.1.2] W fun e W' =>
      (e = .returned (.bool true) ∧ J (pre ++ [x]) W' ∧ KpBack b Bs W W') ∨ (e = .returned (.bool false) ∧ Jx (pre ++ [x]) W'))
    (W : World) (hBs : W.cell? ⟨Bs, 0, none⟩ = some (.slice (some ⟨b, off, none⟩) ts.length cap)) (hc : ∀ j, j < ts.length → W.cell? ⟨b, off + j, none⟩ = some (.int .u32 (ts.getD j 0))) (h0 : J [] W) :
    CallsIn F n Try.prog 104 #[.func (.yield l) #[] #[], .pointer (some ⟨Bs, 0, none⟩)] W fun e W' => (∃ v, e = .returned v) ∧
      ((∃ ys, ys = uptoP (backF ts hpx hl) ts.length ∧ J ys W') ∨ (∃ pre, (∃ k, k ≤ ts.length ∧ pre = uptoP (backF ts hpx hl) k) ∧ Jx pre W')) := by
  obtain ⟨f, hf⟩ : ∃ f, f = backF ts hpx hl := ⟨_, rfl⟩
  have hfx : ∀ j, j < ts.length → (f j).1.1 = ts.length - 1 - j ∧ (f j).1.2 = ts.getD (ts.length - 1 - j) 0 := fun j _ => by rw [hf]; exact ⟨rfl, rfl⟩
  rw [← hf]
  have HF := Lib.hid hfx; have HC := Lib.hid hc
  clear hf hfx hc
  refine callsIn_of_wp Try.func104 rfl h7 ?_ hro
  simp only [Try.ntmps104, List.size_toArray, List.length_cons, List.length_nil, Nat.reduceAdd, Nat.reduceSub, Array.replicate_succ, Array.replicate_zero, List.push_toArray, List.append_toArray, List.nil_append, List.cons_append]
  gi_wp2
  gi_loopw [3] (fun i wr => ∃ k : Nat, k ≤ ts.length ∧ i = .int .i64 ((ts.length : Int) - 1 - k) ∧ J (uptoP f k) wr ∧ KpBack b Bs W wr)
    (fun i _ => (intOf i + 1).toNat)
  case atStart => exact ⟨0, Nat.zero_le _, by simp, h0, rfl, rfl⟩
  case round =>
    obtain ⟨k, hk, rfl, hJs, hnx⟩ := hrel
    have hBs' : wr.cell? ⟨Bs, 0, none⟩ = some (.slice (some ⟨b, off, none⟩) ts.length cap) := (cell_of_heap hnx.2 0).trans hBs
    by_cases hlt : k < ts.length
    · have hz : decide ((ts.length : Int) - 1 - k ≥ 0) = true := by simp; omega
      obtain ⟨q, hq⟩ : ∃ q, q = ts.length - 1 - k := ⟨_, rfl⟩
      have hqz : (ts.length : Int) - 1 - k = (q : Int) := by omega
      have hql : q < ts.length := by omega
      have hcx := (cell_of_heap hnx.1 (off + q)).trans (HC.out q hql)
      obtain ⟨hf1, hf2⟩ := HF.out k hlt
      rw [← hq] at hf1 hf2
      obtain ⟨fn, tmps, assign, body, hy, hR⟩ := hY _ (f k) wr hJs (by rw [uptoP_length]; exact hlt)
      rw [hf1, hf2] at hy
      rw [hqz]
      have HQ := Lib.hid hq
      clear hq hqz hf1 hf2
      generalize ts.getD q 0 = x at hy hcx
      gi_wp2
      refine hR.mono ?_
      rintro e W3 (⟨rfl, hJ3, hk3⟩ | ⟨rfl, hJx3⟩)
      · gi_wp2
        go_roundw
        case rel =>
          have hq := HQ.out
          exact ⟨k + 1, by omega, by congr 1; omega, by rw [uptoP_succ]; exact hJ3, hnx.trans hk3⟩
        case measure =>
          have hq := HQ.out
          simp [intOf] <;> omega
      · gi_wp2
        refine bodyPost_ret (results_none rfl _ _ _) rfl ?_
        exact ⟨⟨_, rfl⟩, .inr ⟨_, ⟨k + 1, by omega, (uptoP_succ _ _).symm⟩, hJx3⟩⟩
    · obtain rfl : k = ts.length := by omega
      have hqz : (ts.length : Int) - 1 - ts.length = -1 := by omega
      rw [hqz]
      gi_wp2
      go_end0
      exact ⟨⟨_, rfl⟩, .inl ⟨_, rfl, hJs⟩⟩
set_option maxHeartbeats 1000000 in
theorem back_in (F : Fence) (n : Nat) (h5 : F.fn 76) (hro : F.round = none) (a : Option Addr) (len cap : Nat) (w : World) :
    CallsIn F n Try.prog 76 #[.slice a len cap] w fun e w' => e = .returned (.func (.func 104) #[] #[.pointer (some ⟨w.heap.size, 0, none⟩)]) ∧ w' = w.alloc (.cells #[.slice a len cap] 22) := by
  refine callsIn_of_wp Try.func76 rfl h5 ?_ hro
  simp only [Try.ntmps76, List.size_toArray, List.length_cons, List.length_nil, Nat.reduceAdd, Nat.reduceSub, Array.replicate_succ, Array.replicate_zero, List.push_toArray, List.append_toArray, List.nil_append, List.cons_append]
  gi_wp2
  go_ret
  exact ⟨rfl, rfl⟩
theorem back_stops (F : Fence) (n : Nat) (h8 : F.fn 104) (hro : F.round = none) (hn : 1 ≤ n) (Bs b off cap : Nat) (ts : List Int) (hpx : ∀ x ∈ ts, IsPx x) (hl : ts.length ≤ 1000000) (w : World) (hBs : Bs < w.heap.size)
    (hc : w.cell? ⟨Bs, 0, none⟩ = some (.slice (some ⟨b, off, none⟩) ts.length cap)) (hb : b < w.heap.size) (hI : ∀ j, j < ts.length → w.cell? ⟨b, off + j, none⟩ = some (.int .u32 (ts.getD j 0))) :
    SeqStopsK F n Try.prog 104 #[.pointer (some ⟨Bs, 0, none⟩)] (fun x : PlaceP => #[Value.int .i64 (x.1.1 : Int), Value.int .u32 x.1.2]) (KpBack b Bs) (fun ys => ys = uptoP (backF ts hpx hl) ts.length)
      (fun pre => ∃ k, k ≤ ts.length ∧ pre = uptoP (backF ts hpx hl) k) ts.length w := fun l J Jx W hW _ _ hY h0 =>
  back1_in F n h8 hro hn l Bs b off cap ts hpx hl J Jx hY W ((hW.cell (p := ⟨Bs, 0, none⟩) hBs).trans hc) (fun j hj => (hW.cell (p := ⟨b, off + j, none⟩) hb).trans (hI j hj)) h0
/-- What the map reads as, when these have come. -/
def numD {H : Type} (xs : List PlaceP) : DataW H := xs.foldl (fun D x => D.put (.int .u32 x.1.2) (.lit (.int .i64 (x.1.1 : Int)))) (.map [])
theorem numD_snoc {H : Type} (pre : List PlaceP) (x : PlaceP) : numD (H := H) (pre ++ [x]) = (numD pre).put (.int .u32 x.1.2) (.lit (.int .i64 (x.1.1 : Int))) := by simp [numD]
set_option maxRecDepth 100000 in
set_option maxHeartbeats 2000000 in
theorem numbers_in {H : Type} (F : Fence) (n : Nat) (h3 : F.fn 43) (h4 : F.fn 76) (h5 : F.fn 104) (hro : F.round = none) (hn : 3 ≤ n) (b off cap : Nat) (ts : List Int) (hpx : ∀ x ∈ ts, IsPx x) (hl : ts.length ≤ 1000000)
    (w : World) (hb : b < w.heap.size) (hI : ∀ j, j < ts.length → w.cell? ⟨b, off + j, none⟩ = some (.int .u32 (ts.getD j 0))) :
    CallsIn F n Try.prog 43 #[.slice (some ⟨b, off, none⟩) ts.length cap] w fun e W' => e = .returned (.map (some w.heap.size)) ∧ W'.ownsMap Try.prog 40 (plainElem (H := H) Try.prog 3) w.heap.size ts.length (numD (uptoP (backF ts hpx hl) ts.length)) ∧ Below w.heap.size w W' := by
  have h1 : 1 ≤ n := by omega
  have hmm := @run_makeMap Try.prog
  refine callsIn_of_wp_marks Try.func43 rfl h3 ?_ hro
  simp only [Try.ntmps43, List.size_toArray, List.length_cons, List.length_nil, Nat.reduceAdd, Nat.reduceSub, Array.replicate_succ, Array.replicate_zero, List.push_toArray, List.append_toArray, List.nil_append, List.cons_append]
  gi_wp2_with (gi_at_call 76; refine (back_in F (n - 1) h4 hro _ _ _ _).mono ?_; rintro e w' ⟨rfl, rfl⟩)
  have hm0 := World.ownsMap_made w Try.prog 40 (plainElem (H := H) Try.prog 3)
  have bS := (Boxed.new (w.alloc (.map #[] 0)) 75 (.map (some w.heap.size))).alloc (.cells #[.slice (some ⟨b, off, none⟩) ts.length cap] 22)
  have bN := Boxed.new ((w.alloc (.map #[] 0)).alloc (.cells #[.map (some w.heap.size)] 75)) 22 (.slice (some ⟨b, off, none⟩) ts.length cap)
  simp only [World.size_alloc] at bS bN
  have hB0 : Below w.heap.size w (((w.alloc (.map #[] 0)).alloc (.cells #[.map (some w.heap.size)] 75)).alloc (.cells #[.slice (some ⟨b, off, none⟩) ts.length cap] 22)) := (((Below.refl _ w).alloc (Nat.le_refl _) _).alloc (by simp) _).alloc (by simp; omega) _
  refine wpIn_rangeFunc_ownG hro h1 (gf := 104) (lb := #[.pointer (some ⟨w.heap.size + 1 + 1, 0, none⟩)]) rfl h5 (enters_of Try.func104 (by kernel_rfl) rfl)
    (back_stops F (n - 1) h5 hro (by omega) (w.heap.size + 1 + 1) b off cap ts hpx hl _ (by simp) bN.cell (by simp; omega) (fun j hj => (hB0.cell (p := ⟨b, off + j, none⟩) hb).trans (hI j hj))) KpBack.trans (KpBack.put (by simp; omega) (by simp)) (Below.refl _ _) (fun _ => rfl)
    (fun pre W => (W.cell? ⟨w.heap.size + 1, 0, none⟩ = some (.map (some w.heap.size)) ∧ W.ownsMap Try.prog 40 (plainElem (H := H) Try.prog 3) w.heap.size pre.length (numD pre) ∧ w.heap.size + 1 + 1 < W.heap.size) ∧ Below w.heap.size w W)
    (fun _ _ _ => False)
    (OwnFrom.and (fun s A B row hs hg hr => ⟨cell_kept hs.1 hg (fun r e => (hr r e).2), hs.2.1.kept hg (fun e => by have := (hr _ e.symm).1; simp at this; omega), Nat.lt_of_lt_of_le hs.2.2 hg.size⟩) (ownFrom_below (Nat.le_refl _) (by simp; omega)))
    (fun _ _ _ _ _ hs _ _ => hs)
    ⟨⟨bS.cell, (hm0.alloc _).alloc _, by simp⟩, hB0⟩
    (fun x => { tmps := #[.slice (some ⟨b, off, none⟩) ts.length cap, undef, .map none, .pointer (some ⟨w.heap.size + 1, 0, none⟩), .int .i64 (x.1.1 : Int), .int .u32 x.1.2, .map (some w.heap.size), .slice (some ⟨b, off, none⟩) ts.length cap, .func (.func 104) #[] #[.pointer (some ⟨w.heap.size + 1 + 1, 0, none⟩)], .int .i64 (x.1.1 : Int), .int .u32 x.1.2, undef, undef, undef, undef], defers := [] }) ?assign ?body ?done ?stop
  case assign =>
    intro l x W K hK
    gi_wp2
    exact hK
  case body =>
    rintro l pre x W ⟨⟨hc, hown, hBs2⟩, hB⟩ hlt
    have hsz : w.heap.size + 1 + 1 < W.heap.size := hBs2
    have hkey := Maps.keyOf_int_mk Try.underlying40 x.2.2
    gi_wp2_with (gi_at_mapUpdate; refine wpListIn_mapUpdate_own _ rfl _ _ _ 75 rfl 40 3 (Maps.int_keyed Try.underlying40) Try.underlying75 _ w.heap.size pre.length _ rfl hown (by simp [maxLen] at *; omega) _ _ _ rfl rfl hkey _ [] (plainElem_int Try.underlying3 x.2.1) ?_; intro w1 hown1 hgrow1)
    obtain ⟨es, ck, hh, _⟩ := hown
    exact ⟨KeepsFrom.of_grownBy hgrow1 (fun j e => by cases e; simp; omega), KpBack.grown hgrow1 (Nat.lt_of_lt_of_le hb hB.size) hsz (by omega) (by omega),
      ⟨cell_kept hc hgrow1 (fun r e => by cases e; exact ⟨_, hh, rfl⟩), by rw [numD_snoc, List.length_append]; exact hown1, Nat.lt_of_lt_of_le hsz hgrow1.size⟩, hB.grown hgrow1 hB.size (fun k e => by cases e; exact Nat.le_refl _)⟩
  case done =>
    rintro D ys W hD rfl ⟨⟨hc, hown, -⟩, hB⟩ hK
    gi_wp2
    refine ⟨by simp, .inl ⟨_, _, rfl, run_takeDeferred hK, ?_⟩⟩
    exact ⟨_, results_tmp rfl _ _ _, rfl, by have h := hown.kept (grownBy_putObj' W D (.deferred none)) (fun e => by cases e; simp at hD; omega); rw [uptoP_length] at h; exact h, hB.trans (belowK_b (w := w) (Nat.le_refl _) W D _ _ (by simp at hD; omega) hK rfl rfl)⟩
  case stop =>
    rintro D c pre W _ _ h _
    exact h.elim
end Go.Proofs.Ytlhhihdfcbkmmaa
