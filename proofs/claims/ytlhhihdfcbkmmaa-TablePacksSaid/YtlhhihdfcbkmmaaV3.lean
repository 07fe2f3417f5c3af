/- table.Colors, given what slices.Sort does. -/
import Derived.Test.YtlhhihdfcbkmmaaV2
import Derived.Test.YtlhhihdfcbkmmaaU3
import Derived.Maps.RangeWalk
set_option linter.unusedVariables false
set_option linter.unusedSimpArgs false
namespace Go.Proofs.Ytlhhihdfcbkmmaa
open Go.RowKit
theorem clip_any (g n c : Nat) (h : n ≤ c) (hc : c ≤ 9223372036854775807) (w : World) : Calls Try.prog 50 #[.slice (some ⟨g, 0, none⟩) n c] w fun e w' => e = .returned (.slice (some ⟨g, 0, none⟩) n n) ∧ w = w' := by
  go_enter Try.func50, Try.ntmps50
  go_wp2
  go_ret
  exact ⟨rfl, rfl⟩
theorem px_wf {x : Int} (h : (Lit.int .u32 x).wf = true) : IsPx x := by
  simp [Lit.wf, IntKind.min, IntKind.max, IntKind.signed, IntKind.bits] at h
  unfold IsPx; omega
/-- What is asked of slices.Sort. -/
def SortsAt (n : Nat) : Prop := ∀ (g cap : Nat) (rest : Array Value) (d : Array Int) (w0 w : World), d.size = n → Srt w0 g rest d w →
  Calls Try.prog 49 #[.slice (some ⟨g, 0, none⟩) n cap] w fun e w' => e = .returned (.tuple #[]) ∧ ∃ d' : Array Int, Srt w0 g rest d' w' ∧ d'.toList.Perm d.toList ∧ d'.toList.Pairwise (fun x y => x ≤ y)
/-- Nodup and sorted are rising. -/
theorem rising_of {l : List Int} (h1 : l.Pairwise (fun x y => x ≤ y)) (h2 : l.Nodup) : l.Pairwise (· < ·) := by
  induction l with
  | nil => exact List.Pairwise.nil
  | cons x l ih =>
    obtain ⟨a1, a2⟩ := List.pairwise_cons.1 h1
    obtain ⟨b1, b2⟩ := List.nodup_cons.1 h2
    refine List.pairwise_cons.2 ⟨fun y hy => ?_, ih a2 b2⟩
    have := a1 y hy
    have hne : x ≠ y := by rintro rfl; exact b1 hy
    omega
section
variable {H : Type} {w : World} {P : Program} {K : TypeId} {R : Value → Option (DataW H × List MemPlace)} {b r n cnt : Nat} {D : DataW H} {left : Lit → Bool}
theorem ranges_own {base : Nat} {e : TypeId} {k : IntKind} {v : Value} {xs : List Int} (h : w.ranges P K R b r n D left cnt) (o : Own w base e k v xs) : some b ≠ v.ownBlock ∧ some r ≠ v.ownBlock := by
  rcases o.2 with ⟨rfl, _⟩ | ⟨g', cap, cur, rfl, _, hh, _⟩
  · simp [Value.ownBlock]
  · obtain ⟨es, ck, since, seen, c0, hb, _, _, _, hr, _⟩ := h
    constructor
    · intro he
      have : b = g' := by simpa [Value.ownBlock] using he
      subst this; rw [hb] at hh; cases hh
    · intro he
      have : r = g' := by simpa [Value.ownBlock] using he
      subst this; rw [hr] at hh; cases hh
end
set_option maxRecDepth 100000 in
set_option maxHeartbeats 4000000 in
theorem colors_not (W H : Int) (A : Option Addr) (c : Nat) (ps : List Int) (w : World) (hg : goodB W H ps.length = false) :
    Calls Try.prog 16 #[.agg #[.int .i64 W, .int .i64 H, .slice A ps.length c]] w fun e w' => e = .returned (.tuple #[.slice none 0 0, .bool false]) ∧ Below w.heap.size w w' := by
  have hb := ext_alloc (Below.refl w.heap.size w) (.cells #[.int .i64 W, .int .i64 H, .slice A ps.length c] 24)
  go_enter Try.func16, Try.ntmps16
  go_wp2_with fail
  refine (good_any W H A ps.length c _).mono ?_
  rintro e w1 ⟨rfl, hb1⟩
  rw [hg]
  have HW := Lib.hid (ext_then hb hb1)
  clear hb hb1
  go_wp2_with fail
  exact bodyPost_ret (v := .tuple #[.slice none 0 0, .bool false]) (by simp [results, Try.results16, go_sem]) rfl ⟨rfl, HW.out⟩
/-- What has been seen. -/
structure SeenD (ps : List Int) (k : Nat) (D : DataW Unit) : Prop where
  has : ∀ p, Maps.has D (.int .u32 p) = decide (p ∈ ps.take k)
  size : Maps.size D = (colsF (ps.take k)).length
theorem SeenD.step {ps : List Int} {k : Nat} {D : DataW Unit} (h : SeenD ps k D) (ht : Maps.Tidy D) (hk : k < ps.length) (d : DataW Unit) : SeenD ps (k + 1) (D.put (.int .u32 (ps.getD k 0)) d) := by
  have e : ps.take (k + 1) = ps.take k ++ [ps.getD k 0] := by rw [List.take_succ_eq_append_getElem hk, List.getD_eq_getElem?_getD, List.getElem?_eq_getElem hk]; rfl
  refine ⟨fun p => ?_, ?_⟩
  · by_cases hp : p = ps.getD k 0
    · subst hp
      rw [Maps.has_put_same ht.isMap (show WideAt.IsKeyLit (.int .u32 (ps.getD k 0)) from trivial), e]
      simp
    · rw [Maps.has_put_other (fun e => hp (by injection e)), h.has, e, decide_eq_decide, List.mem_append, List.mem_singleton]
      exact ⟨.inl, fun h => h.resolve_right hp⟩
  · rw [Maps.size_put ht, colsF_step hk, insI_length (colsF_rising _), h.has, h.size]
    by_cases hm : ps.getD k 0 ∈ ps.take k
    · rw [if_pos (by simpa using hm), if_pos (colsF_mem.2 hm)]
    · rw [if_neg (by simpa using hm), if_neg (fun h' => hm (colsF_mem.1 h'))]
set_option maxRecDepth 100000 in
set_option maxHeartbeats 4000000 in
theorem colors_ok (W H : Int) (A : Option Addr) (c : Nat) (ps : List Int) (w : World) (hps : RI .u32 w A c ps) (hpx : ∀ x ∈ ps, IsPx x) (hg : goodB W H ps.length = true) (hS : SortsAt (colsF ps).length) :
    Calls Try.prog 16 #[.agg #[.int .i64 W, .int .i64 H, .slice A ps.length c]] w fun e w' => ∃ B d, e = .returned (.tuple #[.slice B (colsR ⟨W, H, ps⟩).length d, .bool (colsOk ⟨W, H, ps⟩)]) ∧ RI .u32 w' B d (colsR ⟨W, H, ps⟩) ∧ Below w.heap.size w w' := by
  have hb := ext_alloc (Below.refl w.heap.size w) (.cells #[.int .i64 W, .int .i64 H, .slice A ps.length c] 24)
  have g := goodB_iff.1 hg
  have hm := mul_small g.1 g.2.1 g.2.2.1 g.2.2.2.1
  have hl1 : 1 ≤ ps.length ∧ ps.length ≤ 268435456 := by omega
  have hno : 256 < (colsF ps).length → ∀ w', Below w.heap.size w w' → ∃ B d, Ending.returned (.tuple #[.slice none 0 0, .bool false]) = .returned (.tuple #[.slice B (colsR ⟨W, H, ps⟩).length d, .bool (colsOk ⟨W, H, ps⟩)]) ∧ RI .u32 w' B d (colsR ⟨W, H, ps⟩) ∧ Below w.heap.size w w' := fun h w' hw => by
    have e1 : colsOk ⟨W, H, ps⟩ = false := by unfold colsOk; rw [hg]; simp; omega
    have e2 : colsR ⟨W, H, ps⟩ = [] := by unfold colsR; rw [e1]; rfl
    rw [e1, e2]
    exact ⟨none, 0, rfl, RI.nil_ _ _ _ (by omega) _, hw⟩
  have hyes : (colsF ps).length ≤ 256 → ∀ g' w', RI .u32 w' (some ⟨g', 0, none⟩) (colsF ps).length (colsF ps) → Below w.heap.size w w' → ∃ B d, Ending.returned (.tuple #[.slice (some ⟨g', 0, none⟩) (colsF ps).length (colsF ps).length, .bool true]) = .returned (.tuple #[.slice B (colsR ⟨W, H, ps⟩).length d, .bool (colsOk ⟨W, H, ps⟩)]) ∧ RI .u32 w' B d (colsR ⟨W, H, ps⟩) ∧ Below w.heap.size w w' := fun h g' w' hr hw => by
    have e1 : colsOk ⟨W, H, ps⟩ = true := by unfold colsOk; rw [hg]; simp; omega
    have e2 : colsR ⟨W, H, ps⟩ = colsF ps := by unfold colsR; rw [e1]; rfl
    rw [e1, e2]
    exact ⟨_, _, rfl, hr, hw⟩
  have HNO := Lib.hid hno; have HYES := Lib.hid hyes; have HL := Lib.hid hl1; have HB := Lib.hid hb
  have hmm := @run_makeMap Try.prog
  clear g hm hno hyes hl1 hb
  go_enter Try.func16, Try.ntmps16
  go_wp2_with fail
  refine (good_any W H A ps.length c _).mono ?_
  rintro e w1 ⟨rfl, hb1⟩
  rw [hg]
  have d1 : Blk w1 w.heap.size 24 #[.int .i64 W, .int .i64 H, .slice A ps.length c] := (Blk.new _ _ _).ext hb1
  have HW := ext_then HB.out hb1
  clear HB hb1 hg
  have o1 := (d1.alloc (.map #[] 0)).cell
  go_wp2_with fail
  have hm0 := World.ownsMap_made w1 Try.prog 40 (plainElem (H := Unit) Try.prog 3)
  have hB0 := ext_alloc HW (.map #[] 0)
  have hgm : w.heap.size ≤ w1.heap.size := HW.size
  clear HW d1 o1 hmm
  generalize w1.alloc (.map #[] 0) = w2 at *
  generalize w1.heap.size = gm at *
  go_loopw [16] (fun i wr => ∃ (k : Nat) (D : DataW Unit), k ≤ ps.length ∧ i = .int .i64 k ∧ wr.ownsMap Try.prog 40 (plainElem (H := Unit) Try.prog 3) gm k D ∧ Hid (SeenD ps k D ∧ (colsF (ps.take k)).length ≤ 256) ∧ Below w.heap.size w wr) (fun i _ => ps.length - (intOf i).toNat)
  case atStart => exact ⟨0, .map [], Nat.zero_le _, rfl, hm0, Lib.hid ⟨⟨fun p => by simp [Maps.has_eq], by simp [Maps.size_eq, colsF]⟩, by simp [colsF]⟩, hB0⟩
  case round =>
    clear hm0 hB0
    obtain ⟨k, D, hk, rfl, hown, hD, hB⟩ := hrel
    have hl28 := HL.out.2
    by_cases hkl : k < ps.length
    · obtain ⟨bA, oA, rfl, hbA, cA⟩ := hps.at_ (by omega)
      have cJ := (hB.cell (p := ⟨bA, oA + k, none⟩) hbA).trans (cA k hkl)
      have hpk := hpx _ (getD_mem hkl)
      have hstep := fun d => hD.out.1.step (hown.tidy (Maps.int_keyed Try.underlying40)) hkl d
      have hcle := colsF_take ps (k + 1)
      generalize ps.getD k 0 = p at cJ hpk hstep
      have hkey := Maps.keyOf_int_mk Try.underlying40 (wf_u32 hpk)
      have HST := Lib.hid hstep; have HCL := Lib.hid hcle
      clear cA hstep hcle
      go_wp2_with (first
        | (at_lookup; refine wpList_lookup_own_int _ rfl _ _ 75 rfl 40 3 .i64 (Maps.int_keyed Try.underlying40) Try.underlying75 Try.underlying3 (Try.zeroValue3 _) gm k D rfl hown _ _ rfl hkey ?_; intro cc hat hwc; clear hat hwc)
        | (at_mapUpdate; refine wpList_mapUpdate_own _ rfl _ _ _ 75 rfl 40 3 (Maps.int_keyed Try.underlying40) Try.underlying75 _ gm k D rfl hown (by simp [maxLen]; omega) _ _ _ rfl rfl hkey _ [] (plainElem_int Try.underlying3 (wrap64_wf _)) ?_; intro w3 hown1 hgrow1; have hB1 := hB.grown hgrow1 hB.size (fun j e => by cases e; exact hgm))
        | (at_len; refine wpList_len_own _ rfl _ 75 rfl 40 3 Try.underlying75 _ gm (k + 1) _ rfl hown1 ?_; rw [(HST.out _).size]))
      · have h256 : (256 : Int) < ((colsF (ps.take (k + 1))).length : Int) := by assumption
        exact bodyPost_ret (v := .tuple #[.slice none 0 0, .bool false]) (by simp [results, Try.results16, go_sem]) rfl (HNO.out (by have := HCL.out; omega) _ hB1)
      · have h256 : ((colsF (ps.take (k + 1))).length : Int) ≤ (256 : Int) := by assumption
        go_roundw
        case rel => exact ⟨k + 1, _, by omega, by go_num, hown1, Lib.hid ⟨HST.out _, by omega⟩, hB1⟩
        case measure => simp [intOf]; omega
    · have hkk : k = ps.length := by omega
      subst hkk
      have hsz := hD.out.1.size
      have h256 := hD.out.2
      have hhas := hD.out.1.has
      rw [List.take_length] at hsz h256 hhas
      have HSZ := Lib.hid (And.intro hsz h256); have HHAS := Lib.hid hhas
      clear hsz h256 hhas hD
      go_wp2_with (at_range; refine wpList_range_own _ rfl _ 75 rfl 40 3 (Maps.int_keyed Try.underlying40) Try.underlying75 _ gm ps.length D rfl hown ?_; intro w0 hrg0 hg0 hs0)
      have hB0 : Below w.heap.size w w0 := hB.grown hg0 hB.size (fun j e => by cases e)
      have hrb : w.heap.size ≤ wr.heap.size := hB.size
      clear hown hB hg0 hs0
      generalize wr.heap.size = r at *
      go_frame
      go_loopw [7] (fun v wr => ∃ (left : Lit → Bool) (cnt : Nat) (xs : List Int), wr.ranges Try.prog 40 (plainElem (H := Unit) Try.prog 3) gm r ps.length D left cnt ∧ Own wr w.heap.size 40 .u32 v xs ∧
        Hid (xs.Nodup ∧ (∀ p, IsPx p → (p ∈ xs ↔ (p ∈ ps ∧ left (.int .u32 p) = false))) ∧ (∀ p ∈ xs, p ∈ ps)) ∧ xs.length + cnt ≤ 256 ∧ Below w.heap.size w wr) (fun _ wr => wr.rangeLeft gm r)
      case atStart => exact ⟨_, _, [], hrg0, Own.none_ _ _ _ _, Lib.hid ⟨List.nodup_nil, fun p _ => by rw [HHAS.out]; simp, by simp⟩, by rw [HSZ.out.1]; simpa using HSZ.out.2, hB0⟩
      case round =>
        clear hrg0 hB0
        obtain ⟨left, cnt, xs, hrg, hown, hxs, hxl, hB⟩ := hrel
        go_wp2_with (at_next; refine wpList_next_ranges_ii _ rfl _ rfl 40 3 .u32 .i64 (Maps.int_keyed Try.underlying40) Try.underlying40 Try.underlying3 gm r ps.length _ _ _ rfl hrg ?_ ?_)
        · intro hc0 hl0
          obtain ⟨hnd, hmem, hin⟩ := hxs.out
          have hall : ∀ q, q ∈ xs ↔ q ∈ ps := fun q => ⟨hin q, fun h => (hmem q (hpx q h)).2 ⟨h, hl0 _⟩⟩
          have hne : 0 < xs.length := by
            rcases Nat.eq_zero_or_pos xs.length with h | h
            · have h1 := List.eq_nil_of_length_eq_zero h
              have h2 : ps.getD 0 0 ∈ xs := (hall _).2 (getD_mem (by have := HL.out.1; omega))
              rw [h1] at h2; cases h2
            · exact h
          rcases hown.2 with ⟨_, h0⟩ | ⟨gr, cap, cur, rfl, hbase, hh, h1, h2, h3, h4⟩
          · omega
          have hHALL := Lib.hid (And.intro hnd hall)
          have hsu : SU wr gr (cur.toList.drop xs.length).toArray xs.toArray := by
            show wr.heap[gr]? = _
            rw [hh]
            congr 2
            apply Array.ext'
            simp only [Array.toList_append, Array.toList_map]
            rw [← List.take_append_drop xs.length cur.toList]
            congr 1
            · simpa using h4
            · simp
          have hlen : xs.length = (colsF ps).length := by
            have e : ∀ (ys : List Int), ys.Nodup → (∀ q, q ∈ ys ↔ q ∈ ps) → ys.length = (colsF ps).length := fun ys hy1 hy2 => by
              have hs := List.mergeSort_perm ys (fun a b => decide (a ≤ b))
              have hp := List.pairwise_mergeSort (le := fun a b => decide (a ≤ b)) (fun a b c h1 h2 => by simp at *; omega) (fun a b => by simp; omega) ys
              have hr := rising_of (hp.imp (fun h => by simpa using h)) (hs.nodup_iff.2 hy1)
              rw [← hs.length_eq, rising_unique hr (colsF_rising ps) (fun q => by rw [hs.mem_iff, hy2, colsF_mem])]
            exact e xs hnd hall
          have hcall := hS gr cap (cur.toList.drop xs.length).toArray xs.toArray wr wr (by simpa using hlen) ⟨hsu, Grn.refl _ _⟩
          rw [← hlen] at hcall
          have HC := Lib.hid (And.intro hcall (And.intro hlen (And.intro hbase (And.intro h1 h2)))); have HBW := Lib.hid hB
          clear hcall hlen hrg hown hh h1 h2 h3 h4 hnd hmem hin hall hsu hxs hB hbase
          go_wp2_with (go_at_call 49; refine HC.out.1.mono ?_; rintro e w5 ⟨rfl, dd, hsr, hperm, hsort⟩)
          have hdl : dd.size = xs.length := by have := hperm.length_eq; simpa using this
          have hfin : dd.toList = colsF ps := by
            refine rising_unique (rising_of hsort (hperm.nodup_iff.2 hHALL.out.1)) (colsF_rising ps) (fun q => ?_)
            rw [hperm.mem_iff, colsF_mem]
            exact hHALL.out.2 q
          have hri : RI .u32 w5 (some ⟨gr, 0, none⟩) xs.length (colsF ps) := by
            refine ⟨by rw [← HC.out.2.1]; exact Nat.le_refl _, by have := HC.out.2.2.2.1; have := HC.out.2.2.2.2; simp [maxLen] at *; omega, fun _ => ⟨gr, 0, rfl, hsr.su.lt, fun j hj => ?_⟩⟩
            have hjd : j < dd.size := by rw [hdl, HC.out.2.1]; exact hj
            rw [Nat.zero_add, hsr.su.cell hjd, ← hfin]
            simp [hjd, List.getD_eq_getElem?_getD]
          have HR := Lib.hid hri
          have HB5 := Lib.hid (hsr.gr.below HBW.out HBW.out.size HC.out.2.2.1)
          clear hsr hperm hsort hdl hfin hri
          go_wp2_with (go_at_call 50; refine (clip_any gr xs.length cap HC.out.2.2.2.1 (by have := HC.out.2.2.2.2; simpa [maxLen] using this) _).mono ?_; rintro e w6 ⟨rfl, rfl⟩)
          exact bodyPost_ret (v := .tuple #[.slice (some ⟨gr, 0, none⟩) xs.length xs.length, .bool true]) (by simp [results, Try.results16, go_sem]) rfl (by rw [HC.out.2.1]; exact HYES.out HSZ.out.2 gr w5 (by rw [← HC.out.2.1]; exact HR.out) HB5.out)
        · intro x cc w3 cnt' hwx hwc hlx hat hrg1 hlt hg1 hs1 hen
          have hxp : IsPx x := px_wf hwx
          have hxin : x ∈ ps := by
            have := Maps.has_true_of_atKey hat
            rw [HHAS.out] at this
            simpa using this
          have hne1 := ranges_own hrg hown
          have hown1 := hown.kept hg1 (.inr (fun e => hne1.2 e.symm))
          have hB1 : Below w.heap.size w w3 := hB.grown hg1 hB.size (fun j e => by cases e; exact hrb)
          have hne2 := ranges_own hrg1 hown1
          obtain ⟨hnd, hmem, hin⟩ := hxs.out
          have hnx : x ∉ xs := fun h => by have := ((hmem x hxp).1 h).2; rw [hlx] at this; cases this
          have hxs1 : (xs ++ [x]).Nodup ∧ (∀ p, IsPx p → (p ∈ xs ++ [x] ↔ (p ∈ ps ∧ (left (.int .u32 p) && !(Lit.int .u32 p).sameKey (.int .u32 x)) = false))) ∧ (∀ p ∈ xs ++ [x], p ∈ ps) := by
            refine ⟨?_, fun p hp => ?_, fun p hp => ?_⟩
            · rw [List.nodup_append]
              exact ⟨hnd, by simp, fun a ha b hb' => by simp at hb'; subst hb'; rintro rfl; exact hnx ha⟩
            · rw [List.mem_append, List.mem_singleton]
              by_cases hpx' : p = x
              · subst hpx'
                rw [show (Lit.int .u32 p).sameKey (.int .u32 p) = true from WideAt.sameKey_self (show WideAt.IsKeyLit (.int .u32 p) from trivial)]
                simp [hxin]
              · rw [Maps.sameKey_ne (show Lit.int .u32 p ≠ .int .u32 x from fun e => hpx' (by injection e))]
                simp only [Bool.not_false, Bool.and_true]
                rw [← hmem p hp]
                exact ⟨fun h => h.resolve_right hpx', .inl⟩
            · rcases List.mem_append.1 hp with h | h
              · exact hin p h
              · simp at h; subst h; exact hxin
          have HXS := Lib.hid hxs1; have HN2 := Lib.hid hne2; have HLE := Lib.hid hrg.left_eq
          clear hxs hxs1 hne1 hne2 hnd hmem hin hnx hown hB hrg hg1 hs1 hat hwx hwc hlx hxin
          have hxl2 : xs.length ≤ 255 := by omega
          go_wp2_with (at_builtin; go_loud (refine wl_app (W := w3) w.heap.size rfl _ _ 22 40 .u32 4 rfl Try.underlying22 infoU32 u7 xs x rfl rfl hown1 hB1.size (by omega) (by omega) ?_; intro v1 w9 hown2 hgrow hloc))
          have hrg2 := hrg1.kept hgrow HN2.out.1 HN2.out.2
          go_roundw
          case rel => exact ⟨_, cnt', xs ++ [x], hrg2, hown2, HXS, by simp; omega, ext_grown hB1 hgrow hB1.size hown1 (Nat.le_refl _)⟩
          case measure => rw [hrg2.left_eq, HLE.out]; omega
theorem colors_any (m : ImgP) (A : Option Addr) (c : Nat) (w : World) (hps : RI .u32 w A c m.P) (hpx : ∀ x ∈ m.P, IsPx x) (hS : SortsAt (colsF m.P).length) :
    Calls Try.prog 16 #[.agg #[.int .i64 m.W, .int .i64 m.H, .slice A m.P.length c]] w fun e w' => ∃ B d, e = .returned (.tuple #[.slice B (colsR m).length d, .bool (colsOk m)]) ∧ RI .u32 w' B d (colsR m) ∧ Below w.heap.size w w' := by
  cases hg : goodB m.W m.H m.P.length
  · refine (colors_not m.W m.H A c m.P w hg).mono ?_
    rintro e w' ⟨rfl, hb⟩
    have e1 : colsOk m = false := by unfold colsOk; rw [hg]; rfl
    have e2 : colsR m = [] := by unfold colsR; rw [e1]; rfl
    rw [e1, e2]
    exact ⟨none, 0, rfl, RI.nil_ _ _ _ (by omega) _, hb⟩
  · exact colors_ok m.W m.H A c m.P w hps hpx hg hS
end Go.Proofs.Ytlhhihdfcbkmmaa
