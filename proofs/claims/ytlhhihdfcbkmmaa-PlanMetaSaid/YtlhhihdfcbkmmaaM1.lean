import Derived.Test.YtlhhihdfcbkmmaaG4
set_option linter.unusedVariables false
set_option linter.unusedSimpArgs false
namespace Go.Proofs.Ytlhhihdfcbkmmaa
open Go.RowKit
def bitsB (b : Int) : Bool := decide (2 ≤ b ∧ b ≤ 9)
def okMeta (n : Int) : Bool := decide (0 ≤ n ∧ n ≤ 63)
def manyI (W H b : Int) : Int := IntKind.i64.wrap (blocksI W b * blocksI H b)
/-- May groups be so? -/
def metaB (W H b : Int) (ms : List Int) : Bool := decide (b = 0) || (bitsB b && decide ((ms.length : Int) = manyI W H b) && ms.all okMeta)
theorem lbits_any (b : Int) (w : World) : Calls Try.prog 99 #[.int .i64 b] w fun e w' => e = .returned (.bool (bitsB b)) ∧ w = w' := by
  go_enter Try.func99, Try.ntmps99
  go_wp2
  all_goals
    go_ret
    refine ⟨ret_bool ?_, rfl⟩
    unfold bitsB
    rw [Bool.eq_iff_iff]; simp; omega
theorem badmeta_any (n : Int) (w : World) : Calls Try.prog 98 #[.int .i64 n] w fun e w' => e = .returned (.bool (!okMeta n)) ∧ w = w' := by
  go_enter Try.func98, Try.ntmps98
  go_wp2
  all_goals
    go_ret
    refine ⟨ret_bool ?_, rfl⟩
    unfold okMeta
    rw [Bool.eq_iff_iff]; simp; omega
theorem many_any (W H b : Int) (A : Option Addr) (n c : Nat) (w : World) :
    Calls Try.prog 75 #[.agg #[.int .i64 W, .int .i64 H, .slice A n c], .int .i64 b] w fun e w' => e = .returned (.int .i64 (manyI W H b)) ∧ Below w.heap.size w w' := by
  go_enter Try.func75, Try.ntmps75
  go_wp2_with fail
  refine wp_region_k (S := fun w' => Blk w' w.heap.size 24 #[.int .i64 W, .int .i64 H, .slice A n c] ∧ Below w.heap.size w w')
    ⟨Blk.new _ _ _, ext_alloc (Below.refl _ _) _⟩ (fun w1 w2 h hb => ⟨h.1.ext hb, ext_then h.2 hb⟩)
    9 (fun | 3 => some (fun _ u _ => u = .int .i64 (blocksI W b)) | 7 => some (fun _ u _ => u = .int .i64 (blocksI H b)) | _ => none) (by rintro k b h vs u w w' hb hx; dsimp only at h; split at h <;> first | (cases h; exact hb) | (cases h; obtain ⟨g, e, hb, hl⟩ := hb; exact ⟨g, e, hb.ext hx, hl⟩) | cases h) (by kernel_rfl) (by kernel_rfl) ?_
  rintro w0 ⟨b1, HW⟩
  simp only [List.take_succ_cons, List.take_zero, List.drop_succ_cons, List.drop_zero]
  have c1 := ExtOf.cells b1
  repeat (first
    | (refine free_q (by rfl) (fun K hK => ?_); go_simp; refine hK _ ?_; clear hK K)
    | (refine free_c (by rfl) 45 #[.int .i64 W, .int .i64 b] (by rfl) (fun w => by (go_simp; done)) (fun δ _ => (blocksr_any _ _ _).mono (by rintro e w' ⟨rfl, rfl⟩; exact ⟨_, rfl, Below.refl _ _, rfl⟩)) (fun v δ _ hv => ?_); obtain rfl := hv; (try dsimp only [Act.put, List.setIfInBounds_toArray, List.set_cons_zero, List.set_cons_succ]))
    | (refine free_c (by rfl) 45 #[.int .i64 H, .int .i64 b] (by rfl) (fun w => by (go_simp; done)) (fun δ _ => (blocksr_any _ _ _).mono (by rintro e w' ⟨rfl, rfl⟩; exact ⟨_, rfl, Below.refl _ _, rfl⟩)) (fun v δ _ hv => ?_); obtain rfl := hv; (try dsimp only [Act.put, List.setIfInBounds_toArray, List.set_cons_zero, List.set_cons_succ])))
  refine free_nil ?_
  rintro w5 ⟨d1, HW'⟩ - -
  clear b1 HW c1
  go_wp2_with fail
  go_ret
  exact ⟨rfl, HW'⟩
/-- Where, of what is there, the first one lies that f takes. -/
def firstOf (f : Int → Bool) (xs : List Int) : Int := if xs.any f then (xs.findIdx f : Int) else -1
theorem any_take_succ {f : Int → Bool} {xs : List Int} {k : Nat} (hk : k < xs.length) (h : (xs.take k).any f = false) : (xs.take (k + 1)).any f = f (xs.getD k 0) := by
  rw [List.take_succ_eq_append_getElem hk, List.any_append, h, List.getD_eq_getElem?_getD, List.getElem?_eq_getElem hk]
  simp
theorem any_of_at {f : Int → Bool} {xs : List Int} {k : Nat} (hk : k < xs.length) (h : f (xs.getD k 0) = true) : xs.any f = true := by
  rw [List.any_eq_true]
  rw [List.getD_eq_getElem?_getD, List.getElem?_eq_getElem hk] at h
  exact ⟨xs[k], List.getElem_mem hk, h⟩
set_option maxHeartbeats 400000 in
theorem index_any (f : Int → Bool) (g : FuncId) (hE : ∀ (args : Array Value) (w : World), (callFunc g args).run Try.prog w = .ok (.enter g args) w) (hF : ∀ (n : Int) (w : World), Calls Try.prog g #[.int .i64 n] w fun e w' => e = .returned (.bool (f n)) ∧ w = w')
    (A : Option Addr) (c : Nat) (xs : List Int) (w : World) (hx : RI .i64 w A c xs) :
    Calls Try.prog 132 #[.slice A xs.length c, .func (.func g) #[] #[]] w fun e w' => (∃ i : Int, e = .returned (.int .i64 i) ∧ (xs.any f = decide (0 ≤ i))) ∧ Below w.heap.size w w' := by
  have hl := hx.le; have ht := hx.top
  go_enter Try.func132, Try.ntmps132
  go_wp2
  go_loopw [8] (fun i wr => ∃ k : Nat, k ≤ xs.length ∧ i = .int .i64 k ∧ (xs.take k).any f = false ∧ Below w.heap.size w wr) (fun i _ => xs.length - (intOf i).toNat)
  case atStart => exact ⟨0, Nat.zero_le _, rfl, by simp, Below.refl _ _⟩
  case round =>
    obtain ⟨k, hk, rfl, he, hb⟩ := hrel
    by_cases hlt : k < xs.length
    · obtain ⟨b1, o1, rfl, h1, c1⟩ := hx.at_ (by omega)
      have e1 := (hb.cell (p := ⟨b1, o1 + k, none⟩) h1).trans (c1 k hlt)
      have hn := any_take_succ (f := f) hlt he
      have hy := any_of_at (f := f) hlt
      generalize xs.getD k 0 = x at e1 hn hy
      have HN := Lib.hid hn; have HY := Lib.hid hy
      clear c1 hn hy
      go_wp2_with fail
      refine (hF x _).mono ?_
      rintro e w' ⟨rfl, rfl⟩
      cases hfx : f x
      · go_wp2_with fail
        go_roundw
        case rel => exact ⟨k + 1, by omega, by go_num, by rw [HN.out, hfx], hb⟩
        case measure => simp [intOf]; omega
      · go_wp2_with fail
        go_ret
        exact ⟨⟨k, rfl, by rw [HY.out hfx]; simp⟩, hb⟩
    · go_wp2_with fail
      have : k = xs.length := by omega
      subst this
      go_ret
      exact ⟨⟨-1, rfl, by rw [List.take_length] at he; rw [he]; rfl⟩, hb⟩
theorem contains_any (f : Int → Bool) (g : FuncId) (hE : ∀ (args : Array Value) (w : World), (callFunc g args).run Try.prog w = .ok (.enter g args) w) (hF : ∀ (n : Int) (w : World), Calls Try.prog g #[.int .i64 n] w fun e w' => e = .returned (.bool (f n)) ∧ w = w')
    (A : Option Addr) (c : Nat) (xs : List Int) (w : World) (hx : RI .i64 w A c xs) :
    Calls Try.prog 100 #[.slice A xs.length c, .func (.func g) #[] #[]] w fun e w' => e = .returned (.bool (xs.any f)) ∧ Below w.heap.size w w' := by
  go_enter Try.func100, Try.ntmps100
  go_wp2_with fail
  refine (index_any f g hE hF A c xs w hx).mono ?_
  rintro e w' ⟨⟨i, rfl, hi⟩, hb⟩
  go_wp2_with fail
  go_ret
  exact ⟨ret_bool (by rw [hi]), hb⟩
theorem metaB_split (W H b : Int) (ms : List Int) (hb : ¬ b = 0) : metaB W H b ms = (bitsB b && ((ms.length : Int) == manyI W H b) && !(ms.any fun n => !okMeta n)) := by
  unfold metaB
  have h1 : decide (b = 0) = false := by simpa using hb
  have h2 : (!(ms.any fun n => !okMeta n)) = ms.all okMeta := by simp [List.all_eq_not_any_not]
  rw [h1, h2, Bool.false_or]
  congr 2
set_option maxRecDepth 100000 in
set_option maxHeartbeats 1000000 in
theorem meta_any (W H : Int) (A : Option Addr) (N c0 : Nat) (S M : Option Addr) (n c d : Nat) (ca mb : Int) (ms : List Int) (w : World) (hM : RI .i64 w M d ms) (k : Nat) (hk : k = ms.length) :
    Calls Try.prog 70 #[.agg #[.int .i64 W, .int .i64 H, .slice A N c0], .agg #[.slice S n c, .int .i64 0, .slice none 0 0, .int .i64 0, .slice none 0 0, .int .i64 ca, .int .i64 mb, .slice M k d, .slice none 0 0]] w fun e w' => e = .returned (.bool (metaB W H mb ms)) ∧ Below w.heap.size w w' := by
  by_cases hmb : mb = 0
  · have hr : metaB W H mb ms = true := by subst hmb; simp [metaB]
    rw [hr]
    exact meta0 W H A N c0 S M n c k d ca mb hmb w
  · rw [metaB_split W H mb ms hmb]
    subst hk
    have hmz : (mb == 0) = false := by simpa using hmb
    have hB0 := ext_alloc (ext_alloc (Below.refl w.heap.size w) (.cells #[.int .i64 W, .int .i64 H, .slice A N c0] 24)) (.cells #[.slice S n c, .int .i64 0, .slice none 0 0, .int .i64 0, .slice none 0 0, .int .i64 ca, .int .i64 mb, .slice M ms.length d, .slice none 0 0] 69)
    obtain ⟨q1, hq1⟩ : ∃ q, q = bitsB mb := ⟨_, rfl⟩
    obtain ⟨q2, hq2⟩ : ∃ q, q = ((ms.length : Int) == manyI W H mb) := ⟨_, rfl⟩
    obtain ⟨q3, hq3⟩ : ∃ q, q = (ms.any fun n => !okMeta n) := ⟨_, rfl⟩
    have HQ := Lib.hid (And.intro hq1 (And.intro hq2 hq3))
    rw [← hq1, ← hq2, ← hq3]
    unfold manyI at hq2
    clear hq1 hq3
    have hq2' := hq2.symm
    clear hq2
    go_enter Try.func70, Try.ntmps70
    cases q1 <;> cases q2 <;> cases q3
    all_goals
      have HX := Lib.hid hB0
      clear hB0
      go_wp2_with fail
      refine wp_region_k (S := fun w' => Blk w' w.heap.size 24 #[.int .i64 W, .int .i64 H, .slice A N c0] ∧ Blk w' (w.heap.size + 1) 69 #[.slice S n c, .int .i64 0, .slice none 0 0, .int .i64 0, .slice none 0 0, .int .i64 ca, .int .i64 mb, .slice M ms.length d, .slice none 0 0] ∧ Below w.heap.size w w')
        ⟨(Blk.new _ _ _).alloc _, Blk.new' (by simp only [size_alloc]) _ _, HX.out⟩ (fun w1 w2 h hb => ⟨h.1.ext hb, h.2.1.ext hb, ext_then h.2.2 hb⟩)
        27 (fun | 2 => some (fun _ u _ => u = .bool (bitsB mb)) | 11 => some (fun _ u _ => u = .int .i64 (blocksI W mb)) | 16 => some (fun _ u _ => u = .int .i64 (blocksI H mb)) | 24 => some (fun _ u _ => u = .bool (ms.any fun n => !okMeta n)) | _ => none) (by rintro k b h vs u w w' hb hx; dsimp only at h; split at h <;> first | (cases h; exact hb) | (cases h; obtain ⟨g, e, hb, hl⟩ := hb; exact ⟨g, e, hb.ext hx, hl⟩) | cases h) (by kernel_rfl) (by kernel_rfl) ?_
      rintro w0 ⟨b1, b2, HW⟩
      simp only [List.take_succ_cons, List.take_zero, List.drop_succ_cons, List.drop_zero]
      have c1 := ExtOf.cells b1; have c2 := ExtOf.cells b2
      repeat (first
        | (refine free_q (by rfl) (fun K hK => ?_); go_simp; refine hK _ ?_; clear hK K)
        | (refine free_off ?_ ?_; (focus (first | rfl | go_simp)); dsimp only [Act.put, List.setIfInBounds_toArray, List.set_cons_zero, List.set_cons_succ])
        | (refine free_c (by rfl) 99 #[.int .i64 mb] (by rfl) (fun w => by (go_simp; done)) (fun δ _ => (lbits_any _ _).mono (by rintro e w' ⟨rfl, rfl⟩; exact ⟨_, rfl, Below.refl _ _, rfl⟩)) (fun v δ _ hv => ?_); obtain rfl := hv; (try dsimp only [Act.put, List.setIfInBounds_toArray, List.set_cons_zero, List.set_cons_succ]); (try rw [← HQ.out.1]))
        | (refine free_c (by rfl) 44 #[.int .i64 W, .int .i64 mb] (by rfl) (fun w => by (go_simp; done)) (fun δ _ => (blocks_any _ _ _).mono (by rintro e w' ⟨rfl, rfl⟩; exact ⟨_, rfl, Below.refl _ _, rfl⟩)) (fun v δ _ hv => ?_); obtain rfl := hv; (try dsimp only [Act.put, List.setIfInBounds_toArray, List.set_cons_zero, List.set_cons_succ]))
        | (refine free_c (by rfl) 44 #[.int .i64 H, .int .i64 mb] (by rfl) (fun w => by (go_simp; done)) (fun δ _ => (blocks_any _ _ _).mono (by rintro e w' ⟨rfl, rfl⟩; exact ⟨_, rfl, Below.refl _ _, rfl⟩)) (fun v δ _ hv => ?_); obtain rfl := hv; (try dsimp only [Act.put, List.setIfInBounds_toArray, List.set_cons_zero, List.set_cons_succ]))
        | (refine free_c (by rfl) 100 #[.slice M ms.length d, .func (.func 98) #[] #[]] (by rfl) (fun w => by (go_simp; done)) (fun δ _ => (contains_any (fun n => !okMeta n) 98 (fun args w => by kernel_rfl) badmeta_any M d ms _ (hM.mono (ext_then HW δ.h))).mono (by rintro e w' ⟨rfl, hb⟩; exact ⟨_, rfl, hb, rfl⟩)) (fun v δ _ hv => ?_); obtain rfl := hv; (try dsimp only [Act.put, List.setIfInBounds_toArray, List.set_cons_zero, List.set_cons_succ]); (try rw [← HQ.out.2.2])))
      refine free_nil ?_
      rintro w5 ⟨d1, d2, HW'⟩ - -
      clear b1 b2 HW c1 c2
      go_wp2_with fail
      go_ret
      exact ⟨rfl, HW'⟩
end Go.Proofs.Ytlhhihdfcbkmmaa
