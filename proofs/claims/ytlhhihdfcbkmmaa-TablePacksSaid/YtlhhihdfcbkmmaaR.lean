/- A statement whose order is open: one walk in the text's order serves every order, where each operation but a last chain leaves all that was there as it was. -/
import Derived.StillTail
import Derived.Deep.Quiet
import Derived.Below
import Derived.Tactics
import Derived.Laws.BitsLemmas
import Derived.WalkKit
set_option linter.unusedVariables false
set_option linter.unusedSimpArgs false
namespace Go.Proofs.Ytlhhihdfcbkmmaa
open Go.RowKit

/-- A world that bears all that W bears. -/
structure ExtOf (W : World) where
  w : World
  h : Below W.heap.size W w
instance (W : World) : Nonempty (ExtOf W) := ⟨⟨W, Below.refl _ _⟩⟩
theorem ExtOf.cell {W : World} {b o : Nat} {v : Value} (h : W.cell? ⟨b, o, none⟩ = some v) (δ : ExtOf W) : δ.w.cell? ⟨b, o, none⟩ = some v :=
  (δ.h.cell (World.block_lt_of_cell? W _ h)).trans h
theorem ext_step {w w1 w2 : World} (h : Below w.heap.size w w1) (k : Below w1.heap.size w1 w2) : Below w.heap.size w w2 := h.trans (k.mono h.size)
def ExtOf.on {W : World} (δ : ExtOf W) {w' : World} (k : Below δ.w.heap.size δ.w w') : ExtOf W := ⟨w', ext_step δ.h k⟩

abbrev Facts := Nat → World → Prop
abbrev Kinds := Nat → Option (List Value → Value → World → Prop)
/-- What is told of an operation's result is true later on, too. -/
def Lasting (B : Kinds) : Prop := ∀ k b, B k = some b → ∀ vs u w w', b vs u w → Below w.heap.size w w' → b vs u w'
def upd (f : Facts) (i : Nat) (p : World → Prop) : Facts := fun j w => f j w ∧ (j = i → p w)
theorem upd_comm (f : Facts) (i j : Nat) (p q : World → Prop) : upd (upd f i p) j q = upd (upd f j q) i p := by
  funext k w
  simp only [upd, eq_iff_iff]
  exact ⟨fun ⟨⟨a, b⟩, c⟩ => ⟨⟨a, c⟩, b⟩, fun ⟨⟨a, b⟩, c⟩ => ⟨⟨a, c⟩, b⟩⟩
theorem upd_true (f : Facts) (i : Nat) : upd f i (fun _ => True) = f := by
  funext k w
  simp [upd]
def LastingF (f : Facts) : Prop := ∀ k w w', f k w → Below w.heap.size w w' → f k w'

section
variable {P : Program} {ops : Array Oper} {W : World} {B : Kinds}

def valueAt (P : Program) (w : World) (v : Value) : Result Next → Prop
  | .ok (.value u) w' => w' = w ∧ u = v
  | .ok .skip w' => w' = w ∧ v = undef
  | _ => False
def freeUpon (P : Program) (w : World) (b : Value → World → Prop) : Result Next → Prop
  | .ok (.value u) w' => Below w.heap.size w w' ∧ b u w'
  | .ok .skip w' => Below w.heap.size w w' ∧ b undef w'
  | .ok (.enter f args) w' => Below w.heap.size w w' ∧ Calls P f args w' fun e w'' => ∃ u, e = .returned u ∧ Below w'.heap.size w' w'' ∧ b u w''
  | _ => False
theorem valueAt_value (w : World) (v u : Value) : valueAt P w v (.ok (.value u) w) = (u = v) := by simp [valueAt]
theorem valueAt_skip (w : World) (v : Value) : valueAt P w v (.ok .skip w) = (v = undef) := by simp [valueAt]

def needs (o : Oper) : List Nat := (o.after.toList.filter (Region.binds .any ·)).map (·.on)
def vals (o : Oper) (a : Act) : List Value := o.op.operands.toList.map a.eval

def Oblig (P : Program) (ops : Array Oper) (W : World) (B : Kinds) (i : Nat) (o : Oper) (facts : Facts) (a : Act) : Prop :=
  Region.wanted o (yielded ops a.tmps) = true → match B i with
    | none => ∃ v, ∀ δ : ExtOf W, valueAt P δ.w v ((execOp a.eval o).run P δ.w)
    | some b => ∀ δ : ExtOf W, (∀ k ∈ needs o, facts k δ.w) → freeUpon P δ.w (b (vals o a)) ((execOp a.eval o).run P δ.w)
def Poss (P : Program) (ops : Array Oper) (W : World) (B : Kinds) (i : Nat) (o : Oper) (facts : Facts) (a : Act) (v : Value) : Prop :=
  if Region.wanted o (yielded ops a.tmps) = true then match B i with
    | none => ∃ δ : ExtOf W, (∀ k, facts k δ.w) ∧ valueAt P δ.w v ((execOp a.eval o).run P δ.w)
    | some b => ∃ δ : ExtOf W, (∀ k, facts k δ.w) ∧ b (vals o a) v δ.w
  else v = undef
def newFact (ops : Array Oper) (B : Kinds) (i : Nat) (o : Oper) (a : Act) (v : Value) : World → Prop :=
  if Region.wanted o (yielded ops a.tmps) = true then match B i with
    | none => fun _ => True
    | some b => b (vals o a) v
  else fun _ => True
def fOp (P : Program) (ops : Array Oper) (W : World) (B : Kinds) (i : Nat) (K : Facts → Act → Prop) (facts : Facts) (a : Act) : Prop :=
  match ops[i]? with
  | none => K facts a
  | some o => Oblig P ops W B i o facts a ∧ ∀ v, Poss P ops W B i o facts a v → K (upd facts i (newFact ops B i o a v)) (a.put o.dst v)

theorem fOp_mono {i : Nat} {K K' : Facts → Act → Prop} {facts : Facts} {a : Act} (h : ∀ f a, K f a → K' f a) (hh : fOp P ops W B i K facts a) : fOp P ops W B i K' facts a := by
  unfold fOp at *
  split
  · rename_i ho; simp only [ho] at hh; exact h _ _ hh
  · rename_i o ho; simp only [ho] at hh; exact ⟨hh.1, fun v hv => h _ _ (hh.2 v hv)⟩

def wpAnyF (P : Program) (ops : Array Oper) (W : World) (B : Kinds) (n : Nat) (L : Array Bool → Facts → Act → Prop) : Nat → Array Bool → Facts → Act → Prop
  | 0, listed, facts, a => L listed facts a
  | f + 1, listed, facts, a => Region.ready .any ops listed ≠ [] ∧ ∀ i ∈ Region.ready .any ops listed, i < n ∧ fOp P ops W B i (wpAnyF P ops W B n L f (listed.setIfInBounds i true)) facts a

/-- The text's order. -/
def wpFree (P : Program) (ops : Array Oper) (W : World) (B : Kinds) (L : Facts → Act → Prop) : List Oper → Nat → Facts → Act → Prop
  | [], _, facts, a => L facts a
  | o :: rest, k, facts, a => Oblig P ops W B k o facts a ∧ ∀ v, Poss P ops W B k o facts a v → wpFree P ops W B L rest (k + 1) (upd facts k (newFact ops B k o a v)) (a.put o.dst v)

/-! ### what does not hang on an operation that is apart -/
theorem vals_put {o : Oper} {a : Act} {dst : Option Tmp} {v : Value} (h : ∀ d, dst = some d → d ∉ o.looksAt ops) : vals o (a.put dst v) = vals o a := by
  unfold vals
  refine List.map_congr_left fun x hx => Act.eval_put fun d hd hxd => h d hd ?_
  subst hxd
  exact List.mem_append_left _ (List.mem_filterMap.2 ⟨.tmp d, by simpa using hx, rfl⟩)
variable {i : Nat} {o : Oper} {facts : Facts} {a : Act}
theorem Oblig.put {dst : Option Tmp} {v : Value} (hs : ∀ cs b, o.op ≠ .select cs b) (h : ∀ d, dst = some d → d ∉ o.looksAt ops) : Oblig P ops W B i o facts (a.put dst v) = Oblig P ops W B i o facts a := by
  unfold Oblig
  rw [execOp_put o hs a dst v h, wanted_put o a dst v h, vals_put h]
theorem Poss.put {dst : Option Tmp} {v u : Value} (hs : ∀ cs b, o.op ≠ .select cs b) (h : ∀ d, dst = some d → d ∉ o.looksAt ops) : Poss P ops W B i o facts (a.put dst v) u = Poss P ops W B i o facts a u := by
  unfold Poss
  rw [execOp_put o hs a dst v h, wanted_put o a dst v h, vals_put h]
theorem newFact.put {dst : Option Tmp} {v u : Value} (h : ∀ d, dst = some d → d ∉ o.looksAt ops) : newFact ops B i o (a.put dst v) u = newFact ops B i o a u := by
  unfold newFact
  rw [wanted_put o a dst v h, vals_put h]
theorem Oblig.upd_iff {j : Nat} {p : World → Prop} (h : j ∉ needs o) : Oblig P ops W B i o (upd facts j p) a ↔ Oblig P ops W B i o facts a := by
  unfold Oblig
  have e : ∀ w, (∀ k ∈ needs o, upd facts j p k w) ↔ ∀ k ∈ needs o, facts k w := fun w =>
    ⟨fun g k hk => (g k hk).1, fun g k hk => ⟨g k hk, fun e => absurd hk (e ▸ h)⟩⟩
  cases B i <;> simp only [e]

/-! ### an operation, carried out -/
theorem poss_exists (hO : Oblig P ops W B i o facts a) (hL : Lasting B) (hF : LastingF facts) (δ : ExtOf W) (hf : ∀ k, facts k δ.w) :
    ∃ v, Poss P ops W B i o facts a v := by
  unfold Poss
  by_cases hw : Region.wanted o (yielded ops a.tmps) = true
  · simp only [if_pos hw]
    have h := hO hw
    cases hB : B i with
    | none =>
      simp only [hB] at h
      obtain ⟨v, h⟩ := h
      exact ⟨v, δ, hf, h δ⟩
    | some b =>
      simp only [hB] at h
      have h1 := h δ fun k _ => hf k
      generalize (execOp a.eval o).run P δ.w = r at h1
      cases r with
      | ok n w' =>
        cases n <;> simp only [freeUpon] at h1
        case value u => exact ⟨u, δ.on h1.1, fun k => hF _ _ _ (hf k) h1.1, h1.2⟩
        case skip => exact ⟨undef, δ.on h1.1, fun k => hF _ _ _ (hf k) h1.1, h1.2⟩
        case enter f args =>
          obtain ⟨h2, hc⟩ := h1
          obtain ⟨e, w'', fr, ⟨u, _, h3, h4⟩, _⟩ := hc []
          exact ⟨u, (δ.on h2).on h3, fun k => hF _ _ _ (hF _ _ _ (hf k) h2) h3, h4⟩
      | halt x w' => cases x <;> simp only [freeUpon] at h1
  · simp only [if_neg hw]
    exact ⟨_, rfl⟩

theorem lastingF_upd (hL : Lasting B) (hF : LastingF facts) (v : Value) : LastingF (upd facts i (newFact ops B i o a v)) := by
  intro k w w' h hb
  refine ⟨hF _ _ _ h.1 hb, fun e => ?_⟩
  have h2 := h.2 e
  unfold newFact at h2 ⊢
  by_cases hw : Region.wanted o (yielded ops a.tmps) = true
  · simp only [if_pos hw] at h2 ⊢
    cases hB : B i with
    | none => trivial
    | some b =>
      simp only [hB] at h2
      exact hL i b hB _ _ _ _ h2 hb
  · simp only [if_neg hw]
/-- Where a value may have come of it, there is a world in which all that is told is true. -/
theorem poss_world {v : Value} (hv : Poss P ops W B i o facts a v) (hne : ∃ δ : ExtOf W, ∀ k, facts k δ.w) : ∃ δ : ExtOf W, ∀ k, upd facts i (newFact ops B i o a v) k δ.w := by
  unfold Poss at hv
  unfold newFact
  split at hv
  · rename_i hw
    simp only [if_pos hw]
    split at hv
    · rename_i hB
      obtain ⟨δ, h1, _⟩ := hv
      exact ⟨δ, fun k => ⟨h1 k, fun _ => trivial⟩⟩
    · rename_i b hB
      obtain ⟨δ, h1, h2⟩ := hv
      exact ⟨δ, fun k => ⟨h1 k, fun _ => h2⟩⟩
  · rename_i hw
    simp only [if_neg hw]
    obtain ⟨δ, h1⟩ := hne
    exact ⟨δ, fun k => ⟨h1 k, fun _ => trivial⟩⟩

theorem Oper.wp_of_oblig {K' : Act → World → Prop} {Q' : Exit → Act → World → Prop} (hO : Oblig P ops W B i o facts a) (hw : Region.wanted o (yielded ops a.tmps) = true) (hF : LastingF facts) (δ : ExtOf W) (hf : ∀ k, facts k δ.w)
    (h : ∀ v (δ' : ExtOf W), Poss P ops W B i o facts a v → (∀ k, upd facts i (newFact ops B i o a v) k δ'.w) → K' (a.put o.dst v) δ'.w) : o.wp P a δ.w K' Q' := by
  have h0 := hO hw
  unfold Poss newFact at h
  simp only [if_pos hw] at h
  unfold Oper.wp
  cases hB : B i with
  | none =>
    simp only [hB] at h0 h
    obtain ⟨v, h0⟩ := h0
    have h1 := h0 δ
    generalize hr : (execOp a.eval o).run P δ.w = r at h1
    cases r with
    | ok n w' =>
      cases n <;> simp only [valueAt] at h1 <;> simp only [Oper.upon]
      case value u =>
        obtain ⟨rfl, rfl⟩ := h1
        exact h u δ ⟨δ, hf, by rw [hr]; simp [valueAt]⟩ fun k => ⟨hf k, fun _ => trivial⟩
      case skip =>
        obtain ⟨rfl, rfl⟩ := h1
        exact h undef δ ⟨δ, hf, by rw [hr]; simp [valueAt]⟩ fun k => ⟨hf k, fun _ => trivial⟩
    | halt x w' => cases x <;> simp only [valueAt] at h1
  | some b =>
    simp only [hB] at h0 h
    have h1 := h0 δ fun k _ => hf k
    generalize (execOp a.eval o).run P δ.w = r at h1
    cases r with
    | ok n w' =>
      cases n <;> simp only [freeUpon] at h1 <;> simp only [Oper.upon]
      case value u =>
        have g : ∀ k, facts k w' := fun k => hF _ _ _ (hf k) h1.1
        exact h u (δ.on h1.1) ⟨δ.on h1.1, g, h1.2⟩ fun k => ⟨g k, fun _ => h1.2⟩
      case skip =>
        have g : ∀ k, facts k w' := fun k => hF _ _ _ (hf k) h1.1
        exact h undef (δ.on h1.1) ⟨δ.on h1.1, g, h1.2⟩ fun k => ⟨g k, fun _ => h1.2⟩
      case enter f args =>
        obtain ⟨h2, hc⟩ := h1
        refine hc.mono ?_
        rintro e w'' ⟨u, rfl, h3, h4⟩
        have g : ∀ k, facts k w'' := fun k => hF _ _ _ (hF _ _ _ (hf k) h2) h3
        exact h u ((δ.on h2).on h3) ⟨(δ.on h2).on h3, g, h4⟩ fun k => ⟨g k, fun _ => h4⟩
    | halt x w' => cases x <;> simp only [freeUpon] at h1

theorem wpOp_of_fOp {K : Facts → Act → Prop} {K' : Act → World → Prop} {Q' : Exit → Act → World → Prop} (hL : Lasting B) (hF : LastingF facts) (δ : ExtOf W) (hf : ∀ k, facts k δ.w)
    (h : ∀ f a (δ' : ExtOf W), LastingF f → (∀ k, f k δ'.w) → K f a → K' a δ'.w) (hh : fOp P ops W B i K facts a) : wpOp P ops Q' i K' a δ.w := by
  unfold fOp at hh
  unfold wpOp
  split
  · rename_i ho; simp only [ho] at hh; exact h _ _ δ hF hf hh
  · rename_i o ho
    simp only [ho] at hh
    split
    · rename_i hw
      exact .inl (Oper.wp_of_oblig hh.1 hw hF δ hf fun v δ' hv hf' => h _ _ δ' (lastingF_upd hL hF v) hf' (hh.2 v hv))
    · rename_i hw
      have hv : Poss P ops W B i o facts a undef := by unfold Poss; rw [if_neg hw]
      refine h _ _ δ (lastingF_upd hL hF undef) (fun k => ⟨hf k, fun _ => ?_⟩) (hh.2 undef hv)
      unfold newFact
      rw [if_neg hw]
      trivial

theorem wpAny_of_free {n g : Nat} {L : Array Bool → Facts → Act → Prop} {Q' : Exit → Act → World → Prop} (hL : Lasting B)
    (hl : ∀ listed f a (δ : ExtOf W), (∀ k, f k δ.w) → L listed f a → wpAny P .any ops Q' g listed a δ.w) :
    ∀ (fuel : Nat) (listed : Array Bool) (facts : Facts) (a : Act) (δ : ExtOf W), LastingF facts → (∀ k, facts k δ.w) → wpAnyF P ops W B n L fuel listed facts a → wpAny P .any ops Q' (fuel + g) listed a δ.w
  | 0, listed, facts, a, δ, hF, hf, h => by rw [Nat.zero_add]; exact hl _ _ _ δ hf h
  | fuel + 1, listed, facts, a, δ, hF, hf, h => by
    rw [show fuel + 1 + g = (fuel + g) + 1 by omega]
    exact ⟨fun h0 => absurd h0 h.1, fun i hi => wpOp_of_fOp hL hF δ hf (fun f a' δ' hF' hf' h' => wpAny_of_free hL hl fuel _ f a' δ' hF' hf' h') (h.2 i hi).2⟩

/-- An operation that may come up now may be taken first. -/
theorem wpAnyF_first {n i : Nat} {oi : Oper} {L : Array Bool → Facts → Act → Prop} (hLast : Lasting B) (hi : ops[i]? = some oi) (hsel : ∀ (j : Nat) (o : Oper) cs b, ops[j]? = some o → o.op ≠ .select cs b)
    (hs : Region.sinkB .any ops n = true) (hc : Region.chainB .any ops n = true) (hn : n < ops.size) (hin : i < n)
    (hdone : ∀ listed f a, L listed f a → ∀ j ∈ Region.ready .any ops listed, n ≤ j) :
    ∀ (fuel : Nat) (listed : Array Bool) (facts : Facts) (a : Act), HeadInv .any ops n listed → LastingF facts → (∃ δ : ExtOf W, ∀ k, facts k δ.w) →
      (∀ j oj, ops[j]? = some oj → j ≠ i → listed.getD j true = false → (∀ e ∈ oj.after, Region.binds .any e = true → e.on ≠ i) → oi.apart ops oj = true) →
      i ∈ Region.ready .any ops listed → Oblig P ops W B i oi facts a →
      (∀ v, Poss P ops W B i oi facts a v → wpAnyF P ops W B n L fuel (listed.setIfInBounds i true) (upd facts i (newFact ops B i oi a v)) (a.put oi.dst v)) →
      wpAnyF P ops W B n L (fuel + 1) listed facts a := by
  intro fuel
  induction fuel with
  | zero =>
    intro listed facts a inv hF hne _ hr hO H
    have hun := (mem_ready.1 hr).1
    refine ⟨fun h => (by rw [h] at hr; cases hr), fun j hj => ?_⟩
    have hjn : j < n := by
      rcases Nat.lt_or_ge j n with h | h
      · exact h
      · exact absurd hj (tail_waits hs hc hn inv _ i rfl hin hun j h)
    refine ⟨hjn, ?_⟩
    by_cases hji : j = i
    · subst hji
      unfold fOp
      simp only [hi]
      exact ⟨hO, H⟩
    · obtain ⟨δ, hδ⟩ := hne
      obtain ⟨v, hv⟩ := poss_exists hO hLast hF δ hδ
      have := hdone _ _ _ (H v hv) j (ready_mono hj hji)
      omega
  | succ fuel ih =>
    intro listed facts a inv hF hne hfree hr hO H
    have hun := (mem_ready.1 hr).1
    refine ⟨fun h => (by rw [h] at hr; cases hr), fun j hj => ?_⟩
    have hjn : j < n := by
      rcases Nat.lt_or_ge j n with h | h
      · exact h
      · exact absurd hj (tail_waits hs hc hn inv _ i rfl hin hun j h)
    refine ⟨hjn, ?_⟩
    by_cases hji : j = i
    · subst hji
      unfold fOp
      simp only [hi]
      exact ⟨hO, H⟩
    · obtain ⟨hjun, oj, hoj, hall⟩ := mem_ready.1 hj
      obtain ⟨_, oi', hoi', halli⟩ := mem_ready.1 hr
      have hoo : oi' = oi := Option.some.inj (hoi'.symm.trans hi)
      subst hoo
      have hnot : ∀ e ∈ oj.after, Region.binds .any e = true → e.on ≠ i := fun e he hb heq => by
        have h1 := hall e he hb
        rw [heq, getD_both hun] at h1
        cases h1
      have hnoti : ∀ e ∈ oi'.after, Region.binds .any e = true → e.on ≠ j := fun e he hb heq => by
        have h1 := halli e he hb
        rw [heq, getD_both hjun] at h1
        cases h1
      have hin' : i ∉ needs oj := by
        unfold needs
        intro hm
        obtain ⟨e, he, heq⟩ := List.mem_map.1 hm
        obtain ⟨he1, he2⟩ := List.mem_filter.1 he
        exact hnot e (Array.mem_toList_iff.1 he1) he2 heq
      have hjn' : j ∉ needs oi' := by
        unfold needs
        intro hm
        obtain ⟨e, he, heq⟩ := List.mem_map.1 hm
        obtain ⟨he1, he2⟩ := List.mem_filter.1 he
        exact hnoti e (Array.mem_toList_iff.1 he1) he2 heq
      obtain ⟨p1, p2, p3⟩ := Oper.apart_spec (hfree j oj hoj hji hjun hnot)
      have hsi := fun cs b => hsel i oi' cs b hi
      have hsj := fun cs b => hsel j oj cs b hoj
      have key : ∀ v, Poss P ops W B i oi' facts a v → Oblig P ops W B j oj facts a ∧ ∀ u, Poss P ops W B j oj (upd facts i (newFact ops B i oi' a v)) a u →
          wpAnyF P ops W B n L fuel ((listed.setIfInBounds i true).setIfInBounds j true) (upd (upd facts i (newFact ops B i oi' a v)) j (newFact ops B j oj a u)) ((a.put oi'.dst v).put oj.dst u) := by
        intro v hv
        have h1 := ((H v hv).2 j (ready_mono hj hji)).2
        unfold fOp at h1
        simp only [hoj] at h1
        rw [Oblig.put hsj p1, Oblig.upd_iff hin'] at h1
        refine ⟨h1.1, fun u hu => ?_⟩
        have h2 := h1.2 u (by rw [Poss.put hsj p1]; exact hu)
        rwa [newFact.put p1] at h2
      obtain ⟨δ0, hδ0⟩ := hne
      obtain ⟨v0, hv0⟩ := poss_exists hO hLast hF δ0 hδ0
      have hOj := (key v0 hv0).1
      unfold fOp
      simp only [hoj]
      refine ⟨hOj, fun u hu => ?_⟩
      have hfree' : ∀ k ok, ops[k]? = some ok → k ≠ i → (listed.setIfInBounds j true).getD k true = false →
          (∀ e ∈ ok.after, Region.binds .any e = true → e.on ≠ i) → oi'.apart ops ok = true := fun k ok hk hki hun hno => by
        refine hfree k ok hk hki ?_ hno
        by_cases hjk : j = k
        · subst hjk; exact hjun
        · rw [getD_set_ne true hjk] at hun; exact hun
      refine ih (listed.setIfInBounds j true) _ _ (inv.set hj hjn) (lastingF_upd hLast hF u) (poss_world hu ⟨δ0, hδ0⟩) hfree' (ready_mono hr (Ne.symm hji)) ?_ ?_
      · rw [Oblig.put hsi p3, Oblig.upd_iff hjn']; exact hO
      · intro v hv
        rw [Poss.put hsi p3] at hv
        -- v may have come of i where u has come of j: so u may have come of j where v has come of i
        have hvi : Poss P ops W B i oi' facts a v ∧ Poss P ops W B j oj (upd facts i (newFact ops B i oi' a v)) a u := by
          unfold Poss at hv hu ⊢
          unfold newFact at hv ⊢
          by_cases hwi : Region.wanted oi' (yielded ops a.tmps) = true <;> by_cases hwj : Region.wanted oj (yielded ops a.tmps) = true <;>
            simp only [hwi, hwj, if_true, if_false] at hv hu ⊢
          · have hOj' := hOj hwj
            cases hBi : B i <;> cases hBj : B j <;> simp only [hBi, hBj] at hv hu hOj' ⊢
            · obtain ⟨δ, g1, g2⟩ := hv
              obtain ⟨δ', _, g2'⟩ := hu
              obtain ⟨u0, hu0⟩ := hOj'
              have e : valueAt P δ.w u ((execOp a.eval oj).run P δ.w) := by
                have e1 := hu0 δ'
                have : u = u0 := by
                  generalize (execOp a.eval oj).run P δ'.w = r at e1 g2'
                  cases r with
                  | ok n w' => cases n <;> simp only [valueAt] at e1 g2' <;> first | exact g2'.2.symm.trans e1.2 | exact g2'.2.trans e1.2.symm
                  | halt x w' => cases x <;> simp only [valueAt] at e1
                rw [this]; exact hu0 δ
              exact ⟨⟨δ, fun k => (g1 k).1, g2⟩, ⟨δ, fun k => ⟨(g1 k).1, fun _ => trivial⟩, e⟩⟩
            · rename_i b
              obtain ⟨δ, g1, g2⟩ := hv
              exact ⟨⟨δ, fun k => (g1 k).1, g2⟩, ⟨δ, fun k => ⟨(g1 k).1, fun _ => trivial⟩, (g1 j).2 rfl⟩⟩
            · rename_i b
              obtain ⟨δ, g1, g2⟩ := hv
              obtain ⟨δ', _, g2'⟩ := hu
              obtain ⟨u0, hu0⟩ := hOj'
              have e : valueAt P δ.w u ((execOp a.eval oj).run P δ.w) := by
                have e1 := hu0 δ'
                have : u = u0 := by
                  generalize (execOp a.eval oj).run P δ'.w = r at e1 g2'
                  cases r with
                  | ok n w' => cases n <;> simp only [valueAt] at e1 g2' <;> first | exact g2'.2.symm.trans e1.2 | exact g2'.2.trans e1.2.symm
                  | halt x w' => cases x <;> simp only [valueAt] at e1
                rw [this]; exact hu0 δ
              exact ⟨⟨δ, fun k => (g1 k).1, g2⟩, ⟨δ, fun k => ⟨(g1 k).1, fun _ => g2⟩, e⟩⟩
            · rename_i b b'
              obtain ⟨δ, g1, g2⟩ := hv
              exact ⟨⟨δ, fun k => (g1 k).1, g2⟩, ⟨δ, fun k => ⟨(g1 k).1, fun _ => g2⟩, (g1 j).2 rfl⟩⟩
          · cases hBi : B i <;> simp only [hBi] at hv ⊢
            · obtain ⟨δ, g1, g2⟩ := hv
              exact ⟨⟨δ, fun k => (g1 k).1, g2⟩, hu⟩
            · obtain ⟨δ, g1, g2⟩ := hv
              exact ⟨⟨δ, fun k => (g1 k).1, g2⟩, hu⟩
          · refine ⟨hv, ?_⟩
            cases hBj : B j <;> simp only [hBj] at hu ⊢
            · obtain ⟨δ, g1, g2⟩ := hu
              exact ⟨δ, fun k => ⟨g1 k, fun _ => trivial⟩, g2⟩
            · obtain ⟨δ, g1, g2⟩ := hu
              exact ⟨δ, fun k => ⟨g1 k, fun _ => trivial⟩, g2⟩
          · exact ⟨hv, hu⟩
        have h3 := (key v hvi.1).2 u hvi.2
        rw [newFact.put p3, Array.setIfInBounds_comm _ _ hji, upd_comm, ← Act.put_comm a v u p2]
        exact h3

theorem wpAnyF_lex {n g : Nat} {Lq : Facts → Act → Prop} (hLast : Lasting B) (hsel : Region.noSelect ops = true) (hs : Region.sinkB .any ops n = true) (hc : Region.chainB .any ops n = true) (hn : n < ops.size) :
    ∀ (l : List Oper) (k : Nat) (listed : Array Bool) (facts : Facts) (a : Act), (∀ j, j < l.length → l[j]? = ops[k + j]?) → k + l.length = n → HeadInv .any ops n listed → LastingF facts → (∃ δ : ExtOf W, ∀ k, facts k δ.w) →
    Region.lexHead .any ops g l.length k listed = true → wpFree P ops W B Lq l k facts a →
    wpAnyF P ops W B n (fun listed' f' a' => Region.seqB .any ops g n listed' = true ∧ Lq f' a') l.length listed facts a
  | [], k, listed, facts, a, _, hk, _, _, _, hB, h => by
    have : k = n := by simpa using hk
    subst this
    exact ⟨by simpa [Region.lexHead] using hB, h⟩
  | o :: l, k, listed, facts, a, hl, hk, inv, hF, hne, hB, h => by
    have h0 : ops[k]? = some o := by simpa using (hl 0 (by simp)).symm
    simp only [List.length_cons, Region.lexHead, Bool.and_eq_true] at hB
    obtain ⟨⟨hr, hf⟩, hB'⟩ := hB
    have hkn : k < n := by simp only [List.length_cons] at hk; omega
    have hr' : k ∈ Region.ready .any ops listed := by simpa using hr
    exact wpAnyF_first hLast h0 (Region.noSelect_spec hsel) hs hc hn hkn (fun listed' f' a' hL => seqB_ready hL.1) l.length listed facts a inv hF hne (Region.free_spec h0 hf) hr' h.1
      (fun v hv => wpAnyF_lex hLast hsel hs hc hn l (k + 1) _ _ _ (fun j hj => by have := hl (j + 1) (by simp; omega); simpa [Nat.add_assoc, Nat.add_comm 1 j] using this) (by simp only [List.length_cons] at hk; omega) (inv.set hr' hkn)
        (lastingF_upd hLast hF v) (poss_world hv hne) hB' (h.2 v hv))

/-- The statement as a whole: n operations in whatever order, then a chain. -/
theorem wp_region_free {id : Nat} {Q : Exit → Act → World → Prop} {a : Act} {w : World} {l : List Oper} (n : Nat) (B : Kinds) (hLast : Lasting B) (hm : P.follows .mixedOrders = true) (hB : Region.lexTailB .any l.toArray n = true)
    (h : wpFree P l.toArray w.drew B (fun f a' => ∀ δ : ExtOf w.drew, (∀ k, f k δ.w) → wpList P l.toArray Q (l.drop n) a' δ.w) (l.take n) 0 (fun _ _ => True) a) : (Code.region id l.toArray true).wp P Q a w := by
  simp only [Region.lexTailB, Bool.and_eq_true, decide_eq_true_eq] at hB
  obtain ⟨⟨⟨⟨hsel, hn⟩, hs⟩, hc⟩, hlex⟩ := hB
  have hn' : n < l.length := by simpa using hn
  have htl : (l.take n).length = n := by simp; omega
  have hdl : (l.drop n).length = l.toArray.size - n := by simp
  have inv0 : HeadInv .any l.toArray n (Array.replicate l.toArray.size false) :=
    ⟨by simp, fun j oj _ hl => (by rw [getD_replicate_false] at hl; cases hl), fun t _ ht => getD_in (by simpa using ht) (getD_replicate_false _ _)⟩
  have H := wpAnyF_lex (g := l.toArray.size - n) hLast hsel hs hc hn (l.take n) 0 _ _ a (fun j hj => by
    have hj' : j < n := by rw [htl] at hj; exact hj
    simp [hj']) (by simpa using htl) inv0 (fun _ _ _ _ _ => trivial) ⟨⟨w.drew, Below.refl _ _⟩, fun _ => trivial⟩ (by rw [htl]; exact hlex) h
  refine wp_region_any hm ?_
  have := wpAny_of_free (Q' := Q) (g := l.toArray.size - n) hLast (fun listed f a' δ hf hL => by
    have := wpAny_of_seq (md := .any) (Q' := Q) (l.drop n) n listed a' δ.w (fun j => by simp [List.getElem?_drop]) (by rw [hdl]; exact hL.1) (hL.2 δ hf)
    rwa [hdl] at this) _ _ _ _ ⟨w.drew, Below.refl _ _⟩ (fun _ _ _ _ _ => trivial) (fun _ => trivial) H
  rw [htl, show n + (l.toArray.size - n) = l.toArray.size by omega] at this
  exact this

/-- The same, the world under a letter. -/
theorem wp_region_free' {id : Nat} {Q : Exit → Act → World → Prop} {a : Act} {w : World} {l : List Oper} (n : Nat) (B : Kinds) (S : World → Prop) (hLast : Lasting B) (hm : P.follows .mixedOrders = true) (hB : Region.lexTailB .any l.toArray n = true) (hS : S w.drew)
    (h : ∀ w0, S w0 → wpFree P l.toArray w0 B (fun f a' => ∀ δ : ExtOf w0, (∀ k, f k δ.w) → wpList P l.toArray Q (l.drop n) a' δ.w) (l.take n) 0 (fun _ _ => True) a) : (Code.region id l.toArray true).wp P Q a w :=
  wp_region_free n B hLast hm hB (h _ hS)

/-- What is told of a world, and stays true whatever is laid beside. -/
def Keep (S : World → Prop) : Prop := ∀ w w', S w → Below w.heap.size w w' → S w'
/-- The same, with a state that lasts. -/
theorem wp_region_k {id : Nat} {Q : Exit → Act → World → Prop} {a : Act} {w : World} {l : List Oper} {S : World → Prop} (hS : S w) (hK : Keep S) (n : Nat) (B : Kinds) (hLast : Lasting B) (hm : P.follows .mixedOrders = true) (hB : Region.lexTailB .any l.toArray n = true)
    (h : ∀ w0, S w0 → wpFree P l.toArray w0 B (fun f a' => ∀ w', S w' → Below w0.heap.size w0 w' → (∀ k, f k w') → wpList P l.toArray Q (l.drop n) a' w') (l.take n) 0 (fun _ _ => True) a) : (Code.region id l.toArray true).wp P Q a w := by
  have h0 : S w.drew := hK _ _ hS (Below.refl _ _).drew
  refine wp_region_free n B hLast hm hB ?_
  have h1 := h _ h0
  generalize l.take n = l' at h1 ⊢
  have mono : ∀ (l' : List Oper) (k : Nat) (f : Facts) (a : Act), wpFree P l.toArray w.drew B (fun f a' => ∀ w', S w' → Below w.drew.heap.size w.drew w' → (∀ k, f k w') → wpList P l.toArray Q (l.drop n) a' w') l' k f a →
      wpFree P l.toArray w.drew B (fun f a' => ∀ δ : ExtOf w.drew, (∀ k, f k δ.w) → wpList P l.toArray Q (l.drop n) a' δ.w) l' k f a := by
    intro l'
    induction l' with
    | nil => intro k f a h δ hf; exact h δ.w (hK _ _ h0 δ.h) δ.h hf
    | cons o l' ih => intro k f a h; exact ⟨h.1, fun v hv => ih _ _ _ (h.2 v hv)⟩
  exact mono _ _ _ _ h1
theorem lasting_none : Lasting (fun _ => none) := by rintro k b h; cases h
theorem ExtOf.cells {W : World} {g : Nat} {t : TypeId} {cs : Array Value} (h : W.heap[g]? = some (.cells cs t (0, 0))) : ∀ (δ : ExtOf W) (i : Nat), δ.w.cell? ⟨g, i, none⟩ = cs[i]? := by
  intro δ i
  have hg : g < W.heap.size := by
    rcases Nat.lt_or_ge g W.heap.size with h' | h'
    · exact h'
    · rw [Array.getElem?_eq_none h'] at h; cases h
  have h1 := (δ.h.block g hg).trans h
  simp [World.cell?, h1]

/-! ### one operation of the walk -/
variable {L : Facts → Act → Prop} {rest : List Oper} {k : Nat}
theorem valueAt_one {w : World} {u v : Value} {r : Result Next} (h1 : valueAt P w u r) (h2 : valueAt P w v r) : u = v := by
  cases r with
  | ok n w' => cases n <;> simp only [valueAt] at h1 h2 <;> first | exact h1.2.symm.trans h2.2 | exact h1.2.trans h2.2.symm
  | halt x w' => cases x <;> simp only [valueAt] at h1
/-- It yields one value, whatever has been laid beside. -/
theorem free_q (hB : B k = none) (h : ∀ K : Act → Prop, (∀ a, wpFree P ops W B L rest (k + 1) facts a → K a) →
    if Region.wanted o (yielded ops a.tmps) then ∃ v, (∀ δ : ExtOf W, valueAt P δ.w v ((execOp a.eval o).run P δ.w)) ∧ K (a.put o.dst v) else K (a.put o.dst undef)) : wpFree P ops W B L (o :: rest) k facts a := by
  have h := h _ fun _ g => g
  unfold wpFree Oblig Poss newFact
  by_cases hw : Region.wanted o (yielded ops a.tmps) = true
  · simp only [hw, if_true, hB] at h ⊢
    obtain ⟨v, h1, h2⟩ := h
    refine ⟨fun _ => ⟨v, h1⟩, fun u hu => ?_⟩
    obtain ⟨δ, _, hu⟩ := hu
    obtain rfl := valueAt_one (h1 δ) hu
    rw [upd_true]
    exact h2
  · simp only [hw, if_false] at h ⊢
    refine ⟨fun h' => absurd h' (by simp), fun u hu => ?_⟩
    rw [hu]
    simp only [Bool.false_eq_true, if_false]
    rw [upd_true]
    exact h
/-- A call whose result is told by 'b'. -/
theorem free_c {b : List Value → Value → World → Prop} (hB : B k = some b) (f : FuncId) (args : Array Value) (hw : Region.wanted o (yielded ops a.tmps) = true) (hrun : ∀ w, (execOp a.eval o).run P w = .ok (.enter f args) w)
    (hcall : ∀ δ : ExtOf W, (∀ j ∈ needs o, facts j δ.w) → Calls P f args δ.w fun e w' => ∃ u, e = .returned u ∧ Below δ.w.heap.size δ.w w' ∧ b (vals o a) u w')
    (hnext : ∀ v (δ : ExtOf W), (∀ j, facts j δ.w) → b (vals o a) v δ.w → wpFree P ops W B L rest (k + 1) (upd facts k (b (vals o a) v)) (a.put o.dst v)) : wpFree P ops W B L (o :: rest) k facts a := by
  unfold wpFree Oblig Poss newFact
  simp only [hw, if_true, hB]
  refine ⟨fun _ δ hn => ?_, fun v hv => ?_⟩
  · rw [hrun]
    exact ⟨Below.refl _ _, hcall δ hn⟩
  · obtain ⟨δ, h1, h2⟩ := hv
    exact hnext v δ h1 h2
/-- An operation that lays memory. -/
theorem free_v {b : List Value → Value → World → Prop} (hB : B k = some b) (hw : Region.wanted o (yielded ops a.tmps) = true)
    (hrun : ∀ δ : ExtOf W, (∀ j ∈ needs o, facts j δ.w) → ∃ u w', (execOp a.eval o).run P δ.w = .ok (.value u) w' ∧ Below δ.w.heap.size δ.w w' ∧ b (vals o a) u w')
    (hnext : ∀ v (δ : ExtOf W), (∀ j, facts j δ.w) → b (vals o a) v δ.w → wpFree P ops W B L rest (k + 1) (upd facts k (b (vals o a) v)) (a.put o.dst v)) : wpFree P ops W B L (o :: rest) k facts a := by
  unfold wpFree Oblig Poss newFact
  simp only [hw, if_true, hB]
  refine ⟨fun _ δ hn => ?_, fun v hv => ?_⟩
  · obtain ⟨u, w', h1, h2, h3⟩ := hrun δ hn
    rw [h1]
    exact ⟨h2, h3⟩
  · obtain ⟨δ, h1, h2⟩ := hv
    exact hnext v δ h1 h2
/-- An operation whose guard keeps it off. -/
theorem free_off (hw : Region.wanted o (yielded ops a.tmps) = false) (h : wpFree P ops W B L rest (k + 1) facts (a.put o.dst undef)) : wpFree P ops W B L (o :: rest) k facts a := by
  unfold wpFree Oblig Poss newFact
  simp only [hw, Bool.false_eq_true, if_false]
  refine ⟨fun h' => absurd h' (by simp), fun u hu => ?_⟩
  rw [hu, upd_true]
  exact h
theorem free_nil (h : L facts a) : wpFree P ops W B L [] k facts a := h
end
attribute [go_sem] valueAt_value valueAt_skip
/-! ### numbers inside such a statement -/
theorem wrapIn {x : Int} (h1 : -9223372036854775808 ≤ x) (h2 : x ≤ 9223372036854775807) : IntKind.i64.wrap x = x := by rw [IntKind.wrap_i64]; omega
theorem wrap64In {x : Int} (h1 : -9223372036854775808 ≤ x) (h2 : x ≤ 9223372036854775807) : wrap64 x = x := by unfold wrap64; omega
theorem tmodIn {x y : Int} (h : 0 ≤ x) : x.tmod y = x % y := Int.tmod_eq_emod_of_nonneg h
theorem tdivIn {x y : Int} (h : 0 ≤ x) : x.tdiv y = x / y := Int.tdiv_eq_ediv_of_nonneg h
end Go.Proofs.Ytlhhihdfcbkmmaa
