import Derived.Test.YtlhhihdfcbkmmaaProg
import Derived.Test.YtlhhihdfcbkmmaaK
import Derived.Test.YtlhhihdfcbkmmaaP
import Derived.Test.YtlhhihdfcbkmmaaR
set_option linter.unusedVariables false
set_option linter.unusedSimpArgs false
namespace Go.Proofs.Ytlhhihdfcbkmmaa
open Go.RowKit
theorem ret_int {k : IntKind} {a b : Int} (h : a = b) : Ending.returned (.int k a) = .returned (.int k b) := by rw [h]

set_option maxRecDepth 100000 in
set_option maxHeartbeats 400000 in
theorem join_any (a b c d : Int) (w : World) :
    Calls Try.prog 117 #[.agg #[.int .i64 a, .int .i64 b, .int .i64 c, .int .i64 d]] w fun e w' => e = .returned (.int .u32 (mk4 a b c d)) ∧ Below w.heap.size w w' := by
  have i0 : ∀ w, (Instr.index 153 (.agg #[.int .i64 a, .int .i64 b, .int .i64 c, .int .i64 d]) (.int .i64 0)).run Try.prog w = .ok (.int .i64 a) w := fun _ => by kernel_rfl
  have i1 : ∀ w, (Instr.index 153 (.agg #[.int .i64 a, .int .i64 b, .int .i64 c, .int .i64 d]) (.int .i64 1)).run Try.prog w = .ok (.int .i64 b) w := fun _ => by kernel_rfl
  have i2 : ∀ w, (Instr.index 153 (.agg #[.int .i64 a, .int .i64 b, .int .i64 c, .int .i64 d]) (.int .i64 2)).run Try.prog w = .ok (.int .i64 c) w := fun _ => by kernel_rfl
  have i3 : ∀ w, (Instr.index 153 (.agg #[.int .i64 a, .int .i64 b, .int .i64 c, .int .i64 d]) (.int .i64 3)).run Try.prog w = .ok (.int .i64 d) w := fun _ => by kernel_rfl
  go_enter Try.func117, Try.ntmps117
  go_wp2
  refine wp_loop_rounds 5 ?_
  rw [rounds_succ]; go_wp2
  rw [rounds_succ]; go_wp2
  rw [rounds_succ]; go_wp2
  rw [rounds_succ]; go_wp2
  rw [rounds_succ]; go_wp2
  go_ret
  refine ⟨ret_int ?_, (Below.refl _ _).alloc (Nat.le_refl _) _⟩
  rw [or8 0 (a % 256) (by omega) (by omega) (by omega) (by omega) (by omega),
    or8 ((0 + a % 256) * 256 % 4294967296) (b % 256) (by omega) (by omega) (by omega) (by omega) (by omega),
    or8 (((0 + a % 256) * 256 % 4294967296 + b % 256) * 256 % 4294967296) (c % 256) (by omega) (by omega) (by omega) (by omega) (by omega),
    or8 ((((0 + a % 256) * 256 % 4294967296 + b % 256) * 256 % 4294967296 + c % 256) * 256 % 4294967296) (d % 256) (by omega) (by omega) (by omega) (by omega) (by omega)]
  unfold mk4
  omega
set_option maxHeartbeats 400000 in
theorem make_any (a b c d : Int) (w : World) :
    Calls Try.prog 46 #[.agg #[.int .i64 a, .int .i64 b, .int .i64 c, .int .i64 d]] w fun e w' => e = .returned (.int .u32 (mk4 a b c d)) ∧ Below w.heap.size w w' := by
  go_enter Try.func46, Try.ntmps46
  go_wp2
  refine wp_loop_rounds 5 ?_
  rw [rounds_succ]; go_wp2
  rw [rounds_succ]; go_wp2
  rw [rounds_succ]; go_wp2
  rw [rounds_succ]; go_wp2
  rw [rounds_succ]; go_wp2
  go_ret
  refine ⟨ret_int ?_, (Below.refl _ _).alloc (Nat.le_refl _) _⟩
  simp only [modq]
  unfold mk4
  omega
set_option maxHeartbeats 400000 in
theorem split_any (p : Int) (w : World) (hp : IsPx p) :
    Calls Try.prog 116 #[.int .u32 p] w fun e w' => e = .returned (.agg #[.int .i64 (pa p), .int .i64 (pr p), .int .i64 (pg p), .int .i64 (pb p)]) ∧ Below w.heap.size w w' := by
  have ⟨h0, h1⟩ := hp
  have e1 : bits .and .u32 (p / 65536) 255 = p / 65536 % 256 := and255 _ (by omega) (by omega)
  have e2 : bits .and .u32 (p / 256) 255 = p / 256 % 256 := and255 _ (by omega) (by omega)
  have e3 : bits .and .u32 p 255 = p % 256 := and255 _ (by omega) (by omega)
  go_enter Try.func116, Try.ntmps116
  go_wp2
  refine bodyPost_ret (v := .agg #[.int .i64 (pa p), .int .i64 (pr p), .int .i64 (pg p), .int .i64 (pb p)]) (by simp [results, Try.results116, go_sem, pa, pr, pg, pb]) rfl ⟨rfl, ?_⟩
  exact (Below.refl _ _).alloc (Nat.le_refl _) _
/-- A function of three whole numbers that leaves memory alone. -/
def FnIs (g : FuncId) (F : Int → Int → Int → Int) : Prop :=
  ∀ (a b c : Int) (w : World), Calls Try.prog g #[.int .i64 a, .int .i64 b, .int .i64 c] w fun e w' => e = .returned (.int .i64 (F a b c)) ∧ w = w'

set_option maxRecDepth 100000 in
set_option maxHeartbeats 1000000 in
theorem each_any (p q r : Int) (g : FuncId) (F : Int → Int → Int → Int) (hE : ∀ (args : Array Value) (w : World), (callFunc g args).run Try.prog w = .ok (.enter g args) w) (hF : FnIs g F) (w : World) (hp : IsPx p) (hq : IsPx q) (hr : IsPx r) :
    Calls Try.prog 79 #[.int .u32 p, .int .u32 q, .int .u32 r, .func (.func g) #[] #[]] w fun e w' => e = .returned (.int .u32 (eachP p q r F)) ∧ Below w.heap.size w w' := by
  go_enter Try.func79, Try.ntmps79
  go_wp2_with fail
  refine (split_any p _ hp).mono ?_; rintro e w1 ⟨rfl, hb1⟩
  go_wp2_with fail
  refine (split_any q _ hq).mono ?_; rintro e w2 ⟨rfl, hb2⟩
  go_wp2_with fail
  refine (split_any r _ hr).mono ?_; rintro e w3 ⟨rfl, hb3⟩
  have HB : Hid (Below w.heap.size w w3) := ext_then (ext_then hb1 hb2) hb3
  clear hb1 hb2 hb3
  go_wp2_with fail
  refine wp_loop_rounds 5 ?_
  rw [rounds_succ]; go_wp2_with fail
  refine wp_region_free' 13 (fun | 11 => some (fun _ u _ => u = .int .i64 (F (pa p) (pa q) (pa r))) | _ => none) (fun w' => Blk w' w3.heap.size 153 #[.int .i64 (pa p), .int .i64 (pr p), .int .i64 (pg p), .int .i64 (pb p)] ∧ Blk w' (w3.heap.size + 1) 153 #[.int .i64 (pa q), .int .i64 (pr q), .int .i64 (pg q), .int .i64 (pb q)] ∧ Blk w' (w3.heap.size + 2) 153 #[.int .i64 (pa r), .int .i64 (pr r), .int .i64 (pg r), .int .i64 (pb r)] ∧ Below w.heap.size w w' ∧ w.heap.size ≤ w3.heap.size) (by rintro k b h vs u w w' hb -; dsimp only at h; split at h <;> cases h; exact hb) (by kernel_rfl) (by kernel_rfl) ?_ ?_
  · refine ⟨?_, ?_, ?_, ?_, ?_⟩
    · exact (((Blk.new _ _ _).alloc _).alloc _).drew
    · exact ((Blk.new' (by simp only [size_alloc]) _ _).alloc _).drew
    · exact (Blk.new' (by simp only [size_alloc]) _ _).drew
    · exact (ext_alloc (ext_alloc (ext_alloc HB.out _) _) _).drew
    · exact HB.out.size
  clear HB
  rintro w0 ⟨b1, b2, b3, HW, HS⟩
  simp only [List.take_succ_cons, List.take_zero, List.drop_succ_cons, List.drop_zero]
  have c1 := ExtOf.cell (b1.cell 0); have c2 := ExtOf.cell (b2.cell 0); have c3 := ExtOf.cell (b3.cell 0)
  repeat (refine free_q (by rfl) (fun K hK => ?_); go_simp; refine hK _ ?_; clear hK K)
  refine free_c (by rfl) g #[.int .i64 (pa p), .int .i64 (pa q), .int .i64 (pa r)] (by rfl) (fun w => by go_simp) (fun δ _ => (hF _ _ _ _).mono (by rintro e w' ⟨rfl, rfl⟩; exact ⟨_, rfl, Below.refl _ _, rfl⟩)) (fun v δ _ hv => ?_)
  obtain rfl := hv
  dsimp only [Act.put, List.setIfInBounds_toArray, List.set_cons_zero, List.set_cons_succ]
  repeat (refine free_q (by rfl) (fun K hK => ?_); go_simp; refine hK _ ?_; clear hK K)
  refine free_nil ?_
  rintro δ' -
  have d1 := b1.ext δ'.h; have d2 := b2.ext δ'.h; have d3 := b3.ext δ'.h; have HW' := ext_then HW δ'.h
  generalize δ'.w = w5 at *
  clear b1 b2 b3 HW c1 c2 c3
  have e1 := d1.frozen 0
  have e2 : w5.cell? ⟨w3.heap.size, 0, none⟩ = some (.int .i64 (pa p)) := d1.cell 0
  go_wp2_with fail
  rw [rounds_succ]; go_wp2_with fail
  refine wp_region_free' 13 (fun | 11 => some (fun _ u _ => u = .int .i64 (F (pr p) (pr q) (pr r))) | _ => none) (fun w' => Blk w' w3.heap.size 153 #[.int .i64 (F (pa p) (pa q) (pa r)), .int .i64 (pr p), .int .i64 (pg p), .int .i64 (pb p)] ∧ Blk w' (w3.heap.size + 1) 153 #[.int .i64 (pa q), .int .i64 (pr q), .int .i64 (pg q), .int .i64 (pb q)] ∧ Blk w' (w3.heap.size + 2) 153 #[.int .i64 (pa r), .int .i64 (pr r), .int .i64 (pg r), .int .i64 (pb r)] ∧ Below w.heap.size w w' ∧ w.heap.size ≤ w3.heap.size) (by rintro k b h vs u w w' hb -; dsimp only at h; split at h <;> cases h; exact hb) (by kernel_rfl) (by kernel_rfl) ?_ ?_
  · refine ⟨?_, ?_, ?_, ?_, ?_⟩
    · exact (d1.set_ _ _).drew
    · exact (d2.far (p := ⟨_, _, none⟩) (by simp) _).drew
    · exact (d3.far (p := ⟨_, _, none⟩) (by simp) _).drew
    · exact (ext_set HW' (p := ⟨_, _, none⟩) HS _).drew
    · exact HS
  clear d1 d2 d3 HW' HS e1 e2
  rintro w0 ⟨b1, b2, b3, HW, HS⟩
  simp only [List.take_succ_cons, List.take_zero, List.drop_succ_cons, List.drop_zero]
  have c1 := ExtOf.cell (b1.cell 1); have c2 := ExtOf.cell (b2.cell 1); have c3 := ExtOf.cell (b3.cell 1)
  repeat (refine free_q (by rfl) (fun K hK => ?_); go_simp; refine hK _ ?_; clear hK K)
  refine free_c (by rfl) g #[.int .i64 (pr p), .int .i64 (pr q), .int .i64 (pr r)] (by rfl) (fun w => by go_simp) (fun δ _ => (hF _ _ _ _).mono (by rintro e w' ⟨rfl, rfl⟩; exact ⟨_, rfl, Below.refl _ _, rfl⟩)) (fun v δ _ hv => ?_)
  obtain rfl := hv
  dsimp only [Act.put, List.setIfInBounds_toArray, List.set_cons_zero, List.set_cons_succ]
  repeat (refine free_q (by rfl) (fun K hK => ?_); go_simp; refine hK _ ?_; clear hK K)
  refine free_nil ?_
  rintro δ' -
  have d1 := b1.ext δ'.h; have d2 := b2.ext δ'.h; have d3 := b3.ext δ'.h; have HW' := ext_then HW δ'.h
  generalize δ'.w = w5 at *
  clear b1 b2 b3 HW c1 c2 c3
  have e1 := d1.frozen 1
  have e2 : w5.cell? ⟨w3.heap.size, 1, none⟩ = some (.int .i64 (pr p)) := d1.cell 1
  go_wp2_with fail
  rw [rounds_succ]; go_wp2_with fail
  refine wp_region_free' 13 (fun | 11 => some (fun _ u _ => u = .int .i64 (F (pg p) (pg q) (pg r))) | _ => none) (fun w' => Blk w' w3.heap.size 153 #[.int .i64 (F (pa p) (pa q) (pa r)), .int .i64 (F (pr p) (pr q) (pr r)), .int .i64 (pg p), .int .i64 (pb p)] ∧ Blk w' (w3.heap.size + 1) 153 #[.int .i64 (pa q), .int .i64 (pr q), .int .i64 (pg q), .int .i64 (pb q)] ∧ Blk w' (w3.heap.size + 2) 153 #[.int .i64 (pa r), .int .i64 (pr r), .int .i64 (pg r), .int .i64 (pb r)] ∧ Below w.heap.size w w' ∧ w.heap.size ≤ w3.heap.size) (by rintro k b h vs u w w' hb -; dsimp only at h; split at h <;> cases h; exact hb) (by kernel_rfl) (by kernel_rfl) ?_ ?_
  · refine ⟨?_, ?_, ?_, ?_, ?_⟩
    · exact (d1.set_ _ _).drew
    · exact (d2.far (p := ⟨_, _, none⟩) (by simp) _).drew
    · exact (d3.far (p := ⟨_, _, none⟩) (by simp) _).drew
    · exact (ext_set HW' (p := ⟨_, _, none⟩) HS _).drew
    · exact HS
  clear d1 d2 d3 HW' HS e1 e2
  rintro w0 ⟨b1, b2, b3, HW, HS⟩
  simp only [List.take_succ_cons, List.take_zero, List.drop_succ_cons, List.drop_zero]
  have c1 := ExtOf.cell (b1.cell 2); have c2 := ExtOf.cell (b2.cell 2); have c3 := ExtOf.cell (b3.cell 2)
  repeat (refine free_q (by rfl) (fun K hK => ?_); go_simp; refine hK _ ?_; clear hK K)
  refine free_c (by rfl) g #[.int .i64 (pg p), .int .i64 (pg q), .int .i64 (pg r)] (by rfl) (fun w => by go_simp) (fun δ _ => (hF _ _ _ _).mono (by rintro e w' ⟨rfl, rfl⟩; exact ⟨_, rfl, Below.refl _ _, rfl⟩)) (fun v δ _ hv => ?_)
  obtain rfl := hv
  dsimp only [Act.put, List.setIfInBounds_toArray, List.set_cons_zero, List.set_cons_succ]
  repeat (refine free_q (by rfl) (fun K hK => ?_); go_simp; refine hK _ ?_; clear hK K)
  refine free_nil ?_
  rintro δ' -
  have d1 := b1.ext δ'.h; have d2 := b2.ext δ'.h; have d3 := b3.ext δ'.h; have HW' := ext_then HW δ'.h
  generalize δ'.w = w5 at *
  clear b1 b2 b3 HW c1 c2 c3
  have e1 := d1.frozen 2
  have e2 : w5.cell? ⟨w3.heap.size, 2, none⟩ = some (.int .i64 (pg p)) := d1.cell 2
  go_wp2_with fail
  rw [rounds_succ]; go_wp2_with fail
  refine wp_region_free' 13 (fun | 11 => some (fun _ u _ => u = .int .i64 (F (pb p) (pb q) (pb r))) | _ => none) (fun w' => Blk w' w3.heap.size 153 #[.int .i64 (F (pa p) (pa q) (pa r)), .int .i64 (F (pr p) (pr q) (pr r)), .int .i64 (F (pg p) (pg q) (pg r)), .int .i64 (pb p)] ∧ Blk w' (w3.heap.size + 1) 153 #[.int .i64 (pa q), .int .i64 (pr q), .int .i64 (pg q), .int .i64 (pb q)] ∧ Blk w' (w3.heap.size + 2) 153 #[.int .i64 (pa r), .int .i64 (pr r), .int .i64 (pg r), .int .i64 (pb r)] ∧ Below w.heap.size w w' ∧ w.heap.size ≤ w3.heap.size) (by rintro k b h vs u w w' hb -; dsimp only at h; split at h <;> cases h; exact hb) (by kernel_rfl) (by kernel_rfl) ?_ ?_
  · refine ⟨?_, ?_, ?_, ?_, ?_⟩
    · exact (d1.set_ _ _).drew
    · exact (d2.far (p := ⟨_, _, none⟩) (by simp) _).drew
    · exact (d3.far (p := ⟨_, _, none⟩) (by simp) _).drew
    · exact (ext_set HW' (p := ⟨_, _, none⟩) HS _).drew
    · exact HS
  clear d1 d2 d3 HW' HS e1 e2
  rintro w0 ⟨b1, b2, b3, HW, HS⟩
  simp only [List.take_succ_cons, List.take_zero, List.drop_succ_cons, List.drop_zero]
  have c1 := ExtOf.cell (b1.cell 3); have c2 := ExtOf.cell (b2.cell 3); have c3 := ExtOf.cell (b3.cell 3)
  repeat (refine free_q (by rfl) (fun K hK => ?_); go_simp; refine hK _ ?_; clear hK K)
  refine free_c (by rfl) g #[.int .i64 (pb p), .int .i64 (pb q), .int .i64 (pb r)] (by rfl) (fun w => by go_simp) (fun δ _ => (hF _ _ _ _).mono (by rintro e w' ⟨rfl, rfl⟩; exact ⟨_, rfl, Below.refl _ _, rfl⟩)) (fun v δ _ hv => ?_)
  obtain rfl := hv
  dsimp only [Act.put, List.setIfInBounds_toArray, List.set_cons_zero, List.set_cons_succ]
  repeat (refine free_q (by rfl) (fun K hK => ?_); go_simp; refine hK _ ?_; clear hK K)
  refine free_nil ?_
  rintro δ' -
  have d1 := b1.ext δ'.h; have d2 := b2.ext δ'.h; have d3 := b3.ext δ'.h; have HW' := ext_then HW δ'.h
  generalize δ'.w = w5 at *
  clear b1 b2 b3 HW c1 c2 c3
  have e1 := d1.frozen 3
  have e2 : w5.cell? ⟨w3.heap.size, 3, none⟩ = some (.int .i64 (pb p)) := d1.cell 3
  go_wp2_with fail
  rw [rounds_succ]
  have d4 := d1.set_ 3 (.int .i64 (F (pb p) (pb q) (pb r)))
  have HW5 := ext_set HW' (p := ⟨w3.heap.size, 3, none⟩) HS (.int .i64 (F (pb p) (pb q) (pb r)))
  generalize w5.setCell ⟨w3.heap.size, 3, none⟩ (.int .i64 (F (pb p) (pb q) (pb r))) = w6 at *
  clear d1 d2 d3 HW' HS e1 e2
  have f0 : w6.cell? ⟨w3.heap.size, 0, none⟩ = some (.int .i64 (F (pa p) (pa q) (pa r))) := d4.cell 0
  have f1 : w6.cell? ⟨w3.heap.size, 1, none⟩ = some (.int .i64 (F (pr p) (pr q) (pr r))) := d4.cell 1
  have f2 : w6.cell? ⟨w3.heap.size, 2, none⟩ = some (.int .i64 (F (pg p) (pg q) (pg r))) := d4.cell 2
  have f3 : w6.cell? ⟨w3.heap.size, 3, none⟩ = some (.int .i64 (F (pb p) (pb q) (pb r))) := d4.cell 3
  clear d4
  go_wp2_with fail
  refine (join_any _ _ _ _ _).mono ?_; rintro e w7 ⟨rfl, hb7⟩
  go_wp2_with fail
  go_ret
  exact ⟨rfl, ext_then HW5 hb7⟩
end Go.Proofs.Ytlhhihdfcbkmmaa
