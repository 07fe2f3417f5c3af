/- slices.Sort at uint32, of at most twelve. -/
import Derived.Test.YtlhhihdfcbkmmaaV1
import Derived.Test.YtlhhihdfcbkmmaaVL
set_option linter.unusedVariables false
set_option linter.unusedSimpArgs false
namespace Go.Proofs.Ytlhhihdfcbkmmaa
open Go.RowKit
open Go.Sort (insertionSort ltInt)
set_option maxHeartbeats 4000000 in
set_option maxRecDepth 100000 in
theorem pdq_small (g cap a b limit : Nat) (rest : Array Value) (d : Array Int) (w0 w : World) (h : Srt w0 g rest d w) (hab : a ≤ b) (hb : b ≤ d.size) (hsz : d.size < 4611686018427387904) (h12 : b - a ≤ 12) :
    Calls Try.prog 77 #[.slice (some ⟨g, 0, none⟩) d.size cap, .int .i64 a, .int .i64 b, .int .i64 limit] w fun e w' => e = .returned (.tuple #[]) ∧ Srt w0 g rest (insertionSort ltInt d a b) w' := by
  have hz : (b : Int) - a ≤ 12 := by omega
  go_enter Try.func77, Try.ntmps77
  go_wp2_with fail
  refine wp_loop_rounds 1 ?_
  rw [rounds_succ]
  go_wp2_with (go_at_call 105; refine (insertion_any g cap a b rest d w0 _ h hab hb hsz).mono ?_; rintro e w1 ⟨rfl, h1⟩)
  (try simp only [Exit.inBlock, Exit.then]); refine bodyPost_ret (results_none rfl _ _ _) rfl ?_
  exact ⟨rfl, h1⟩
theorem sort_small (g cap : Nat) (rest : Array Value) (d : Array Int) (w0 w : World) (h : Srt w0 g rest d w) (h12 : d.size ≤ 12) :
    Calls Try.prog 49 #[.slice (some ⟨g, 0, none⟩) d.size cap] w fun e w' => e = .returned (.tuple #[]) ∧ Srt w0 g rest (insertionSort ltInt d 0 d.size) w' := by
  go_enter Try.func49, Try.ntmps49
  go_wp2_with (first
    | (go_at_call 78; refine (bits_Len d.size _ (by omega) (by omega)).mono ?_; rintro e w' ⟨rfl, rfl⟩)
    | (go_at_call 77; refine (pdq_small g cap 0 d.size (Lib.bitLen (d.size : Int).toNat) rest d w0 _ h (by omega) (by omega) (by omega) (by omega)).mono ?_; rintro e w1 ⟨rfl, h1⟩))
  go_end0
  exact ⟨rfl, h1⟩
end Go.Proofs.Ytlhhihdfcbkmmaa
