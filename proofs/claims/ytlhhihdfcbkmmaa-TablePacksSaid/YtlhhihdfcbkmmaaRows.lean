/-
  No cell of these rows narrows 'for every input' (looked for: loops, veiled, ifaces, maps, wideKeys, modest, calm, conditions, laid).
  DERIVED. THE GIVEN ROWS OF THIS SEAT. 7 by the template 'for every input the law returns true; each argument reads behind the call as it read before'; 0 by the template 'total and deterministic' (their statements: YtlhhihdfcbkmmaaTotals.lean).
  GIVEN WITH THE SEED: the statements are not yours to turn. If you find one false, say at which input.
  Laid BY PROGRAM, IN A SANDBOX (cutbox-rows.mjs): the forced cells as the released guide's own fill.sh prints them over the translation 063f5c0085966522… (all of the seat's roots in one cut). By AI agents, Wed Nov 11 2026. No macro, syntax, notation, axiom, sorry.
-/
import Derived.Test.YtlhhihdfcbkmmaaChecked
import GoSem.Claim
import GoSem.ClaimJoined
import GoSem.ClaimMapViews
import Derived.JoinedTies
import Derived.KernelRfl
namespace Go.Proofs.Ytlhhihdfcbkmmaa
/- THE CELL 'sum', in the pinned program and in every row, IS THE sha256 OF THE DUMP (.gsa) THAT YtlhhihdfcbkmmaaProg.lean LOADS. Nothing in Lean hashes anything: it is a label: what it is worth is what the hold of that sum in a sandbox is worth. -/
noncomputable def Try.pinned : Pinned := { name := "ytlhhihdfcbkmmaa", sum := "063f5c0085966522345d24d488e09e503dbf3d7c623c57cd9f5d413dae69f75a", checked := Try.checked }
namespace Rows
def none {H : Type} : Left H := { results := [], args := [] }

/-- 'marquetrylaw16.TablePacks': WHATEVER THE INPUT: true; the input reads as it did. -/
def tablePacksSpec : ChangeSpec := { name := "tablePacks", fn := fun _ => fun
  | [d1, d2, d3] => { results := [.lit (.bool true)], args := [d1, d2, d3] }
  | _ => none }
def tablePacksRow : OpenClaim := { program := "ytlhhihdfcbkmmaa", sum := "063f5c0085966522345d24d488e09e503dbf3d7c623c57cd9f5d413dae69f75a", func := "marquetry/marquetrylaw16.TablePacks", spec := "tablePacks", unfollowed := true, recurses := true, apart := false }
def TablePacksSaid : Prop := tablePacksRow.holds Try.pinned (OpenSpec.ofChange tablePacksSpec)

/-- ITS FALSE NEIGHBOUR: 'it returns false'. Refute it at one input. -/
def tablePacksWrong : ChangeSpec := { name := "tablePacks", fn := fun _ => fun
  | [d1, d2, d3] => { results := [.lit (.bool false)], args := [d1, d2, d3] }
  | _ => none }
def TablePacksWrongFalsely : Prop := tablePacksRow.holds Try.pinned (OpenSpec.ofChange tablePacksWrong)

/-- 'marquetrylaw16.TableColors': WHATEVER THE INPUT: true; the input reads as it did. -/
def tableColorsSpec : ChangeSpec := { name := "tableColors", fn := fun _ => fun
  | [d1, d2, d3] => { results := [.lit (.bool true)], args := [d1, d2, d3] }
  | _ => none }
def tableColorsRow : OpenClaim := { program := "ytlhhihdfcbkmmaa", sum := "063f5c0085966522345d24d488e09e503dbf3d7c623c57cd9f5d413dae69f75a", func := "marquetry/marquetrylaw16.TableColors", spec := "tableColors", unfollowed := true, recurses := true, apart := false }
def TableColorsSaid : Prop := tableColorsRow.holds Try.pinned (OpenSpec.ofChange tableColorsSpec)

/-- ITS FALSE NEIGHBOUR: 'it returns false'. Refute it at one input. -/
def tableColorsWrong : ChangeSpec := { name := "tableColors", fn := fun _ => fun
  | [d1, d2, d3] => { results := [.lit (.bool false)], args := [d1, d2, d3] }
  | _ => none }
def TableColorsWrongFalsely : Prop := tableColorsRow.holds Try.pinned (OpenSpec.ofChange tableColorsWrong)

/-- 'marquetrylaw07.LensBack': WHATEVER THE INPUT: true; the input reads as it did. -/
def lensBackSpec : ChangeSpec := { name := "lensBack", fn := fun _ => fun
  | [d1, d2] => { results := [.lit (.bool true)], args := [d1, d2] }
  | _ => none }
def lensBackRow : OpenClaim := { program := "ytlhhihdfcbkmmaa", sum := "063f5c0085966522345d24d488e09e503dbf3d7c623c57cd9f5d413dae69f75a", func := "marquetry/marquetrylaw07.LensBack", spec := "lensBack", unfollowed := true, recurses := true, apart := false }
def LensBackSaid : Prop := lensBackRow.holds Try.pinned (OpenSpec.ofChange lensBackSpec)

/-- ITS FALSE NEIGHBOUR: 'it returns false'. Refute it at one input. -/
def lensBackWrong : ChangeSpec := { name := "lensBack", fn := fun _ => fun
  | [d1, d2] => { results := [.lit (.bool false)], args := [d1, d2] }
  | _ => none }
def LensBackWrongFalsely : Prop := lensBackRow.holds Try.pinned (OpenSpec.ofChange lensBackWrong)

/-- 'marquetrylaw07.LensFlat': WHATEVER THE INPUT: true; the input reads as it did. -/
def lensFlatSpec : ChangeSpec := { name := "lensFlat", fn := fun _ => fun
  | [d1, d2] => { results := [.lit (.bool true)], args := [d1, d2] }
  | _ => none }
def lensFlatRow : OpenClaim := { program := "ytlhhihdfcbkmmaa", sum := "063f5c0085966522345d24d488e09e503dbf3d7c623c57cd9f5d413dae69f75a", func := "marquetry/marquetrylaw07.LensFlat", spec := "lensFlat", unfollowed := true, recurses := true, apart := false }
def LensFlatSaid : Prop := lensFlatRow.holds Try.pinned (OpenSpec.ofChange lensFlatSpec)

/-- ITS FALSE NEIGHBOUR: 'it returns false'. Refute it at one input. -/
def lensFlatWrong : ChangeSpec := { name := "lensFlat", fn := fun _ => fun
  | [d1, d2] => { results := [.lit (.bool false)], args := [d1, d2] }
  | _ => none }
def LensFlatWrongFalsely : Prop := lensFlatRow.holds Try.pinned (OpenSpec.ofChange lensFlatWrong)

/-- 'marquetrylaw20.PlanEmpty': WHATEVER THE INPUT: true; the input reads as it did. -/
def planEmptySpec : ChangeSpec := { name := "planEmpty", fn := fun _ => fun
  | [d1, d2] => { results := [.lit (.bool true)], args := [d1, d2] }
  | _ => none }
def planEmptyRow : OpenClaim := { program := "ytlhhihdfcbkmmaa", sum := "063f5c0085966522345d24d488e09e503dbf3d7c623c57cd9f5d413dae69f75a", func := "marquetry/marquetrylaw20.PlanEmpty", spec := "planEmpty", unfollowed := true, recurses := true, apart := false }
def PlanEmptySaid : Prop := planEmptyRow.holds Try.pinned (OpenSpec.ofChange planEmptySpec)

/-- ITS FALSE NEIGHBOUR: 'it returns false'. Refute it at one input. -/
def planEmptyWrong : ChangeSpec := { name := "planEmpty", fn := fun _ => fun
  | [d1, d2] => { results := [.lit (.bool false)], args := [d1, d2] }
  | _ => none }
def PlanEmptyWrongFalsely : Prop := planEmptyRow.holds Try.pinned (OpenSpec.ofChange planEmptyWrong)

/-- 'marquetrylaw20.PlanStacks': WHATEVER THE INPUT: true; the input reads as it did. -/
def planStacksSpec : ChangeSpec := { name := "planStacks", fn := fun _ => fun
  | [d1, d2] => { results := [.lit (.bool true)], args := [d1, d2] }
  | _ => none }
def planStacksRow : OpenClaim := { program := "ytlhhihdfcbkmmaa", sum := "063f5c0085966522345d24d488e09e503dbf3d7c623c57cd9f5d413dae69f75a", func := "marquetry/marquetrylaw20.PlanStacks", spec := "planStacks", unfollowed := true, recurses := true, apart := false }
def PlanStacksSaid : Prop := planStacksRow.holds Try.pinned (OpenSpec.ofChange planStacksSpec)

/-- ITS FALSE NEIGHBOUR: 'it returns false'. Refute it at one input. -/
def planStacksWrong : ChangeSpec := { name := "planStacks", fn := fun _ => fun
  | [d1, d2] => { results := [.lit (.bool false)], args := [d1, d2] }
  | _ => none }
def PlanStacksWrongFalsely : Prop := planStacksRow.holds Try.pinned (OpenSpec.ofChange planStacksWrong)

/-- 'marquetrylaw20.PlanMeta': WHATEVER THE INPUT: true; the input reads as it did. -/
def planMetaSpec : ChangeSpec := { name := "planMeta", fn := fun _ => fun
  | [d1, d2, d3] => { results := [.lit (.bool true)], args := [d1, d2, d3] }
  | _ => none }
def planMetaRow : OpenClaim := { program := "ytlhhihdfcbkmmaa", sum := "063f5c0085966522345d24d488e09e503dbf3d7c623c57cd9f5d413dae69f75a", func := "marquetry/marquetrylaw20.PlanMeta", spec := "planMeta", unfollowed := true, recurses := true, apart := false }
def PlanMetaSaid : Prop := planMetaRow.holds Try.pinned (OpenSpec.ofChange planMetaSpec)

/-- ITS FALSE NEIGHBOUR: 'it returns false'. Refute it at one input. -/
def planMetaWrong : ChangeSpec := { name := "planMeta", fn := fun _ => fun
  | [d1, d2, d3] => { results := [.lit (.bool false)], args := [d1, d2, d3] }
  | _ => none }
def PlanMetaWrongFalsely : Prop := planMetaRow.holds Try.pinned (OpenSpec.ofChange planMetaWrong)

/- THE SECOND FORM. 'bulk': how many values and letters a reading holds, each counted each time it is reached (what is shared counts as often as it is met; a slice's spare places count too). A statement '..UptoSaid' is the law's where the arguments, and the package variables that the reading takes, are together of bulk at most 1048576: NARROWER than '..Said'. Prove '..Said' where nothing that the law and all that it calls make is longer than what came in: it says more and counts as full. Else prove '..UptoSaid'. A law counts once. -/
mutual
def uptoBulk {H : Type} : DataW H → Nat
  | .lit (.string bytes) => bytes.length + 1
  | .lit _ => 1
  | .nil => 1
  | .ptr d => uptoBulk d + 1
  | .slice elems spare => uptoBulkAll elems + uptoBulkAll spare + 1
  | .agg parts => uptoBulkAll parts + 1
  | .iface _ d => uptoBulk d + 1
  | .map entries => uptoBulkEntries entries + 1
  | .held _ => 1
def uptoBulkAll {H : Type} : List (DataW H) → Nat
  | [] => 0
  | d :: r => uptoBulk d + uptoBulkAll r
def uptoBulkEntries {H : Type} : List (Lit × DataW H) → Nat
  | [] => 0
  | x :: r => uptoBulkEntry x + uptoBulkEntries r
def uptoBulkEntry {H : Type} : Lit × DataW H → Nat
  | (.string bytes, d) => bytes.length + uptoBulk d + 1
  | (_, d) => uptoBulk d + 1
 end
def uptoSmall : (H : Type) → List (DataW H) → Bool := fun _ ds => decide (uptoBulkAll ds ≤ 1048576)
def OpenSpec.upto (s : _root_.Go.ChangeSpec) : _root_.Go.OpenSpec := { _root_.Go.OpenSpec.ofChange s with cond := some uptoSmall }

/-- 'marquetrylaw16.TablePacks', WHERE WHAT IT READS IS OF BULK AT MOST 1048576: true; the input reads as it did. -/
def tablePacksUptoRow : OpenClaim := { program := "ytlhhihdfcbkmmaa", sum := "063f5c0085966522345d24d488e09e503dbf3d7c623c57cd9f5d413dae69f75a", func := "marquetry/marquetrylaw16.TablePacks", spec := "tablePacks", unfollowed := true, recurses := true, apart := false, narrowed := true }
def TablePacksUptoSaid : Prop := tablePacksUptoRow.holds Try.pinned (OpenSpec.upto tablePacksSpec)

/-- 'marquetrylaw16.TableColors', WHERE WHAT IT READS IS OF BULK AT MOST 1048576: true; the input reads as it did. -/
def tableColorsUptoRow : OpenClaim := { program := "ytlhhihdfcbkmmaa", sum := "063f5c0085966522345d24d488e09e503dbf3d7c623c57cd9f5d413dae69f75a", func := "marquetry/marquetrylaw16.TableColors", spec := "tableColors", unfollowed := true, recurses := true, apart := false, narrowed := true }
def TableColorsUptoSaid : Prop := tableColorsUptoRow.holds Try.pinned (OpenSpec.upto tableColorsSpec)

/-- 'marquetrylaw07.LensBack', WHERE WHAT IT READS IS OF BULK AT MOST 1048576: true; the input reads as it did. -/
def lensBackUptoRow : OpenClaim := { program := "ytlhhihdfcbkmmaa", sum := "063f5c0085966522345d24d488e09e503dbf3d7c623c57cd9f5d413dae69f75a", func := "marquetry/marquetrylaw07.LensBack", spec := "lensBack", unfollowed := true, recurses := true, apart := false, narrowed := true }
def LensBackUptoSaid : Prop := lensBackUptoRow.holds Try.pinned (OpenSpec.upto lensBackSpec)

/-- 'marquetrylaw07.LensFlat', WHERE WHAT IT READS IS OF BULK AT MOST 1048576: true; the input reads as it did. -/
def lensFlatUptoRow : OpenClaim := { program := "ytlhhihdfcbkmmaa", sum := "063f5c0085966522345d24d488e09e503dbf3d7c623c57cd9f5d413dae69f75a", func := "marquetry/marquetrylaw07.LensFlat", spec := "lensFlat", unfollowed := true, recurses := true, apart := false, narrowed := true }
def LensFlatUptoSaid : Prop := lensFlatUptoRow.holds Try.pinned (OpenSpec.upto lensFlatSpec)

/-- 'marquetrylaw20.PlanEmpty', WHERE WHAT IT READS IS OF BULK AT MOST 1048576: true; the input reads as it did. -/
def planEmptyUptoRow : OpenClaim := { program := "ytlhhihdfcbkmmaa", sum := "063f5c0085966522345d24d488e09e503dbf3d7c623c57cd9f5d413dae69f75a", func := "marquetry/marquetrylaw20.PlanEmpty", spec := "planEmpty", unfollowed := true, recurses := true, apart := false, narrowed := true }
def PlanEmptyUptoSaid : Prop := planEmptyUptoRow.holds Try.pinned (OpenSpec.upto planEmptySpec)

/-- 'marquetrylaw20.PlanStacks', WHERE WHAT IT READS IS OF BULK AT MOST 1048576: true; the input reads as it did. -/
def planStacksUptoRow : OpenClaim := { program := "ytlhhihdfcbkmmaa", sum := "063f5c0085966522345d24d488e09e503dbf3d7c623c57cd9f5d413dae69f75a", func := "marquetry/marquetrylaw20.PlanStacks", spec := "planStacks", unfollowed := true, recurses := true, apart := false, narrowed := true }
def PlanStacksUptoSaid : Prop := planStacksUptoRow.holds Try.pinned (OpenSpec.upto planStacksSpec)

/-- 'marquetrylaw20.PlanMeta', WHERE WHAT IT READS IS OF BULK AT MOST 1048576: true; the input reads as it did. -/
def planMetaUptoRow : OpenClaim := { program := "ytlhhihdfcbkmmaa", sum := "063f5c0085966522345d24d488e09e503dbf3d7c623c57cd9f5d413dae69f75a", func := "marquetry/marquetrylaw20.PlanMeta", spec := "planMeta", unfollowed := true, recurses := true, apart := false, narrowed := true }
def PlanMetaUptoSaid : Prop := planMetaUptoRow.holds Try.pinned (OpenSpec.upto planMetaSpec)

end Rows
end Go.Proofs.Ytlhhihdfcbkmmaa
