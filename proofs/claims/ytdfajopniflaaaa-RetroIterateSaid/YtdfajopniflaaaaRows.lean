/-
  No cell of these rows narrows 'for every input' (looked for: loops, veiled, ifaces, maps, wideKeys, modest, calm, conditions, laid).
  DERIVED. THE GIVEN ROWS OF THIS SEAT. 6 by the template 'for every input the law returns true; each argument reads behind the call as it read before'; 0 by the template 'total and deterministic' (their statements: YtdfajopniflaaaaTotals.lean).
  GIVEN WITH THE SEED: the statements are not yours to turn. If you find one false, say at which input.
  Laid BY PROGRAM, IN A SANDBOX (cutbox-rows.mjs): the forced cells as the released guide's own fill.sh prints them over the translation 637a56bd8a6197c9… (all of the seat's roots in one cut). By AI agents, Wed Nov 11 2026. No macro, syntax, notation, axiom, sorry.
-/
import Derived.Test.YtdfajopniflaaaaChecked
import GoSem.Claim
import GoSem.ClaimJoined
import GoSem.ClaimMapViews
import Derived.JoinedTies
import Derived.KernelRfl
namespace Go.Proofs.Ytdfajopniflaaaa
/- THE CELL 'sum', in the pinned program and in every row, IS THE sha256 OF THE DUMP (.gsa) THAT YtdfajopniflaaaaProg.lean LOADS. Nothing in Lean hashes anything: it is a label: what it is worth is what the hold of that sum in a sandbox is worth. -/
noncomputable def Try.pinned : Pinned := { name := "ytdfajopniflaaaa", sum := "637a56bd8a6197c96b3afa888e814547c7a70e935d1b9af464938f5ba51f2cd9", checked := Try.checked }
namespace Rows
def none {H : Type} : Left H := { results := [], args := [] }

/-- 'treatylaw39.RetroSolve': WHATEVER THE INPUT: true; the input reads as it did. -/
def retroSolveSpec : ChangeSpec := { name := "retroSolve", fn := fun _ => fun
  | [d1, d2, d3] => { results := [.lit (.bool true)], args := [d1, d2, d3] }
  | _ => none }
def retroSolveRow : OpenClaim := { program := "ytdfajopniflaaaa", sum := "637a56bd8a6197c96b3afa888e814547c7a70e935d1b9af464938f5ba51f2cd9", func := "treaty/treatylaw39.RetroSolve", spec := "retroSolve", named := ["math/bits.divideError", "math/bits.overflowError"], apart := false }
def RetroSolveSaid : Prop := retroSolveRow.holds Try.pinned (OpenSpec.ofChange retroSolveSpec)

/-- ITS FALSE NEIGHBOUR: 'it returns false'. Refute it at one input. -/
def retroSolveWrong : ChangeSpec := { name := "retroSolve", fn := fun _ => fun
  | [d1, d2, d3] => { results := [.lit (.bool false)], args := [d1, d2, d3] }
  | _ => none }
def RetroSolveWrongFalsely : Prop := retroSolveRow.holds Try.pinned (OpenSpec.ofChange retroSolveWrong)

/-- 'treatylaw39.RetroMonotone': WHATEVER THE INPUT: true; the input reads as it did. -/
def retroMonotoneSpec : ChangeSpec := { name := "retroMonotone", fn := fun _ => fun
  | [d1, d2] => { results := [.lit (.bool true)], args := [d1, d2] }
  | _ => none }
def retroMonotoneRow : OpenClaim := { program := "ytdfajopniflaaaa", sum := "637a56bd8a6197c96b3afa888e814547c7a70e935d1b9af464938f5ba51f2cd9", func := "treaty/treatylaw39.RetroMonotone", spec := "retroMonotone", named := ["math/bits.divideError", "math/bits.overflowError"], apart := false }
def RetroMonotoneSaid : Prop := retroMonotoneRow.holds Try.pinned (OpenSpec.ofChange retroMonotoneSpec)

/-- ITS FALSE NEIGHBOUR: 'it returns false'. Refute it at one input. -/
def retroMonotoneWrong : ChangeSpec := { name := "retroMonotone", fn := fun _ => fun
  | [d1, d2] => { results := [.lit (.bool false)], args := [d1, d2] }
  | _ => none }
def RetroMonotoneWrongFalsely : Prop := retroMonotoneRow.holds Try.pinned (OpenSpec.ofChange retroMonotoneWrong)

/-- 'treatylaw39.RetroBetween': WHATEVER THE INPUT: true; the input reads as it did. -/
def retroBetweenSpec : ChangeSpec := { name := "retroBetween", fn := fun _ => fun
  | [d1, d2] => { results := [.lit (.bool true)], args := [d1, d2] }
  | _ => none }
def retroBetweenRow : OpenClaim := { program := "ytdfajopniflaaaa", sum := "637a56bd8a6197c96b3afa888e814547c7a70e935d1b9af464938f5ba51f2cd9", func := "treaty/treatylaw39.RetroBetween", spec := "retroBetween", named := ["math/bits.divideError", "math/bits.overflowError"], apart := false }
def RetroBetweenSaid : Prop := retroBetweenRow.holds Try.pinned (OpenSpec.ofChange retroBetweenSpec)

/-- ITS FALSE NEIGHBOUR: 'it returns false'. Refute it at one input. -/
def retroBetweenWrong : ChangeSpec := { name := "retroBetween", fn := fun _ => fun
  | [d1, d2] => { results := [.lit (.bool false)], args := [d1, d2] }
  | _ => none }
def RetroBetweenWrongFalsely : Prop := retroBetweenRow.holds Try.pinned (OpenSpec.ofChange retroBetweenWrong)

/-- 'treatylaw39.RetroStraight': WHATEVER THE INPUT: true; the input reads as it did. -/
def retroStraightSpec : ChangeSpec := { name := "retroStraight", fn := fun _ => fun
  | [d] => { results := [.lit (.bool true)], args := [d] }
  | _ => none }
def retroStraightRow : OpenClaim := { program := "ytdfajopniflaaaa", sum := "637a56bd8a6197c96b3afa888e814547c7a70e935d1b9af464938f5ba51f2cd9", func := "treaty/treatylaw39.RetroStraight", spec := "retroStraight", named := ["math/bits.divideError", "math/bits.overflowError"], apart := false }
def RetroStraightSaid : Prop := retroStraightRow.holds Try.pinned (OpenSpec.ofChange retroStraightSpec)

/-- ITS FALSE NEIGHBOUR: 'it returns false'. Refute it at one input. -/
def retroStraightWrong : ChangeSpec := { name := "retroStraight", fn := fun _ => fun
  | [d] => { results := [.lit (.bool false)], args := [d] }
  | _ => none }
def RetroStraightWrongFalsely : Prop := retroStraightRow.holds Try.pinned (OpenSpec.ofChange retroStraightWrong)

/-- 'treatylaw39.RetroIterate': WHATEVER THE INPUT: true; the input reads as it did. -/
def retroIterateSpec : ChangeSpec := { name := "retroIterate", fn := fun _ => fun
  | [d1, d2, d3, d4, d5, d6] => { results := [.lit (.bool true)], args := [d1, d2, d3, d4, d5, d6] }
  | _ => none }
def retroIterateRow : OpenClaim := { program := "ytdfajopniflaaaa", sum := "637a56bd8a6197c96b3afa888e814547c7a70e935d1b9af464938f5ba51f2cd9", func := "treaty/treatylaw39.RetroIterate", spec := "retroIterate", named := ["math/bits.divideError", "math/bits.overflowError"], apart := false }
def RetroIterateSaid : Prop := retroIterateRow.holds Try.pinned (OpenSpec.ofChange retroIterateSpec)

/-- ITS FALSE NEIGHBOUR: 'it returns false'. Refute it at one input. -/
def retroIterateWrong : ChangeSpec := { name := "retroIterate", fn := fun _ => fun
  | [d1, d2, d3, d4, d5, d6] => { results := [.lit (.bool false)], args := [d1, d2, d3, d4, d5, d6] }
  | _ => none }
def RetroIterateWrongFalsely : Prop := retroIterateRow.holds Try.pinned (OpenSpec.ofChange retroIterateWrong)

/-- 'treatylaw39.RetroSolutions': WHATEVER THE INPUT: true; the input reads as it did. -/
def retroSolutionsSpec : ChangeSpec := { name := "retroSolutions", fn := fun _ => fun
  | [d] => { results := [.lit (.bool true)], args := [d] }
  | _ => none }
def retroSolutionsRow : OpenClaim := { program := "ytdfajopniflaaaa", sum := "637a56bd8a6197c96b3afa888e814547c7a70e935d1b9af464938f5ba51f2cd9", func := "treaty/treatylaw39.RetroSolutions", spec := "retroSolutions", named := ["math/bits.divideError", "math/bits.overflowError"], apart := false }
def RetroSolutionsSaid : Prop := retroSolutionsRow.holds Try.pinned (OpenSpec.ofChange retroSolutionsSpec)

/-- ITS FALSE NEIGHBOUR: 'it returns false'. Refute it at one input. -/
def retroSolutionsWrong : ChangeSpec := { name := "retroSolutions", fn := fun _ => fun
  | [d] => { results := [.lit (.bool false)], args := [d] }
  | _ => none }
def RetroSolutionsWrongFalsely : Prop := retroSolutionsRow.holds Try.pinned (OpenSpec.ofChange retroSolutionsWrong)

/- THE SECOND FORM. 'bulk': how many values and letters a reading holds, each counted each time it is reached (what is shared counts as often as it is met; a slice's spare places count too). A statement '..UptoSaid' is the law's where the arguments, and the package variables that the reading takes, are together of bulk at most 1048576: NARROWER than '..Said'. Prove '..Said' where nothing that the law and all that it calls make is longer than what came in: it says more and counts as full. Else prove '..UptoSaid'. A law counts once. -/
mutual
def uptoBulk {H : Type} : DataW H → Nat
  | .lit (.string bytes) => bytes.length + 1
  | .lit _ => 1
  | .nil => 1
  | .ptr d => uptoBulk d + 1
  | .slice elems spare => uptoBulkAll elems + uptoBulkAll spare + 1
  | .agg parts => uptoBulkAll parts + 1
  | .iface _ d => uptoBulk d + 1
  | .map entries => uptoBulkEntries entries + 1
  | .held _ => 1
def uptoBulkAll {H : Type} : List (DataW H) → Nat
  | [] => 0
  | d :: r => uptoBulk d + uptoBulkAll r
def uptoBulkEntries {H : Type} : List (Lit × DataW H) → Nat
  | [] => 0
  | x :: r => uptoBulkEntry x + uptoBulkEntries r
def uptoBulkEntry {H : Type} : Lit × DataW H → Nat
  | (.string bytes, d) => bytes.length + uptoBulk d + 1
  | (_, d) => uptoBulk d + 1
 end
def uptoSmall : (H : Type) → List (DataW H) → Bool := fun _ ds => decide (uptoBulkAll ds ≤ 1048576)
def OpenSpec.upto (s : _root_.Go.ChangeSpec) : _root_.Go.OpenSpec := { _root_.Go.OpenSpec.ofChange s with cond := some uptoSmall }

/-- 'treatylaw39.RetroSolve', WHERE WHAT IT READS IS OF BULK AT MOST 1048576: true; the input reads as it did. -/
def retroSolveUptoRow : OpenClaim := { program := "ytdfajopniflaaaa", sum := "637a56bd8a6197c96b3afa888e814547c7a70e935d1b9af464938f5ba51f2cd9", func := "treaty/treatylaw39.RetroSolve", spec := "retroSolve", named := ["math/bits.divideError", "math/bits.overflowError"], apart := false, narrowed := true }
def RetroSolveUptoSaid : Prop := retroSolveUptoRow.holds Try.pinned (OpenSpec.upto retroSolveSpec)

/-- 'treatylaw39.RetroMonotone', WHERE WHAT IT READS IS OF BULK AT MOST 1048576: true; the input reads as it did. -/
def retroMonotoneUptoRow : OpenClaim := { program := "ytdfajopniflaaaa", sum := "637a56bd8a6197c96b3afa888e814547c7a70e935d1b9af464938f5ba51f2cd9", func := "treaty/treatylaw39.RetroMonotone", spec := "retroMonotone", named := ["math/bits.divideError", "math/bits.overflowError"], apart := false, narrowed := true }
def RetroMonotoneUptoSaid : Prop := retroMonotoneUptoRow.holds Try.pinned (OpenSpec.upto retroMonotoneSpec)

/-- 'treatylaw39.RetroBetween', WHERE WHAT IT READS IS OF BULK AT MOST 1048576: true; the input reads as it did. -/
def retroBetweenUptoRow : OpenClaim := { program := "ytdfajopniflaaaa", sum := "637a56bd8a6197c96b3afa888e814547c7a70e935d1b9af464938f5ba51f2cd9", func := "treaty/treatylaw39.RetroBetween", spec := "retroBetween", named := ["math/bits.divideError", "math/bits.overflowError"], apart := false, narrowed := true }
def RetroBetweenUptoSaid : Prop := retroBetweenUptoRow.holds Try.pinned (OpenSpec.upto retroBetweenSpec)

/-- 'treatylaw39.RetroStraight', WHERE WHAT IT READS IS OF BULK AT MOST 1048576: true; the input reads as it did. -/
def retroStraightUptoRow : OpenClaim := { program := "ytdfajopniflaaaa", sum := "637a56bd8a6197c96b3afa888e814547c7a70e935d1b9af464938f5ba51f2cd9", func := "treaty/treatylaw39.RetroStraight", spec := "retroStraight", named := ["math/bits.divideError", "math/bits.overflowError"], apart := false, narrowed := true }
def RetroStraightUptoSaid : Prop := retroStraightUptoRow.holds Try.pinned (OpenSpec.upto retroStraightSpec)

/-- 'treatylaw39.RetroIterate', WHERE WHAT IT READS IS OF BULK AT MOST 1048576: true; the input reads as it did. -/
def retroIterateUptoRow : OpenClaim := { program := "ytdfajopniflaaaa", sum := "637a56bd8a6197c96b3afa888e814547c7a70e935d1b9af464938f5ba51f2cd9", func := "treaty/treatylaw39.RetroIterate", spec := "retroIterate", named := ["math/bits.divideError", "math/bits.overflowError"], apart := false, narrowed := true }
def RetroIterateUptoSaid : Prop := retroIterateUptoRow.holds Try.pinned (OpenSpec.upto retroIterateSpec)

/-- 'treatylaw39.RetroSolutions', WHERE WHAT IT READS IS OF BULK AT MOST 1048576: true; the input reads as it did. -/
def retroSolutionsUptoRow : OpenClaim := { program := "ytdfajopniflaaaa", sum := "637a56bd8a6197c96b3afa888e814547c7a70e935d1b9af464938f5ba51f2cd9", func := "treaty/treatylaw39.RetroSolutions", spec := "retroSolutions", named := ["math/bits.divideError", "math/bits.overflowError"], apart := false, narrowed := true }
def RetroSolutionsUptoSaid : Prop := retroSolutionsUptoRow.holds Try.pinned (OpenSpec.upto retroSolutionsSpec)

end Rows
end Go.Proofs.Ytdfajopniflaaaa
