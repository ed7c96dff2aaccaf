/-
  No cell of these rows narrows 'for every input' (looked for: loops, veiled, ifaces, maps, wideKeys, modest, calm, conditions, laid).
  DERIVED. THE GIVEN ROWS OF THIS SEAT. 8 by the template 'for every input the law returns true; each argument reads behind the call as it read before'; 0 by the template 'total and deterministic' (their statements: YtedkdflecdggpaaTotals.lean).
  GIVEN WITH THE SEED: the statements are not yours to turn. If you find one false, say at which input.
  Laid BY PROGRAM, IN A SANDBOX (cutbox-rows.mjs): the forced cells as the released guide's own fill.sh prints them over the translation 66e2af9d996f528b… (all of the seat's roots in one cut). By AI agents, Wed Nov 11 2026. No macro, syntax, notation, axiom, sorry.
-/
import Derived.Test.YtedkdflecdggpaaChecked
import GoSem.Claim
import GoSem.ClaimJoined
import GoSem.ClaimMapViews
import Derived.JoinedTies
import Derived.KernelRfl
namespace Go.Proofs.Ytedkdflecdggpaa
/- THE CELL 'sum', in the pinned program and in every row, IS THE sha256 OF THE DUMP (.gsa) THAT YtedkdflecdggpaaProg.lean LOADS. Nothing in Lean hashes anything: it is a label: what it is worth is what the hold of that sum in a sandbox is worth. -/
noncomputable def Try.pinned : Pinned := { name := "ytedkdflecdggpaa", sum := "66e2af9d996f528bd3e389025d9223c296df1c5614ff13683e8164090ca9416b", checked := Try.checked }
namespace Rows
def none {H : Type} : Left H := { results := [], args := [] }

/-- 'treatylaw24.CommissionRate': WHATEVER THE INPUT: true; the input reads as it did. -/
def commissionRateSpec : ChangeSpec := { name := "commissionRate", fn := fun _ => fun
  | [d1, d2, d3, d4, d5] => { results := [.lit (.bool true)], args := [d1, d2, d3, d4, d5] }
  | _ => none }
def commissionRateRow : OpenClaim := { program := "ytedkdflecdggpaa", sum := "66e2af9d996f528bd3e389025d9223c296df1c5614ff13683e8164090ca9416b", func := "treaty/treatylaw24.CommissionRate", spec := "commissionRate", unfollowed := true, recurses := true, named := ["math/bits.divideError", "math/bits.overflowError"], apart := false }
def CommissionRateSaid : Prop := commissionRateRow.holds Try.pinned (OpenSpec.ofChange commissionRateSpec)

/-- ITS FALSE NEIGHBOUR: 'it returns false'. Refute it at one input. -/
def commissionRateWrong : ChangeSpec := { name := "commissionRate", fn := fun _ => fun
  | [d1, d2, d3, d4, d5] => { results := [.lit (.bool false)], args := [d1, d2, d3, d4, d5] }
  | _ => none }
def CommissionRateWrongFalsely : Prop := commissionRateRow.holds Try.pinned (OpenSpec.ofChange commissionRateWrong)

/-- 'treatylaw24.CommissionBetween': WHATEVER THE INPUT: true; the input reads as it did. -/
def commissionBetweenSpec : ChangeSpec := { name := "commissionBetween", fn := fun _ => fun
  | [d1, d2, d3, d4] => { results := [.lit (.bool true)], args := [d1, d2, d3, d4] }
  | _ => none }
def commissionBetweenRow : OpenClaim := { program := "ytedkdflecdggpaa", sum := "66e2af9d996f528bd3e389025d9223c296df1c5614ff13683e8164090ca9416b", func := "treaty/treatylaw24.CommissionBetween", spec := "commissionBetween", unfollowed := true, recurses := true, named := ["math/bits.divideError", "math/bits.overflowError"], apart := false }
def CommissionBetweenSaid : Prop := commissionBetweenRow.holds Try.pinned (OpenSpec.ofChange commissionBetweenSpec)

/-- ITS FALSE NEIGHBOUR: 'it returns false'. Refute it at one input. -/
def commissionBetweenWrong : ChangeSpec := { name := "commissionBetween", fn := fun _ => fun
  | [d1, d2, d3, d4] => { results := [.lit (.bool false)], args := [d1, d2, d3, d4] }
  | _ => none }
def CommissionBetweenWrongFalsely : Prop := commissionBetweenRow.holds Try.pinned (OpenSpec.ofChange commissionBetweenWrong)

/-- 'treatylaw24.CommissionProfit': WHATEVER THE INPUT: true; the input reads as it did. -/
def commissionProfitSpec : ChangeSpec := { name := "commissionProfit", fn := fun _ => fun
  | [d1, d2, d3, d4, d5] => { results := [.lit (.bool true)], args := [d1, d2, d3, d4, d5] }
  | _ => none }
def commissionProfitRow : OpenClaim := { program := "ytedkdflecdggpaa", sum := "66e2af9d996f528bd3e389025d9223c296df1c5614ff13683e8164090ca9416b", func := "treaty/treatylaw24.CommissionProfit", spec := "commissionProfit", unfollowed := true, recurses := true, named := ["math/bits.divideError", "math/bits.overflowError"], apart := false }
def CommissionProfitSaid : Prop := commissionProfitRow.holds Try.pinned (OpenSpec.ofChange commissionProfitSpec)

/-- ITS FALSE NEIGHBOUR: 'it returns false'. Refute it at one input. -/
def commissionProfitWrong : ChangeSpec := { name := "commissionProfit", fn := fun _ => fun
  | [d1, d2, d3, d4, d5] => { results := [.lit (.bool false)], args := [d1, d2, d3, d4, d5] }
  | _ => none }
def CommissionProfitWrongFalsely : Prop := commissionProfitRow.holds Try.pinned (OpenSpec.ofChange commissionProfitWrong)

/-- 'treatylaw24.CommissionOnce': WHATEVER THE INPUT: true; the input reads as it did. -/
def commissionOnceSpec : ChangeSpec := { name := "commissionOnce", fn := fun _ => fun
  | [d] => { results := [.lit (.bool true)], args := [d] }
  | _ => none }
def commissionOnceRow : OpenClaim := { program := "ytedkdflecdggpaa", sum := "66e2af9d996f528bd3e389025d9223c296df1c5614ff13683e8164090ca9416b", func := "treaty/treatylaw24.CommissionOnce", spec := "commissionOnce", unfollowed := true, recurses := true, named := ["math/bits.divideError", "math/bits.overflowError"], apart := false }
def CommissionOnceSaid : Prop := commissionOnceRow.holds Try.pinned (OpenSpec.ofChange commissionOnceSpec)

/-- ITS FALSE NEIGHBOUR: 'it returns false'. Refute it at one input. -/
def commissionOnceWrong : ChangeSpec := { name := "commissionOnce", fn := fun _ => fun
  | [d] => { results := [.lit (.bool false)], args := [d] }
  | _ => none }
def CommissionOnceWrongFalsely : Prop := commissionOnceRow.holds Try.pinned (OpenSpec.ofChange commissionOnceWrong)

/-- 'treatylaw24.CommissionSwing': WHATEVER THE INPUT: true; the input reads as it did. -/
def commissionSwingSpec : ChangeSpec := { name := "commissionSwing", fn := fun _ => fun
  | [d1, d2, d3, d4, d5, d6] => { results := [.lit (.bool true)], args := [d1, d2, d3, d4, d5, d6] }
  | _ => none }
def commissionSwingRow : OpenClaim := { program := "ytedkdflecdggpaa", sum := "66e2af9d996f528bd3e389025d9223c296df1c5614ff13683e8164090ca9416b", func := "treaty/treatylaw24.CommissionSwing", spec := "commissionSwing", unfollowed := true, recurses := true, named := ["math/bits.divideError", "math/bits.overflowError"], apart := false }
def CommissionSwingSaid : Prop := commissionSwingRow.holds Try.pinned (OpenSpec.ofChange commissionSwingSpec)

/-- ITS FALSE NEIGHBOUR: 'it returns false'. Refute it at one input. -/
def commissionSwingWrong : ChangeSpec := { name := "commissionSwing", fn := fun _ => fun
  | [d1, d2, d3, d4, d5, d6] => { results := [.lit (.bool false)], args := [d1, d2, d3, d4, d5, d6] }
  | _ => none }
def CommissionSwingWrongFalsely : Prop := commissionSwingRow.holds Try.pinned (OpenSpec.ofChange commissionSwingWrong)

/-- 'treatylaw24.CommissionBounds': WHATEVER THE INPUT: true; the input reads as it did. -/
def commissionBoundsSpec : ChangeSpec := { name := "commissionBounds", fn := fun _ => fun
  | [d1, d2] => { results := [.lit (.bool true)], args := [d1, d2] }
  | _ => none }
def commissionBoundsRow : OpenClaim := { program := "ytedkdflecdggpaa", sum := "66e2af9d996f528bd3e389025d9223c296df1c5614ff13683e8164090ca9416b", func := "treaty/treatylaw24.CommissionBounds", spec := "commissionBounds", unfollowed := true, recurses := true, named := ["math/bits.divideError", "math/bits.overflowError"], apart := false }
def CommissionBoundsSaid : Prop := commissionBoundsRow.holds Try.pinned (OpenSpec.ofChange commissionBoundsSpec)

/-- ITS FALSE NEIGHBOUR: 'it returns false'. Refute it at one input. -/
def commissionBoundsWrong : ChangeSpec := { name := "commissionBounds", fn := fun _ => fun
  | [d1, d2] => { results := [.lit (.bool false)], args := [d1, d2] }
  | _ => none }
def CommissionBoundsWrongFalsely : Prop := commissionBoundsRow.holds Try.pinned (OpenSpec.ofChange commissionBoundsWrong)

/-- 'treatylaw24.CommissionRatio': WHATEVER THE INPUT: true; the input reads as it did. -/
def commissionRatioSpec : ChangeSpec := { name := "commissionRatio", fn := fun _ => fun
  | [d1, d2, d3] => { results := [.lit (.bool true)], args := [d1, d2, d3] }
  | _ => none }
def commissionRatioRow : OpenClaim := { program := "ytedkdflecdggpaa", sum := "66e2af9d996f528bd3e389025d9223c296df1c5614ff13683e8164090ca9416b", func := "treaty/treatylaw24.CommissionRatio", spec := "commissionRatio", unfollowed := true, recurses := true, named := ["math/bits.divideError", "math/bits.overflowError"], apart := false }
def CommissionRatioSaid : Prop := commissionRatioRow.holds Try.pinned (OpenSpec.ofChange commissionRatioSpec)

/-- ITS FALSE NEIGHBOUR: 'it returns false'. Refute it at one input. -/
def commissionRatioWrong : ChangeSpec := { name := "commissionRatio", fn := fun _ => fun
  | [d1, d2, d3] => { results := [.lit (.bool false)], args := [d1, d2, d3] }
  | _ => none }
def CommissionRatioWrongFalsely : Prop := commissionRatioRow.holds Try.pinned (OpenSpec.ofChange commissionRatioWrong)

/-- 'treatylaw24.CommissionSliding': WHATEVER THE INPUT: true; the input reads as it did. -/
def commissionSlidingSpec : ChangeSpec := { name := "commissionSliding", fn := fun _ => fun
  | [d1, d2, d3, d4] => { results := [.lit (.bool true)], args := [d1, d2, d3, d4] }
  | _ => none }
def commissionSlidingRow : OpenClaim := { program := "ytedkdflecdggpaa", sum := "66e2af9d996f528bd3e389025d9223c296df1c5614ff13683e8164090ca9416b", func := "treaty/treatylaw24.CommissionSliding", spec := "commissionSliding", unfollowed := true, recurses := true, named := ["math/bits.divideError", "math/bits.overflowError"], apart := false }
def CommissionSlidingSaid : Prop := commissionSlidingRow.holds Try.pinned (OpenSpec.ofChange commissionSlidingSpec)

/-- ITS FALSE NEIGHBOUR: 'it returns false'. Refute it at one input. -/
def commissionSlidingWrong : ChangeSpec := { name := "commissionSliding", fn := fun _ => fun
  | [d1, d2, d3, d4] => { results := [.lit (.bool false)], args := [d1, d2, d3, d4] }
  | _ => none }
def CommissionSlidingWrongFalsely : Prop := commissionSlidingRow.holds Try.pinned (OpenSpec.ofChange commissionSlidingWrong)

/- THE SECOND FORM. 'bulk': how many values and letters a reading holds, each counted each time it is reached (what is shared counts as often as it is met; a slice's spare places count too). A statement '..UptoSaid' is the law's where the arguments, and the package variables that the reading takes, are together of bulk at most 1048576: NARROWER than '..Said'. Prove '..Said' where nothing that the law and all that it calls make is longer than what came in: it says more and counts as full. Else prove '..UptoSaid'. A law counts once. -/
mutual
def uptoBulk {H : Type} : DataW H → Nat
  | .lit (.string bytes) => bytes.length + 1
  | .lit _ => 1
  | .nil => 1
  | .ptr d => uptoBulk d + 1
  | .slice elems spare => uptoBulkAll elems + uptoBulkAll spare + 1
  | .agg parts => uptoBulkAll parts + 1
  | .iface _ d => uptoBulk d + 1
  | .map entries => uptoBulkEntries entries + 1
  | .held _ => 1
def uptoBulkAll {H : Type} : List (DataW H) → Nat
  | [] => 0
  | d :: r => uptoBulk d + uptoBulkAll r
def uptoBulkEntries {H : Type} : List (Lit × DataW H) → Nat
  | [] => 0
  | x :: r => uptoBulkEntry x + uptoBulkEntries r
def uptoBulkEntry {H : Type} : Lit × DataW H → Nat
  | (.string bytes, d) => bytes.length + uptoBulk d + 1
  | (_, d) => uptoBulk d + 1
 end
def uptoSmall : (H : Type) → List (DataW H) → Bool := fun _ ds => decide (uptoBulkAll ds ≤ 1048576)
def OpenSpec.upto (s : _root_.Go.ChangeSpec) : _root_.Go.OpenSpec := { _root_.Go.OpenSpec.ofChange s with cond := some uptoSmall }

/-- 'treatylaw24.CommissionRate', WHERE WHAT IT READS IS OF BULK AT MOST 1048576: true; the input reads as it did. -/
def commissionRateUptoRow : OpenClaim := { program := "ytedkdflecdggpaa", sum := "66e2af9d996f528bd3e389025d9223c296df1c5614ff13683e8164090ca9416b", func := "treaty/treatylaw24.CommissionRate", spec := "commissionRate", unfollowed := true, recurses := true, named := ["math/bits.divideError", "math/bits.overflowError"], apart := false, narrowed := true }
def CommissionRateUptoSaid : Prop := commissionRateUptoRow.holds Try.pinned (OpenSpec.upto commissionRateSpec)

/-- 'treatylaw24.CommissionBetween', WHERE WHAT IT READS IS OF BULK AT MOST 1048576: true; the input reads as it did. -/
def commissionBetweenUptoRow : OpenClaim := { program := "ytedkdflecdggpaa", sum := "66e2af9d996f528bd3e389025d9223c296df1c5614ff13683e8164090ca9416b", func := "treaty/treatylaw24.CommissionBetween", spec := "commissionBetween", unfollowed := true, recurses := true, named := ["math/bits.divideError", "math/bits.overflowError"], apart := false, narrowed := true }
def CommissionBetweenUptoSaid : Prop := commissionBetweenUptoRow.holds Try.pinned (OpenSpec.upto commissionBetweenSpec)

/-- 'treatylaw24.CommissionProfit', WHERE WHAT IT READS IS OF BULK AT MOST 1048576: true; the input reads as it did. -/
def commissionProfitUptoRow : OpenClaim := { program := "ytedkdflecdggpaa", sum := "66e2af9d996f528bd3e389025d9223c296df1c5614ff13683e8164090ca9416b", func := "treaty/treatylaw24.CommissionProfit", spec := "commissionProfit", unfollowed := true, recurses := true, named := ["math/bits.divideError", "math/bits.overflowError"], apart := false, narrowed := true }
def CommissionProfitUptoSaid : Prop := commissionProfitUptoRow.holds Try.pinned (OpenSpec.upto commissionProfitSpec)

/-- 'treatylaw24.CommissionOnce', WHERE WHAT IT READS IS OF BULK AT MOST 1048576: true; the input reads as it did. -/
def commissionOnceUptoRow : OpenClaim := { program := "ytedkdflecdggpaa", sum := "66e2af9d996f528bd3e389025d9223c296df1c5614ff13683e8164090ca9416b", func := "treaty/treatylaw24.CommissionOnce", spec := "commissionOnce", unfollowed := true, recurses := true, named := ["math/bits.divideError", "math/bits.overflowError"], apart := false, narrowed := true }
def CommissionOnceUptoSaid : Prop := commissionOnceUptoRow.holds Try.pinned (OpenSpec.upto commissionOnceSpec)

/-- 'treatylaw24.CommissionSwing', WHERE WHAT IT READS IS OF BULK AT MOST 1048576: true; the input reads as it did. -/
def commissionSwingUptoRow : OpenClaim := { program := "ytedkdflecdggpaa", sum := "66e2af9d996f528bd3e389025d9223c296df1c5614ff13683e8164090ca9416b", func := "treaty/treatylaw24.CommissionSwing", spec := "commissionSwing", unfollowed := true, recurses := true, named := ["math/bits.divideError", "math/bits.overflowError"], apart := false, narrowed := true }
def CommissionSwingUptoSaid : Prop := commissionSwingUptoRow.holds Try.pinned (OpenSpec.upto commissionSwingSpec)

/-- 'treatylaw24.CommissionBounds', WHERE WHAT IT READS IS OF BULK AT MOST 1048576: true; the input reads as it did. -/
def commissionBoundsUptoRow : OpenClaim := { program := "ytedkdflecdggpaa", sum := "66e2af9d996f528bd3e389025d9223c296df1c5614ff13683e8164090ca9416b", func := "treaty/treatylaw24.CommissionBounds", spec := "commissionBounds", unfollowed := true, recurses := true, named := ["math/bits.divideError", "math/bits.overflowError"], apart := false, narrowed := true }
def CommissionBoundsUptoSaid : Prop := commissionBoundsUptoRow.holds Try.pinned (OpenSpec.upto commissionBoundsSpec)

/-- 'treatylaw24.CommissionRatio', WHERE WHAT IT READS IS OF BULK AT MOST 1048576: true; the input reads as it did. -/
def commissionRatioUptoRow : OpenClaim := { program := "ytedkdflecdggpaa", sum := "66e2af9d996f528bd3e389025d9223c296df1c5614ff13683e8164090ca9416b", func := "treaty/treatylaw24.CommissionRatio", spec := "commissionRatio", unfollowed := true, recurses := true, named := ["math/bits.divideError", "math/bits.overflowError"], apart := false, narrowed := true }
def CommissionRatioUptoSaid : Prop := commissionRatioUptoRow.holds Try.pinned (OpenSpec.upto commissionRatioSpec)

/-- 'treatylaw24.CommissionSliding', WHERE WHAT IT READS IS OF BULK AT MOST 1048576: true; the input reads as it did. -/
def commissionSlidingUptoRow : OpenClaim := { program := "ytedkdflecdggpaa", sum := "66e2af9d996f528bd3e389025d9223c296df1c5614ff13683e8164090ca9416b", func := "treaty/treatylaw24.CommissionSliding", spec := "commissionSliding", unfollowed := true, recurses := true, named := ["math/bits.divideError", "math/bits.overflowError"], apart := false, narrowed := true }
def CommissionSlidingUptoSaid : Prop := commissionSlidingUptoRow.holds Try.pinned (OpenSpec.upto commissionSlidingSpec)

end Rows
end Go.Proofs.Ytedkdflecdggpaa
