/-
  No cell of these rows narrows 'for every input' (looked for: loops, veiled, ifaces, maps, wideKeys, modest, calm, conditions, laid).
  DERIVED. THE GIVEN ROWS OF THIS SEAT. 7 by the template 'for every input the law returns true; each argument reads behind the call as it read before'; 0 by the template 'total and deterministic' (their statements: YtgdlnackpfbmbaaTotals.lean).
  GIVEN WITH THE SEED: the statements are not yours to turn. If you find one false, say at which input.
  Laid BY PROGRAM, IN A SANDBOX (cutbox-rows.mjs): the forced cells as the released guide's own fill.sh prints them over the translation 31284065a9566a84… (all of the seat's roots in one cut). By AI agents, Wed Nov 11 2026. No macro, syntax, notation, axiom, sorry.
-/
import Derived.Test.YtgdlnackpfbmbaaChecked
import GoSem.Claim
import GoSem.ClaimJoined
import GoSem.ClaimMapViews
import Derived.JoinedTies
import Derived.KernelRfl
namespace Go.Proofs.Ytgdlnackpfbmbaa
/- THE CELL 'sum', in the pinned program and in every row, IS THE sha256 OF THE DUMP (.gsa) THAT YtgdlnackpfbmbaaProg.lean LOADS. Nothing in Lean hashes anything: it is a label: what it is worth is what the hold of that sum in a sandbox is worth. -/
noncomputable def Try.pinned : Pinned := { name := "ytgdlnackpfbmbaa", sum := "31284065a9566a84527bf37b54a8adb3c7d39ff4f7a0afc81ea191a3d9120f56", checked := Try.checked }
namespace Rows
def none {H : Type} : Left H := { results := [], args := [] }

/-- 'treatylaw01.AmountQuotient': WHATEVER THE INPUT: true; the input reads as it did. -/
def amountQuotientSpec : ChangeSpec := { name := "amountQuotient", fn := fun _ => fun
  | [d1, d2, d3, d4, d5] => { results := [.lit (.bool true)], args := [d1, d2, d3, d4, d5] }
  | _ => none }
def amountQuotientRow : OpenClaim := { program := "ytgdlnackpfbmbaa", sum := "31284065a9566a84527bf37b54a8adb3c7d39ff4f7a0afc81ea191a3d9120f56", func := "treaty/treatylaw01.AmountQuotient", spec := "amountQuotient", named := ["math/bits.divideError", "math/bits.overflowError"], apart := false }
def AmountQuotientSaid : Prop := amountQuotientRow.holds Try.pinned (OpenSpec.ofChange amountQuotientSpec)

/-- ITS FALSE NEIGHBOUR: 'it returns false'. Refute it at one input. -/
def amountQuotientWrong : ChangeSpec := { name := "amountQuotient", fn := fun _ => fun
  | [d1, d2, d3, d4, d5] => { results := [.lit (.bool false)], args := [d1, d2, d3, d4, d5] }
  | _ => none }
def AmountQuotientWrongFalsely : Prop := amountQuotientRow.holds Try.pinned (OpenSpec.ofChange amountQuotientWrong)

/-- 'treatylaw01.AmountNear': WHATEVER THE INPUT: true; the input reads as it did. -/
def amountNearSpec : ChangeSpec := { name := "amountNear", fn := fun _ => fun
  | [d1, d2, d3, d4] => { results := [.lit (.bool true)], args := [d1, d2, d3, d4] }
  | _ => none }
def amountNearRow : OpenClaim := { program := "ytgdlnackpfbmbaa", sum := "31284065a9566a84527bf37b54a8adb3c7d39ff4f7a0afc81ea191a3d9120f56", func := "treaty/treatylaw01.AmountNear", spec := "amountNear", named := ["math/bits.divideError", "math/bits.overflowError"], apart := false }
def AmountNearSaid : Prop := amountNearRow.holds Try.pinned (OpenSpec.ofChange amountNearSpec)

/-- ITS FALSE NEIGHBOUR: 'it returns false'. Refute it at one input. -/
def amountNearWrong : ChangeSpec := { name := "amountNear", fn := fun _ => fun
  | [d1, d2, d3, d4] => { results := [.lit (.bool false)], args := [d1, d2, d3, d4] }
  | _ => none }
def AmountNearWrongFalsely : Prop := amountNearRow.holds Try.pinned (OpenSpec.ofChange amountNearWrong)

/-- 'treatylaw01.AmountOpposite': WHATEVER THE INPUT: true; the input reads as it did. -/
def amountOppositeSpec : ChangeSpec := { name := "amountOpposite", fn := fun _ => fun
  | [d1, d2, d3, d4] => { results := [.lit (.bool true)], args := [d1, d2, d3, d4] }
  | _ => none }
def amountOppositeRow : OpenClaim := { program := "ytgdlnackpfbmbaa", sum := "31284065a9566a84527bf37b54a8adb3c7d39ff4f7a0afc81ea191a3d9120f56", func := "treaty/treatylaw01.AmountOpposite", spec := "amountOpposite", named := ["math/bits.divideError", "math/bits.overflowError"], apart := false }
def AmountOppositeSaid : Prop := amountOppositeRow.holds Try.pinned (OpenSpec.ofChange amountOppositeSpec)

/-- ITS FALSE NEIGHBOUR: 'it returns false'. Refute it at one input. -/
def amountOppositeWrong : ChangeSpec := { name := "amountOpposite", fn := fun _ => fun
  | [d1, d2, d3, d4] => { results := [.lit (.bool false)], args := [d1, d2, d3, d4] }
  | _ => none }
def AmountOppositeWrongFalsely : Prop := amountOppositeRow.holds Try.pinned (OpenSpec.ofChange amountOppositeWrong)

/-- 'treatylaw01.AmountOrder': WHATEVER THE INPUT: true; the input reads as it did. -/
def amountOrderSpec : ChangeSpec := { name := "amountOrder", fn := fun _ => fun
  | [d1, d2, d3, d4, d5] => { results := [.lit (.bool true)], args := [d1, d2, d3, d4, d5] }
  | _ => none }
def amountOrderRow : OpenClaim := { program := "ytgdlnackpfbmbaa", sum := "31284065a9566a84527bf37b54a8adb3c7d39ff4f7a0afc81ea191a3d9120f56", func := "treaty/treatylaw01.AmountOrder", spec := "amountOrder", named := ["math/bits.divideError", "math/bits.overflowError"], apart := false }
def AmountOrderSaid : Prop := amountOrderRow.holds Try.pinned (OpenSpec.ofChange amountOrderSpec)

/-- ITS FALSE NEIGHBOUR: 'it returns false'. Refute it at one input. -/
def amountOrderWrong : ChangeSpec := { name := "amountOrder", fn := fun _ => fun
  | [d1, d2, d3, d4, d5] => { results := [.lit (.bool false)], args := [d1, d2, d3, d4, d5] }
  | _ => none }
def AmountOrderWrongFalsely : Prop := amountOrderRow.holds Try.pinned (OpenSpec.ofChange amountOrderWrong)

/-- 'treatylaw01.AmountWhole': WHATEVER THE INPUT: true; the input reads as it did. -/
def amountWholeSpec : ChangeSpec := { name := "amountWhole", fn := fun _ => fun
  | [d1, d2, d3, d4, d5] => { results := [.lit (.bool true)], args := [d1, d2, d3, d4, d5] }
  | _ => none }
def amountWholeRow : OpenClaim := { program := "ytgdlnackpfbmbaa", sum := "31284065a9566a84527bf37b54a8adb3c7d39ff4f7a0afc81ea191a3d9120f56", func := "treaty/treatylaw01.AmountWhole", spec := "amountWhole", named := ["math/bits.divideError", "math/bits.overflowError"], apart := false }
def AmountWholeSaid : Prop := amountWholeRow.holds Try.pinned (OpenSpec.ofChange amountWholeSpec)

/-- ITS FALSE NEIGHBOUR: 'it returns false'. Refute it at one input. -/
def amountWholeWrong : ChangeSpec := { name := "amountWhole", fn := fun _ => fun
  | [d1, d2, d3, d4, d5] => { results := [.lit (.bool false)], args := [d1, d2, d3, d4, d5] }
  | _ => none }
def AmountWholeWrongFalsely : Prop := amountWholeRow.holds Try.pinned (OpenSpec.ofChange amountWholeWrong)

/-- 'treatylaw01.AmountShare': WHATEVER THE INPUT: true; the input reads as it did. -/
def amountShareSpec : ChangeSpec := { name := "amountShare", fn := fun _ => fun
  | [d1, d2, d3] => { results := [.lit (.bool true)], args := [d1, d2, d3] }
  | _ => none }
def amountShareRow : OpenClaim := { program := "ytgdlnackpfbmbaa", sum := "31284065a9566a84527bf37b54a8adb3c7d39ff4f7a0afc81ea191a3d9120f56", func := "treaty/treatylaw01.AmountShare", spec := "amountShare", named := ["math/bits.divideError", "math/bits.overflowError"], apart := false }
def AmountShareSaid : Prop := amountShareRow.holds Try.pinned (OpenSpec.ofChange amountShareSpec)

/-- ITS FALSE NEIGHBOUR: 'it returns false'. Refute it at one input. -/
def amountShareWrong : ChangeSpec := { name := "amountShare", fn := fun _ => fun
  | [d1, d2, d3] => { results := [.lit (.bool false)], args := [d1, d2, d3] }
  | _ => none }
def AmountShareWrongFalsely : Prop := amountShareRow.holds Try.pinned (OpenSpec.ofChange amountShareWrong)

/-- 'treatylaw01.AmountSum': WHATEVER THE INPUT: true; the input reads as it did. -/
def amountSumSpec : ChangeSpec := { name := "amountSum", fn := fun _ => fun
  | [d1, d2, d3] => { results := [.lit (.bool true)], args := [d1, d2, d3] }
  | _ => none }
def amountSumRow : OpenClaim := { program := "ytgdlnackpfbmbaa", sum := "31284065a9566a84527bf37b54a8adb3c7d39ff4f7a0afc81ea191a3d9120f56", func := "treaty/treatylaw01.AmountSum", spec := "amountSum", named := ["math/bits.divideError", "math/bits.overflowError"], apart := false }
def AmountSumSaid : Prop := amountSumRow.holds Try.pinned (OpenSpec.ofChange amountSumSpec)

/-- ITS FALSE NEIGHBOUR: 'it returns false'. Refute it at one input. -/
def amountSumWrong : ChangeSpec := { name := "amountSum", fn := fun _ => fun
  | [d1, d2, d3] => { results := [.lit (.bool false)], args := [d1, d2, d3] }
  | _ => none }
def AmountSumWrongFalsely : Prop := amountSumRow.holds Try.pinned (OpenSpec.ofChange amountSumWrong)

/- THE SECOND FORM. 'bulk': how many values and letters a reading holds, each counted each time it is reached (what is shared counts as often as it is met; a slice's spare places count too). A statement '..UptoSaid' is the law's where the arguments, and the package variables that the reading takes, are together of bulk at most 1048576: NARROWER than '..Said'. Prove '..Said' where nothing that the law and all that it calls make is longer than what came in: it says more and counts as full. Else prove '..UptoSaid'. A law counts once. -/
mutual
def uptoBulk {H : Type} : DataW H → Nat
  | .lit (.string bytes) => bytes.length + 1
  | .lit _ => 1
  | .nil => 1
  | .ptr d => uptoBulk d + 1
  | .slice elems spare => uptoBulkAll elems + uptoBulkAll spare + 1
  | .agg parts => uptoBulkAll parts + 1
  | .iface _ d => uptoBulk d + 1
  | .map entries => uptoBulkEntries entries + 1
  | .held _ => 1
def uptoBulkAll {H : Type} : List (DataW H) → Nat
  | [] => 0
  | d :: r => uptoBulk d + uptoBulkAll r
def uptoBulkEntries {H : Type} : List (Lit × DataW H) → Nat
  | [] => 0
  | x :: r => uptoBulkEntry x + uptoBulkEntries r
def uptoBulkEntry {H : Type} : Lit × DataW H → Nat
  | (.string bytes, d) => bytes.length + uptoBulk d + 1
  | (_, d) => uptoBulk d + 1
 end
def uptoSmall : (H : Type) → List (DataW H) → Bool := fun _ ds => decide (uptoBulkAll ds ≤ 1048576)
def OpenSpec.upto (s : _root_.Go.ChangeSpec) : _root_.Go.OpenSpec := { _root_.Go.OpenSpec.ofChange s with cond := some uptoSmall }

/-- 'treatylaw01.AmountQuotient', WHERE WHAT IT READS IS OF BULK AT MOST 1048576: true; the input reads as it did. -/
def amountQuotientUptoRow : OpenClaim := { program := "ytgdlnackpfbmbaa", sum := "31284065a9566a84527bf37b54a8adb3c7d39ff4f7a0afc81ea191a3d9120f56", func := "treaty/treatylaw01.AmountQuotient", spec := "amountQuotient", named := ["math/bits.divideError", "math/bits.overflowError"], apart := false, narrowed := true }
def AmountQuotientUptoSaid : Prop := amountQuotientUptoRow.holds Try.pinned (OpenSpec.upto amountQuotientSpec)

/-- 'treatylaw01.AmountNear', WHERE WHAT IT READS IS OF BULK AT MOST 1048576: true; the input reads as it did. -/
def amountNearUptoRow : OpenClaim := { program := "ytgdlnackpfbmbaa", sum := "31284065a9566a84527bf37b54a8adb3c7d39ff4f7a0afc81ea191a3d9120f56", func := "treaty/treatylaw01.AmountNear", spec := "amountNear", named := ["math/bits.divideError", "math/bits.overflowError"], apart := false, narrowed := true }
def AmountNearUptoSaid : Prop := amountNearUptoRow.holds Try.pinned (OpenSpec.upto amountNearSpec)

/-- 'treatylaw01.AmountOpposite', WHERE WHAT IT READS IS OF BULK AT MOST 1048576: true; the input reads as it did. -/
def amountOppositeUptoRow : OpenClaim := { program := "ytgdlnackpfbmbaa", sum := "31284065a9566a84527bf37b54a8adb3c7d39ff4f7a0afc81ea191a3d9120f56", func := "treaty/treatylaw01.AmountOpposite", spec := "amountOpposite", named := ["math/bits.divideError", "math/bits.overflowError"], apart := false, narrowed := true }
def AmountOppositeUptoSaid : Prop := amountOppositeUptoRow.holds Try.pinned (OpenSpec.upto amountOppositeSpec)

/-- 'treatylaw01.AmountOrder', WHERE WHAT IT READS IS OF BULK AT MOST 1048576: true; the input reads as it did. -/
def amountOrderUptoRow : OpenClaim := { program := "ytgdlnackpfbmbaa", sum := "31284065a9566a84527bf37b54a8adb3c7d39ff4f7a0afc81ea191a3d9120f56", func := "treaty/treatylaw01.AmountOrder", spec := "amountOrder", named := ["math/bits.divideError", "math/bits.overflowError"], apart := false, narrowed := true }
def AmountOrderUptoSaid : Prop := amountOrderUptoRow.holds Try.pinned (OpenSpec.upto amountOrderSpec)

/-- 'treatylaw01.AmountWhole', WHERE WHAT IT READS IS OF BULK AT MOST 1048576: true; the input reads as it did. -/
def amountWholeUptoRow : OpenClaim := { program := "ytgdlnackpfbmbaa", sum := "31284065a9566a84527bf37b54a8adb3c7d39ff4f7a0afc81ea191a3d9120f56", func := "treaty/treatylaw01.AmountWhole", spec := "amountWhole", named := ["math/bits.divideError", "math/bits.overflowError"], apart := false, narrowed := true }
def AmountWholeUptoSaid : Prop := amountWholeUptoRow.holds Try.pinned (OpenSpec.upto amountWholeSpec)

/-- 'treatylaw01.AmountShare', WHERE WHAT IT READS IS OF BULK AT MOST 1048576: true; the input reads as it did. -/
def amountShareUptoRow : OpenClaim := { program := "ytgdlnackpfbmbaa", sum := "31284065a9566a84527bf37b54a8adb3c7d39ff4f7a0afc81ea191a3d9120f56", func := "treaty/treatylaw01.AmountShare", spec := "amountShare", named := ["math/bits.divideError", "math/bits.overflowError"], apart := false, narrowed := true }
def AmountShareUptoSaid : Prop := amountShareUptoRow.holds Try.pinned (OpenSpec.upto amountShareSpec)

/-- 'treatylaw01.AmountSum', WHERE WHAT IT READS IS OF BULK AT MOST 1048576: true; the input reads as it did. -/
def amountSumUptoRow : OpenClaim := { program := "ytgdlnackpfbmbaa", sum := "31284065a9566a84527bf37b54a8adb3c7d39ff4f7a0afc81ea191a3d9120f56", func := "treaty/treatylaw01.AmountSum", spec := "amountSum", named := ["math/bits.divideError", "math/bits.overflowError"], apart := false, narrowed := true }
def AmountSumUptoSaid : Prop := amountSumUptoRow.holds Try.pinned (OpenSpec.upto amountSumSpec)

end Rows
end Go.Proofs.Ytgdlnackpfbmbaa
