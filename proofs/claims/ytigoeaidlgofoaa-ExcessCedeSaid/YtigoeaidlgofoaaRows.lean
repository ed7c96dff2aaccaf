/-
  No cell of these rows narrows 'for every input' (looked for: loops, veiled, ifaces, maps, wideKeys, modest, calm, conditions, laid).
  DERIVED. THE GIVEN ROWS OF THIS SEAT. 9 by the template 'for every input the law returns true; each argument reads behind the call as it read before'; 0 by the template 'total and deterministic' (their statements: YtigoeaidlgofoaaTotals.lean).
  GIVEN WITH THE SEED: the statements are not yours to turn. If you find one false, say at which input.
  Laid BY PROGRAM, IN A SANDBOX (cutbox-rows.mjs): the forced cells as the released guide's own fill.sh prints them over the translation 10e8010d5f21a017… (all of the seat's roots in one cut). By AI agents, Wed Nov 11 2026. No macro, syntax, notation, axiom, sorry.
-/
import Derived.Test.YtigoeaidlgofoaaChecked
import GoSem.Claim
import GoSem.ClaimJoined
import GoSem.ClaimMapViews
import Derived.JoinedTies
import Derived.KernelRfl
namespace Go.Proofs.Ytigoeaidlgofoaa
/- THE CELL 'sum', in the pinned program and in every row, IS THE sha256 OF THE DUMP (.gsa) THAT YtigoeaidlgofoaaProg.lean LOADS. Nothing in Lean hashes anything: it is a label: what it is worth is what the hold of that sum in a sandbox is worth. -/
noncomputable def Try.pinned : Pinned := { name := "ytigoeaidlgofoaa", sum := "10e8010d5f21a01700aedb7d642e9ac7f8fcb052ca9905fa806dcf627b0871bb", checked := Try.checked }
namespace Rows
def none {H : Type} : Left H := { results := [], args := [] }

/-- 'treatylaw22.ExcessLayer': WHATEVER THE INPUT: true; the input reads as it did. -/
def excessLayerSpec : ChangeSpec := { name := "excessLayer", fn := fun _ => fun
  | [d1, d2, d3, d4] => { results := [.lit (.bool true)], args := [d1, d2, d3, d4] }
  | _ => none }
def excessLayerRow : OpenClaim := { program := "ytigoeaidlgofoaa", sum := "10e8010d5f21a01700aedb7d642e9ac7f8fcb052ca9905fa806dcf627b0871bb", func := "treaty/treatylaw22.ExcessLayer", spec := "excessLayer", named := ["math/bits.divideError", "math/bits.overflowError"], apart := false }
def ExcessLayerSaid : Prop := excessLayerRow.holds Try.pinned (OpenSpec.ofChange excessLayerSpec)

/-- ITS FALSE NEIGHBOUR: 'it returns false'. Refute it at one input. -/
def excessLayerWrong : ChangeSpec := { name := "excessLayer", fn := fun _ => fun
  | [d1, d2, d3, d4] => { results := [.lit (.bool false)], args := [d1, d2, d3, d4] }
  | _ => none }
def ExcessLayerWrongFalsely : Prop := excessLayerRow.holds Try.pinned (OpenSpec.ofChange excessLayerWrong)

/-- 'treatylaw22.ExcessMore': WHATEVER THE INPUT: true; the input reads as it did. -/
def excessMoreSpec : ChangeSpec := { name := "excessMore", fn := fun _ => fun
  | [d] => { results := [.lit (.bool true)], args := [d] }
  | _ => none }
def excessMoreRow : OpenClaim := { program := "ytigoeaidlgofoaa", sum := "10e8010d5f21a01700aedb7d642e9ac7f8fcb052ca9905fa806dcf627b0871bb", func := "treaty/treatylaw22.ExcessMore", spec := "excessMore", named := ["math/bits.divideError", "math/bits.overflowError"], apart := false }
def ExcessMoreSaid : Prop := excessMoreRow.holds Try.pinned (OpenSpec.ofChange excessMoreSpec)

/-- ITS FALSE NEIGHBOUR: 'it returns false'. Refute it at one input. -/
def excessMoreWrong : ChangeSpec := { name := "excessMore", fn := fun _ => fun
  | [d] => { results := [.lit (.bool false)], args := [d] }
  | _ => none }
def ExcessMoreWrongFalsely : Prop := excessMoreRow.holds Try.pinned (OpenSpec.ofChange excessMoreWrong)

/-- 'treatylaw22.ExcessTower': WHATEVER THE INPUT: true; the input reads as it did. -/
def excessTowerSpec : ChangeSpec := { name := "excessTower", fn := fun _ => fun
  | [d1, d2, d3, d4] => { results := [.lit (.bool true)], args := [d1, d2, d3, d4] }
  | _ => none }
def excessTowerRow : OpenClaim := { program := "ytigoeaidlgofoaa", sum := "10e8010d5f21a01700aedb7d642e9ac7f8fcb052ca9905fa806dcf627b0871bb", func := "treaty/treatylaw22.ExcessTower", spec := "excessTower", named := ["math/bits.divideError", "math/bits.overflowError"], apart := false }
def ExcessTowerSaid : Prop := excessTowerRow.holds Try.pinned (OpenSpec.ofChange excessTowerSpec)

/-- ITS FALSE NEIGHBOUR: 'it returns false'. Refute it at one input. -/
def excessTowerWrong : ChangeSpec := { name := "excessTower", fn := fun _ => fun
  | [d1, d2, d3, d4] => { results := [.lit (.bool false)], args := [d1, d2, d3, d4] }
  | _ => none }
def ExcessTowerWrongFalsely : Prop := excessTowerRow.holds Try.pinned (OpenSpec.ofChange excessTowerWrong)

/-- 'treatylaw22.ExcessJoins': WHATEVER THE INPUT: true; the input reads as it did. -/
def excessJoinsSpec : ChangeSpec := { name := "excessJoins", fn := fun _ => fun
  | [d] => { results := [.lit (.bool true)], args := [d] }
  | _ => none }
def excessJoinsRow : OpenClaim := { program := "ytigoeaidlgofoaa", sum := "10e8010d5f21a01700aedb7d642e9ac7f8fcb052ca9905fa806dcf627b0871bb", func := "treaty/treatylaw22.ExcessJoins", spec := "excessJoins", named := ["math/bits.divideError", "math/bits.overflowError"], apart := false }
def ExcessJoinsSaid : Prop := excessJoinsRow.holds Try.pinned (OpenSpec.ofChange excessJoinsSpec)

/-- ITS FALSE NEIGHBOUR: 'it returns false'. Refute it at one input. -/
def excessJoinsWrong : ChangeSpec := { name := "excessJoins", fn := fun _ => fun
  | [d] => { results := [.lit (.bool false)], args := [d] }
  | _ => none }
def ExcessJoinsWrongFalsely : Prop := excessJoinsRow.holds Try.pinned (OpenSpec.ofChange excessJoinsWrong)

/-- 'treatylaw22.ExcessIndex': WHATEVER THE INPUT: true; the input reads as it did. -/
def excessIndexSpec : ChangeSpec := { name := "excessIndex", fn := fun _ => fun
  | [d1, d2, d3, d4, d5] => { results := [.lit (.bool true)], args := [d1, d2, d3, d4, d5] }
  | _ => none }
def excessIndexRow : OpenClaim := { program := "ytigoeaidlgofoaa", sum := "10e8010d5f21a01700aedb7d642e9ac7f8fcb052ca9905fa806dcf627b0871bb", func := "treaty/treatylaw22.ExcessIndex", spec := "excessIndex", named := ["math/bits.divideError", "math/bits.overflowError"], apart := false }
def ExcessIndexSaid : Prop := excessIndexRow.holds Try.pinned (OpenSpec.ofChange excessIndexSpec)

/-- ITS FALSE NEIGHBOUR: 'it returns false'. Refute it at one input. -/
def excessIndexWrong : ChangeSpec := { name := "excessIndex", fn := fun _ => fun
  | [d1, d2, d3, d4, d5] => { results := [.lit (.bool false)], args := [d1, d2, d3, d4, d5] }
  | _ => none }
def ExcessIndexWrongFalsely : Prop := excessIndexRow.holds Try.pinned (OpenSpec.ofChange excessIndexWrong)

/-- 'treatylaw22.ExcessStability': WHATEVER THE INPUT: true; the input reads as it did. -/
def excessStabilitySpec : ChangeSpec := { name := "excessStability", fn := fun _ => fun
  | [d1, d2, d3, d4] => { results := [.lit (.bool true)], args := [d1, d2, d3, d4] }
  | _ => none }
def excessStabilityRow : OpenClaim := { program := "ytigoeaidlgofoaa", sum := "10e8010d5f21a01700aedb7d642e9ac7f8fcb052ca9905fa806dcf627b0871bb", func := "treaty/treatylaw22.ExcessStability", spec := "excessStability", named := ["math/bits.divideError", "math/bits.overflowError"], apart := false }
def ExcessStabilitySaid : Prop := excessStabilityRow.holds Try.pinned (OpenSpec.ofChange excessStabilitySpec)

/-- ITS FALSE NEIGHBOUR: 'it returns false'. Refute it at one input. -/
def excessStabilityWrong : ChangeSpec := { name := "excessStability", fn := fun _ => fun
  | [d1, d2, d3, d4] => { results := [.lit (.bool false)], args := [d1, d2, d3, d4] }
  | _ => none }
def ExcessStabilityWrongFalsely : Prop := excessStabilityRow.holds Try.pinned (OpenSpec.ofChange excessStabilityWrong)

/-- 'treatylaw22.ExcessSteady': WHATEVER THE INPUT: true; the input reads as it did. -/
def excessSteadySpec : ChangeSpec := { name := "excessSteady", fn := fun _ => fun
  | [d1, d2] => { results := [.lit (.bool true)], args := [d1, d2] }
  | _ => none }
def excessSteadyRow : OpenClaim := { program := "ytigoeaidlgofoaa", sum := "10e8010d5f21a01700aedb7d642e9ac7f8fcb052ca9905fa806dcf627b0871bb", func := "treaty/treatylaw22.ExcessSteady", spec := "excessSteady", named := ["math/bits.divideError", "math/bits.overflowError"], apart := false }
def ExcessSteadySaid : Prop := excessSteadyRow.holds Try.pinned (OpenSpec.ofChange excessSteadySpec)

/-- ITS FALSE NEIGHBOUR: 'it returns false'. Refute it at one input. -/
def excessSteadyWrong : ChangeSpec := { name := "excessSteady", fn := fun _ => fun
  | [d1, d2] => { results := [.lit (.bool false)], args := [d1, d2] }
  | _ => none }
def ExcessSteadyWrongFalsely : Prop := excessSteadyRow.holds Try.pinned (OpenSpec.ofChange excessSteadyWrong)

/-- 'treatylaw22.ExcessIndexed': WHATEVER THE INPUT: true; the input reads as it did. -/
def excessIndexedSpec : ChangeSpec := { name := "excessIndexed", fn := fun _ => fun
  | [d1, d2, d3, d4] => { results := [.lit (.bool true)], args := [d1, d2, d3, d4] }
  | _ => none }
def excessIndexedRow : OpenClaim := { program := "ytigoeaidlgofoaa", sum := "10e8010d5f21a01700aedb7d642e9ac7f8fcb052ca9905fa806dcf627b0871bb", func := "treaty/treatylaw22.ExcessIndexed", spec := "excessIndexed", named := ["math/bits.divideError", "math/bits.overflowError"], apart := false }
def ExcessIndexedSaid : Prop := excessIndexedRow.holds Try.pinned (OpenSpec.ofChange excessIndexedSpec)

/-- ITS FALSE NEIGHBOUR: 'it returns false'. Refute it at one input. -/
def excessIndexedWrong : ChangeSpec := { name := "excessIndexed", fn := fun _ => fun
  | [d1, d2, d3, d4] => { results := [.lit (.bool false)], args := [d1, d2, d3, d4] }
  | _ => none }
def ExcessIndexedWrongFalsely : Prop := excessIndexedRow.holds Try.pinned (OpenSpec.ofChange excessIndexedWrong)

/-- 'treatylaw22.ExcessCede': WHATEVER THE INPUT: true; the input reads as it did. -/
def excessCedeSpec : ChangeSpec := { name := "excessCede", fn := fun _ => fun
  | [d1, d2, d3] => { results := [.lit (.bool true)], args := [d1, d2, d3] }
  | _ => none }
def excessCedeRow : OpenClaim := { program := "ytigoeaidlgofoaa", sum := "10e8010d5f21a01700aedb7d642e9ac7f8fcb052ca9905fa806dcf627b0871bb", func := "treaty/treatylaw22.ExcessCede", spec := "excessCede", named := ["math/bits.divideError", "math/bits.overflowError"], apart := false }
def ExcessCedeSaid : Prop := excessCedeRow.holds Try.pinned (OpenSpec.ofChange excessCedeSpec)

/-- ITS FALSE NEIGHBOUR: 'it returns false'. Refute it at one input. -/
def excessCedeWrong : ChangeSpec := { name := "excessCede", fn := fun _ => fun
  | [d1, d2, d3] => { results := [.lit (.bool false)], args := [d1, d2, d3] }
  | _ => none }
def ExcessCedeWrongFalsely : Prop := excessCedeRow.holds Try.pinned (OpenSpec.ofChange excessCedeWrong)

/- THE SECOND FORM. 'bulk': how many values and letters a reading holds, each counted each time it is reached (what is shared counts as often as it is met; a slice's spare places count too). A statement '..UptoSaid' is the law's where the arguments, and the package variables that the reading takes, are together of bulk at most 1048576: NARROWER than '..Said'. Prove '..Said' where nothing that the law and all that it calls make is longer than what came in: it says more and counts as full. Else prove '..UptoSaid'. A law counts once. -/
mutual
def uptoBulk {H : Type} : DataW H → Nat
  | .lit (.string bytes) => bytes.length + 1
  | .lit _ => 1
  | .nil => 1
  | .ptr d => uptoBulk d + 1
  | .slice elems spare => uptoBulkAll elems + uptoBulkAll spare + 1
  | .agg parts => uptoBulkAll parts + 1
  | .iface _ d => uptoBulk d + 1
  | .map entries => uptoBulkEntries entries + 1
  | .held _ => 1
def uptoBulkAll {H : Type} : List (DataW H) → Nat
  | [] => 0
  | d :: r => uptoBulk d + uptoBulkAll r
def uptoBulkEntries {H : Type} : List (Lit × DataW H) → Nat
  | [] => 0
  | x :: r => uptoBulkEntry x + uptoBulkEntries r
def uptoBulkEntry {H : Type} : Lit × DataW H → Nat
  | (.string bytes, d) => bytes.length + uptoBulk d + 1
  | (_, d) => uptoBulk d + 1
 end
def uptoSmall : (H : Type) → List (DataW H) → Bool := fun _ ds => decide (uptoBulkAll ds ≤ 1048576)
def OpenSpec.upto (s : _root_.Go.ChangeSpec) : _root_.Go.OpenSpec := { _root_.Go.OpenSpec.ofChange s with cond := some uptoSmall }

/-- 'treatylaw22.ExcessLayer', WHERE WHAT IT READS IS OF BULK AT MOST 1048576: true; the input reads as it did. -/
def excessLayerUptoRow : OpenClaim := { program := "ytigoeaidlgofoaa", sum := "10e8010d5f21a01700aedb7d642e9ac7f8fcb052ca9905fa806dcf627b0871bb", func := "treaty/treatylaw22.ExcessLayer", spec := "excessLayer", named := ["math/bits.divideError", "math/bits.overflowError"], apart := false, narrowed := true }
def ExcessLayerUptoSaid : Prop := excessLayerUptoRow.holds Try.pinned (OpenSpec.upto excessLayerSpec)

/-- 'treatylaw22.ExcessMore', WHERE WHAT IT READS IS OF BULK AT MOST 1048576: true; the input reads as it did. -/
def excessMoreUptoRow : OpenClaim := { program := "ytigoeaidlgofoaa", sum := "10e8010d5f21a01700aedb7d642e9ac7f8fcb052ca9905fa806dcf627b0871bb", func := "treaty/treatylaw22.ExcessMore", spec := "excessMore", named := ["math/bits.divideError", "math/bits.overflowError"], apart := false, narrowed := true }
def ExcessMoreUptoSaid : Prop := excessMoreUptoRow.holds Try.pinned (OpenSpec.upto excessMoreSpec)

/-- 'treatylaw22.ExcessTower', WHERE WHAT IT READS IS OF BULK AT MOST 1048576: true; the input reads as it did. -/
def excessTowerUptoRow : OpenClaim := { program := "ytigoeaidlgofoaa", sum := "10e8010d5f21a01700aedb7d642e9ac7f8fcb052ca9905fa806dcf627b0871bb", func := "treaty/treatylaw22.ExcessTower", spec := "excessTower", named := ["math/bits.divideError", "math/bits.overflowError"], apart := false, narrowed := true }
def ExcessTowerUptoSaid : Prop := excessTowerUptoRow.holds Try.pinned (OpenSpec.upto excessTowerSpec)

/-- 'treatylaw22.ExcessJoins', WHERE WHAT IT READS IS OF BULK AT MOST 1048576: true; the input reads as it did. -/
def excessJoinsUptoRow : OpenClaim := { program := "ytigoeaidlgofoaa", sum := "10e8010d5f21a01700aedb7d642e9ac7f8fcb052ca9905fa806dcf627b0871bb", func := "treaty/treatylaw22.ExcessJoins", spec := "excessJoins", named := ["math/bits.divideError", "math/bits.overflowError"], apart := false, narrowed := true }
def ExcessJoinsUptoSaid : Prop := excessJoinsUptoRow.holds Try.pinned (OpenSpec.upto excessJoinsSpec)

/-- 'treatylaw22.ExcessIndex', WHERE WHAT IT READS IS OF BULK AT MOST 1048576: true; the input reads as it did. -/
def excessIndexUptoRow : OpenClaim := { program := "ytigoeaidlgofoaa", sum := "10e8010d5f21a01700aedb7d642e9ac7f8fcb052ca9905fa806dcf627b0871bb", func := "treaty/treatylaw22.ExcessIndex", spec := "excessIndex", named := ["math/bits.divideError", "math/bits.overflowError"], apart := false, narrowed := true }
def ExcessIndexUptoSaid : Prop := excessIndexUptoRow.holds Try.pinned (OpenSpec.upto excessIndexSpec)

/-- 'treatylaw22.ExcessStability', WHERE WHAT IT READS IS OF BULK AT MOST 1048576: true; the input reads as it did. -/
def excessStabilityUptoRow : OpenClaim := { program := "ytigoeaidlgofoaa", sum := "10e8010d5f21a01700aedb7d642e9ac7f8fcb052ca9905fa806dcf627b0871bb", func := "treaty/treatylaw22.ExcessStability", spec := "excessStability", named := ["math/bits.divideError", "math/bits.overflowError"], apart := false, narrowed := true }
def ExcessStabilityUptoSaid : Prop := excessStabilityUptoRow.holds Try.pinned (OpenSpec.upto excessStabilitySpec)

/-- 'treatylaw22.ExcessSteady', WHERE WHAT IT READS IS OF BULK AT MOST 1048576: true; the input reads as it did. -/
def excessSteadyUptoRow : OpenClaim := { program := "ytigoeaidlgofoaa", sum := "10e8010d5f21a01700aedb7d642e9ac7f8fcb052ca9905fa806dcf627b0871bb", func := "treaty/treatylaw22.ExcessSteady", spec := "excessSteady", named := ["math/bits.divideError", "math/bits.overflowError"], apart := false, narrowed := true }
def ExcessSteadyUptoSaid : Prop := excessSteadyUptoRow.holds Try.pinned (OpenSpec.upto excessSteadySpec)

/-- 'treatylaw22.ExcessIndexed', WHERE WHAT IT READS IS OF BULK AT MOST 1048576: true; the input reads as it did. -/
def excessIndexedUptoRow : OpenClaim := { program := "ytigoeaidlgofoaa", sum := "10e8010d5f21a01700aedb7d642e9ac7f8fcb052ca9905fa806dcf627b0871bb", func := "treaty/treatylaw22.ExcessIndexed", spec := "excessIndexed", named := ["math/bits.divideError", "math/bits.overflowError"], apart := false, narrowed := true }
def ExcessIndexedUptoSaid : Prop := excessIndexedUptoRow.holds Try.pinned (OpenSpec.upto excessIndexedSpec)

/-- 'treatylaw22.ExcessCede', WHERE WHAT IT READS IS OF BULK AT MOST 1048576: true; the input reads as it did. -/
def excessCedeUptoRow : OpenClaim := { program := "ytigoeaidlgofoaa", sum := "10e8010d5f21a01700aedb7d642e9ac7f8fcb052ca9905fa806dcf627b0871bb", func := "treaty/treatylaw22.ExcessCede", spec := "excessCede", named := ["math/bits.divideError", "math/bits.overflowError"], apart := false, narrowed := true }
def ExcessCedeUptoSaid : Prop := excessCedeUptoRow.holds Try.pinned (OpenSpec.upto excessCedeSpec)

end Rows
end Go.Proofs.Ytigoeaidlgofoaa
