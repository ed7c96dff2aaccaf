/-
  No cell of these rows narrows 'for every input' (looked for: loops, veiled, ifaces, maps, wideKeys, modest, calm, conditions, laid).
  DERIVED. THE GIVEN ROWS OF THIS SEAT. 7 by the template 'for every input the law returns true; each argument reads behind the call as it read before'; 0 by the template 'total and deterministic' (their statements: YtlmgfcgakdanaaaTotals.lean).
  GIVEN WITH THE SEED: the statements are not yours to turn. If you find one false, say at which input.
  Laid BY PROGRAM, IN A SANDBOX (cutbox-rows.mjs): the forced cells as the released guide's own fill.sh prints them over the translation 157ed887942cb437… (all of the seat's roots in one cut). By AI agents, Wed Nov 11 2026. No macro, syntax, notation, axiom, sorry.
-/
import Derived.Test.YtlmgfcgakdanaaaChecked
import GoSem.Claim
import GoSem.ClaimJoined
import GoSem.ClaimMapViews
import Derived.JoinedTies
import Derived.KernelRfl
namespace Go.Proofs.Ytlmgfcgakdanaaa
/- THE CELL 'sum', in the pinned program and in every row, IS THE sha256 OF THE DUMP (.gsa) THAT YtlmgfcgakdanaaaProg.lean LOADS. Nothing in Lean hashes anything: it is a label: what it is worth is what the hold of that sum in a sandbox is worth. -/
noncomputable def Try.pinned : Pinned := { name := "ytlmgfcgakdanaaa", sum := "157ed887942cb437a9c361535d44478562f9c175adb063acb342fd431098fb68", checked := Try.checked }
namespace Rows
def none {H : Type} : Left H := { results := [], args := [] }

/-- 'treatylaw28.ReinstatePrice': WHATEVER THE INPUT: true; the input reads as it did. -/
def reinstatePriceSpec : ChangeSpec := { name := "reinstatePrice", fn := fun _ => fun
  | [d1, d2, d3] => { results := [.lit (.bool true)], args := [d1, d2, d3] }
  | _ => none }
def reinstatePriceRow : OpenClaim := { program := "ytlmgfcgakdanaaa", sum := "157ed887942cb437a9c361535d44478562f9c175adb063acb342fd431098fb68", func := "treaty/treatylaw28.ReinstatePrice", spec := "reinstatePrice", unfollowed := true, recurses := true, named := ["math/bits.divideError", "math/bits.overflowError"], apart := false }
def ReinstatePriceSaid : Prop := reinstatePriceRow.holds Try.pinned (OpenSpec.ofChange reinstatePriceSpec)

/-- ITS FALSE NEIGHBOUR: 'it returns false'. Refute it at one input. -/
def reinstatePriceWrong : ChangeSpec := { name := "reinstatePrice", fn := fun _ => fun
  | [d1, d2, d3] => { results := [.lit (.bool false)], args := [d1, d2, d3] }
  | _ => none }
def ReinstatePriceWrongFalsely : Prop := reinstatePriceRow.holds Try.pinned (OpenSpec.ofChange reinstatePriceWrong)

/-- 'treatylaw28.ReinstateApply': WHATEVER THE INPUT: true; the input reads as it did. -/
def reinstateApplySpec : ChangeSpec := { name := "reinstateApply", fn := fun _ => fun
  | [d1, d2, d3, d4] => { results := [.lit (.bool true)], args := [d1, d2, d3, d4] }
  | _ => none }
def reinstateApplyRow : OpenClaim := { program := "ytlmgfcgakdanaaa", sum := "157ed887942cb437a9c361535d44478562f9c175adb063acb342fd431098fb68", func := "treaty/treatylaw28.ReinstateApply", spec := "reinstateApply", unfollowed := true, recurses := true, named := ["math/bits.divideError", "math/bits.overflowError"], apart := false }
def ReinstateApplySaid : Prop := reinstateApplyRow.holds Try.pinned (OpenSpec.ofChange reinstateApplySpec)

/-- ITS FALSE NEIGHBOUR: 'it returns false'. Refute it at one input. -/
def reinstateApplyWrong : ChangeSpec := { name := "reinstateApply", fn := fun _ => fun
  | [d1, d2, d3, d4] => { results := [.lit (.bool false)], args := [d1, d2, d3, d4] }
  | _ => none }
def ReinstateApplyWrongFalsely : Prop := reinstateApplyRow.holds Try.pinned (OpenSpec.ofChange reinstateApplyWrong)

/-- 'treatylaw28.ReinstateCapacity': WHATEVER THE INPUT: true; the input reads as it did. -/
def reinstateCapacitySpec : ChangeSpec := { name := "reinstateCapacity", fn := fun _ => fun
  | [d1, d2] => { results := [.lit (.bool true)], args := [d1, d2] }
  | _ => none }
def reinstateCapacityRow : OpenClaim := { program := "ytlmgfcgakdanaaa", sum := "157ed887942cb437a9c361535d44478562f9c175adb063acb342fd431098fb68", func := "treaty/treatylaw28.ReinstateCapacity", spec := "reinstateCapacity", unfollowed := true, recurses := true, named := ["math/bits.divideError", "math/bits.overflowError"], apart := false }
def ReinstateCapacitySaid : Prop := reinstateCapacityRow.holds Try.pinned (OpenSpec.ofChange reinstateCapacitySpec)

/-- ITS FALSE NEIGHBOUR: 'it returns false'. Refute it at one input. -/
def reinstateCapacityWrong : ChangeSpec := { name := "reinstateCapacity", fn := fun _ => fun
  | [d1, d2] => { results := [.lit (.bool false)], args := [d1, d2] }
  | _ => none }
def ReinstateCapacityWrongFalsely : Prop := reinstateCapacityRow.holds Try.pinned (OpenSpec.ofChange reinstateCapacityWrong)

/-- 'treatylaw28.ReinstatePremiums': WHATEVER THE INPUT: true; the input reads as it did. -/
def reinstatePremiumsSpec : ChangeSpec := { name := "reinstatePremiums", fn := fun _ => fun
  | [d1, d2] => { results := [.lit (.bool true)], args := [d1, d2] }
  | _ => none }
def reinstatePremiumsRow : OpenClaim := { program := "ytlmgfcgakdanaaa", sum := "157ed887942cb437a9c361535d44478562f9c175adb063acb342fd431098fb68", func := "treaty/treatylaw28.ReinstatePremiums", spec := "reinstatePremiums", unfollowed := true, recurses := true, named := ["math/bits.divideError", "math/bits.overflowError"], apart := false }
def ReinstatePremiumsSaid : Prop := reinstatePremiumsRow.holds Try.pinned (OpenSpec.ofChange reinstatePremiumsSpec)

/-- ITS FALSE NEIGHBOUR: 'it returns false'. Refute it at one input. -/
def reinstatePremiumsWrong : ChangeSpec := { name := "reinstatePremiums", fn := fun _ => fun
  | [d1, d2] => { results := [.lit (.bool false)], args := [d1, d2] }
  | _ => none }
def ReinstatePremiumsWrongFalsely : Prop := reinstatePremiumsRow.holds Try.pinned (OpenSpec.ofChange reinstatePremiumsWrong)

/-- 'treatylaw28.ReinstateOnce': WHATEVER THE INPUT: true; the input reads as it did. -/
def reinstateOnceSpec : ChangeSpec := { name := "reinstateOnce", fn := fun _ => fun
  | [d1, d2] => { results := [.lit (.bool true)], args := [d1, d2] }
  | _ => none }
def reinstateOnceRow : OpenClaim := { program := "ytlmgfcgakdanaaa", sum := "157ed887942cb437a9c361535d44478562f9c175adb063acb342fd431098fb68", func := "treaty/treatylaw28.ReinstateOnce", spec := "reinstateOnce", unfollowed := true, recurses := true, named := ["math/bits.divideError", "math/bits.overflowError"], apart := false }
def ReinstateOnceSaid : Prop := reinstateOnceRow.holds Try.pinned (OpenSpec.ofChange reinstateOnceSpec)

/-- ITS FALSE NEIGHBOUR: 'it returns false'. Refute it at one input. -/
def reinstateOnceWrong : ChangeSpec := { name := "reinstateOnce", fn := fun _ => fun
  | [d1, d2] => { results := [.lit (.bool false)], args := [d1, d2] }
  | _ => none }
def ReinstateOnceWrongFalsely : Prop := reinstateOnceRow.holds Try.pinned (OpenSpec.ofChange reinstateOnceWrong)

/-- 'treatylaw28.ReinstateOrder': WHATEVER THE INPUT: true; the input reads as it did. -/
def reinstateOrderSpec : ChangeSpec := { name := "reinstateOrder", fn := fun _ => fun
  | [d1, d2] => { results := [.lit (.bool true)], args := [d1, d2] }
  | _ => none }
def reinstateOrderRow : OpenClaim := { program := "ytlmgfcgakdanaaa", sum := "157ed887942cb437a9c361535d44478562f9c175adb063acb342fd431098fb68", func := "treaty/treatylaw28.ReinstateOrder", spec := "reinstateOrder", unfollowed := true, recurses := true, named := ["math/bits.divideError", "math/bits.overflowError"], apart := false }
def ReinstateOrderSaid : Prop := reinstateOrderRow.holds Try.pinned (OpenSpec.ofChange reinstateOrderSpec)

/-- ITS FALSE NEIGHBOUR: 'it returns false'. Refute it at one input. -/
def reinstateOrderWrong : ChangeSpec := { name := "reinstateOrder", fn := fun _ => fun
  | [d1, d2] => { results := [.lit (.bool false)], args := [d1, d2] }
  | _ => none }
def ReinstateOrderWrongFalsely : Prop := reinstateOrderRow.holds Try.pinned (OpenSpec.ofChange reinstateOrderWrong)

/-- 'treatylaw28.ReinstateRises': WHATEVER THE INPUT: true; the input reads as it did. -/
def reinstateRisesSpec : ChangeSpec := { name := "reinstateRises", fn := fun _ => fun
  | [d1, d2, d3] => { results := [.lit (.bool true)], args := [d1, d2, d3] }
  | _ => none }
def reinstateRisesRow : OpenClaim := { program := "ytlmgfcgakdanaaa", sum := "157ed887942cb437a9c361535d44478562f9c175adb063acb342fd431098fb68", func := "treaty/treatylaw28.ReinstateRises", spec := "reinstateRises", unfollowed := true, recurses := true, named := ["math/bits.divideError", "math/bits.overflowError"], apart := false }
def ReinstateRisesSaid : Prop := reinstateRisesRow.holds Try.pinned (OpenSpec.ofChange reinstateRisesSpec)

/-- ITS FALSE NEIGHBOUR: 'it returns false'. Refute it at one input. -/
def reinstateRisesWrong : ChangeSpec := { name := "reinstateRises", fn := fun _ => fun
  | [d1, d2, d3] => { results := [.lit (.bool false)], args := [d1, d2, d3] }
  | _ => none }
def ReinstateRisesWrongFalsely : Prop := reinstateRisesRow.holds Try.pinned (OpenSpec.ofChange reinstateRisesWrong)

/- THE SECOND FORM. 'bulk': how many values and letters a reading holds, each counted each time it is reached (what is shared counts as often as it is met; a slice's spare places count too). A statement '..UptoSaid' is the law's where the arguments, and the package variables that the reading takes, are together of bulk at most 1048576: NARROWER than '..Said'. Prove '..Said' where nothing that the law and all that it calls make is longer than what came in: it says more and counts as full. Else prove '..UptoSaid'. A law counts once. -/
mutual
def uptoBulk {H : Type} : DataW H → Nat
  | .lit (.string bytes) => bytes.length + 1
  | .lit _ => 1
  | .nil => 1
  | .ptr d => uptoBulk d + 1
  | .slice elems spare => uptoBulkAll elems + uptoBulkAll spare + 1
  | .agg parts => uptoBulkAll parts + 1
  | .iface _ d => uptoBulk d + 1
  | .map entries => uptoBulkEntries entries + 1
  | .held _ => 1
def uptoBulkAll {H : Type} : List (DataW H) → Nat
  | [] => 0
  | d :: r => uptoBulk d + uptoBulkAll r
def uptoBulkEntries {H : Type} : List (Lit × DataW H) → Nat
  | [] => 0
  | x :: r => uptoBulkEntry x + uptoBulkEntries r
def uptoBulkEntry {H : Type} : Lit × DataW H → Nat
  | (.string bytes, d) => bytes.length + uptoBulk d + 1
  | (_, d) => uptoBulk d + 1
 end
def uptoSmall : (H : Type) → List (DataW H) → Bool := fun _ ds => decide (uptoBulkAll ds ≤ 1048576)
def OpenSpec.upto (s : _root_.Go.ChangeSpec) : _root_.Go.OpenSpec := { _root_.Go.OpenSpec.ofChange s with cond := some uptoSmall }

/-- 'treatylaw28.ReinstatePrice', WHERE WHAT IT READS IS OF BULK AT MOST 1048576: true; the input reads as it did. -/
def reinstatePriceUptoRow : OpenClaim := { program := "ytlmgfcgakdanaaa", sum := "157ed887942cb437a9c361535d44478562f9c175adb063acb342fd431098fb68", func := "treaty/treatylaw28.ReinstatePrice", spec := "reinstatePrice", unfollowed := true, recurses := true, named := ["math/bits.divideError", "math/bits.overflowError"], apart := false, narrowed := true }
def ReinstatePriceUptoSaid : Prop := reinstatePriceUptoRow.holds Try.pinned (OpenSpec.upto reinstatePriceSpec)

/-- 'treatylaw28.ReinstateApply', WHERE WHAT IT READS IS OF BULK AT MOST 1048576: true; the input reads as it did. -/
def reinstateApplyUptoRow : OpenClaim := { program := "ytlmgfcgakdanaaa", sum := "157ed887942cb437a9c361535d44478562f9c175adb063acb342fd431098fb68", func := "treaty/treatylaw28.ReinstateApply", spec := "reinstateApply", unfollowed := true, recurses := true, named := ["math/bits.divideError", "math/bits.overflowError"], apart := false, narrowed := true }
def ReinstateApplyUptoSaid : Prop := reinstateApplyUptoRow.holds Try.pinned (OpenSpec.upto reinstateApplySpec)

/-- 'treatylaw28.ReinstateCapacity', WHERE WHAT IT READS IS OF BULK AT MOST 1048576: true; the input reads as it did. -/
def reinstateCapacityUptoRow : OpenClaim := { program := "ytlmgfcgakdanaaa", sum := "157ed887942cb437a9c361535d44478562f9c175adb063acb342fd431098fb68", func := "treaty/treatylaw28.ReinstateCapacity", spec := "reinstateCapacity", unfollowed := true, recurses := true, named := ["math/bits.divideError", "math/bits.overflowError"], apart := false, narrowed := true }
def ReinstateCapacityUptoSaid : Prop := reinstateCapacityUptoRow.holds Try.pinned (OpenSpec.upto reinstateCapacitySpec)

/-- 'treatylaw28.ReinstatePremiums', WHERE WHAT IT READS IS OF BULK AT MOST 1048576: true; the input reads as it did. -/
def reinstatePremiumsUptoRow : OpenClaim := { program := "ytlmgfcgakdanaaa", sum := "157ed887942cb437a9c361535d44478562f9c175adb063acb342fd431098fb68", func := "treaty/treatylaw28.ReinstatePremiums", spec := "reinstatePremiums", unfollowed := true, recurses := true, named := ["math/bits.divideError", "math/bits.overflowError"], apart := false, narrowed := true }
def ReinstatePremiumsUptoSaid : Prop := reinstatePremiumsUptoRow.holds Try.pinned (OpenSpec.upto reinstatePremiumsSpec)

/-- 'treatylaw28.ReinstateOnce', WHERE WHAT IT READS IS OF BULK AT MOST 1048576: true; the input reads as it did. -/
def reinstateOnceUptoRow : OpenClaim := { program := "ytlmgfcgakdanaaa", sum := "157ed887942cb437a9c361535d44478562f9c175adb063acb342fd431098fb68", func := "treaty/treatylaw28.ReinstateOnce", spec := "reinstateOnce", unfollowed := true, recurses := true, named := ["math/bits.divideError", "math/bits.overflowError"], apart := false, narrowed := true }
def ReinstateOnceUptoSaid : Prop := reinstateOnceUptoRow.holds Try.pinned (OpenSpec.upto reinstateOnceSpec)

/-- 'treatylaw28.ReinstateOrder', WHERE WHAT IT READS IS OF BULK AT MOST 1048576: true; the input reads as it did. -/
def reinstateOrderUptoRow : OpenClaim := { program := "ytlmgfcgakdanaaa", sum := "157ed887942cb437a9c361535d44478562f9c175adb063acb342fd431098fb68", func := "treaty/treatylaw28.ReinstateOrder", spec := "reinstateOrder", unfollowed := true, recurses := true, named := ["math/bits.divideError", "math/bits.overflowError"], apart := false, narrowed := true }
def ReinstateOrderUptoSaid : Prop := reinstateOrderUptoRow.holds Try.pinned (OpenSpec.upto reinstateOrderSpec)

/-- 'treatylaw28.ReinstateRises', WHERE WHAT IT READS IS OF BULK AT MOST 1048576: true; the input reads as it did. -/
def reinstateRisesUptoRow : OpenClaim := { program := "ytlmgfcgakdanaaa", sum := "157ed887942cb437a9c361535d44478562f9c175adb063acb342fd431098fb68", func := "treaty/treatylaw28.ReinstateRises", spec := "reinstateRises", unfollowed := true, recurses := true, named := ["math/bits.divideError", "math/bits.overflowError"], apart := false, narrowed := true }
def ReinstateRisesUptoSaid : Prop := reinstateRisesUptoRow.holds Try.pinned (OpenSpec.upto reinstateRisesSpec)

end Rows
end Go.Proofs.Ytlmgfcgakdanaaa
