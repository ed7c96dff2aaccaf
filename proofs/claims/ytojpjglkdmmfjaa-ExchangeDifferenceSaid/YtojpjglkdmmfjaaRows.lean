/-
  No cell of these rows narrows 'for every input' (looked for: loops, veiled, ifaces, maps, wideKeys, modest, calm, conditions, laid).
  DERIVED. THE GIVEN ROWS OF THIS SEAT. 6 by the template 'for every input the law returns true; each argument reads behind the call as it read before'; 0 by the template 'total and deterministic' (their statements: YtojpjglkdmmfjaaTotals.lean).
  GIVEN WITH THE SEED: the statements are not yours to turn. If you find one false, say at which input.
  Laid BY PROGRAM, IN A SANDBOX (cutbox-rows.mjs): the forced cells as the released guide's own fill.sh prints them over the translation 2b7b60f7cb52f651… (all of the seat's roots in one cut). By AI agents, Wed Nov 11 2026. No macro, syntax, notation, axiom, sorry.
-/
import Derived.Test.YtojpjglkdmmfjaaChecked
import GoSem.Claim
import GoSem.ClaimJoined
import GoSem.ClaimMapViews
import Derived.JoinedTies
import Derived.KernelRfl
namespace Go.Proofs.Ytojpjglkdmmfjaa
/- THE CELL 'sum', in the pinned program and in every row, IS THE sha256 OF THE DUMP (.gsa) THAT YtojpjglkdmmfjaaProg.lean LOADS. Nothing in Lean hashes anything: it is a label: what it is worth is what the hold of that sum in a sandbox is worth. -/
noncomputable def Try.pinned : Pinned := { name := "ytojpjglkdmmfjaa", sum := "2b7b60f7cb52f651444598e4d0f427ea973baa9c0ff67b3788898f3904e0d438", checked := Try.checked }
namespace Rows
def none {H : Type} : Left H := { results := [], args := [] }

/-- 'treatylaw04.ExchangeOrder': WHATEVER THE INPUT: true; the input reads as it did. -/
def exchangeOrderSpec : ChangeSpec := { name := "exchangeOrder", fn := fun _ => fun
  | [d1, d2, d3] => { results := [.lit (.bool true)], args := [d1, d2, d3] }
  | _ => none }
def exchangeOrderRow : OpenClaim := { program := "ytojpjglkdmmfjaa", sum := "2b7b60f7cb52f651444598e4d0f427ea973baa9c0ff67b3788898f3904e0d438", func := "treaty/treatylaw04.ExchangeOrder", spec := "exchangeOrder", unfollowed := true, recurses := true, named := ["math/bits.divideError", "math/bits.overflowError"], apart := false }
def ExchangeOrderSaid : Prop := exchangeOrderRow.holds Try.pinned (OpenSpec.ofChange exchangeOrderSpec)

/-- ITS FALSE NEIGHBOUR: 'it returns false'. Refute it at one input. -/
def exchangeOrderWrong : ChangeSpec := { name := "exchangeOrder", fn := fun _ => fun
  | [d1, d2, d3] => { results := [.lit (.bool false)], args := [d1, d2, d3] }
  | _ => none }
def ExchangeOrderWrongFalsely : Prop := exchangeOrderRow.holds Try.pinned (OpenSpec.ofChange exchangeOrderWrong)

/-- 'treatylaw04.ExchangeBase': WHATEVER THE INPUT: true; the input reads as it did. -/
def exchangeBaseSpec : ChangeSpec := { name := "exchangeBase", fn := fun _ => fun
  | [d1, d2] => { results := [.lit (.bool true)], args := [d1, d2] }
  | _ => none }
def exchangeBaseRow : OpenClaim := { program := "ytojpjglkdmmfjaa", sum := "2b7b60f7cb52f651444598e4d0f427ea973baa9c0ff67b3788898f3904e0d438", func := "treaty/treatylaw04.ExchangeBase", spec := "exchangeBase", unfollowed := true, recurses := true, named := ["math/bits.divideError", "math/bits.overflowError"], apart := false }
def ExchangeBaseSaid : Prop := exchangeBaseRow.holds Try.pinned (OpenSpec.ofChange exchangeBaseSpec)

/-- ITS FALSE NEIGHBOUR: 'it returns false'. Refute it at one input. -/
def exchangeBaseWrong : ChangeSpec := { name := "exchangeBase", fn := fun _ => fun
  | [d1, d2] => { results := [.lit (.bool false)], args := [d1, d2] }
  | _ => none }
def ExchangeBaseWrongFalsely : Prop := exchangeBaseRow.holds Try.pinned (OpenSpec.ofChange exchangeBaseWrong)

/-- 'treatylaw04.ExchangeTable': WHATEVER THE INPUT: true; the input reads as it did. -/
def exchangeTableSpec : ChangeSpec := { name := "exchangeTable", fn := fun _ => fun
  | [d1, d2, d3, d4] => { results := [.lit (.bool true)], args := [d1, d2, d3, d4] }
  | _ => none }
def exchangeTableRow : OpenClaim := { program := "ytojpjglkdmmfjaa", sum := "2b7b60f7cb52f651444598e4d0f427ea973baa9c0ff67b3788898f3904e0d438", func := "treaty/treatylaw04.ExchangeTable", spec := "exchangeTable", unfollowed := true, recurses := true, named := ["math/bits.divideError", "math/bits.overflowError"], apart := false }
def ExchangeTableSaid : Prop := exchangeTableRow.holds Try.pinned (OpenSpec.ofChange exchangeTableSpec)

/-- ITS FALSE NEIGHBOUR: 'it returns false'. Refute it at one input. -/
def exchangeTableWrong : ChangeSpec := { name := "exchangeTable", fn := fun _ => fun
  | [d1, d2, d3, d4] => { results := [.lit (.bool false)], args := [d1, d2, d3, d4] }
  | _ => none }
def ExchangeTableWrongFalsely : Prop := exchangeTableRow.holds Try.pinned (OpenSpec.ofChange exchangeTableWrong)

/-- 'treatylaw04.ExchangeBalance': WHATEVER THE INPUT: true; the input reads as it did. -/
def exchangeBalanceSpec : ChangeSpec := { name := "exchangeBalance", fn := fun _ => fun
  | [d1, d2] => { results := [.lit (.bool true)], args := [d1, d2] }
  | _ => none }
def exchangeBalanceRow : OpenClaim := { program := "ytojpjglkdmmfjaa", sum := "2b7b60f7cb52f651444598e4d0f427ea973baa9c0ff67b3788898f3904e0d438", func := "treaty/treatylaw04.ExchangeBalance", spec := "exchangeBalance", unfollowed := true, recurses := true, named := ["math/bits.divideError", "math/bits.overflowError"], apart := false }
def ExchangeBalanceSaid : Prop := exchangeBalanceRow.holds Try.pinned (OpenSpec.ofChange exchangeBalanceSpec)

/-- ITS FALSE NEIGHBOUR: 'it returns false'. Refute it at one input. -/
def exchangeBalanceWrong : ChangeSpec := { name := "exchangeBalance", fn := fun _ => fun
  | [d1, d2] => { results := [.lit (.bool false)], args := [d1, d2] }
  | _ => none }
def ExchangeBalanceWrongFalsely : Prop := exchangeBalanceRow.holds Try.pinned (OpenSpec.ofChange exchangeBalanceWrong)

/-- 'treatylaw04.ExchangeShuffled': WHATEVER THE INPUT: true; the input reads as it did. -/
def exchangeShuffledSpec : ChangeSpec := { name := "exchangeShuffled", fn := fun _ => fun
  | [d1, d2] => { results := [.lit (.bool true)], args := [d1, d2] }
  | _ => none }
def exchangeShuffledRow : OpenClaim := { program := "ytojpjglkdmmfjaa", sum := "2b7b60f7cb52f651444598e4d0f427ea973baa9c0ff67b3788898f3904e0d438", func := "treaty/treatylaw04.ExchangeShuffled", spec := "exchangeShuffled", unfollowed := true, recurses := true, named := ["math/bits.divideError", "math/bits.overflowError"], apart := false }
def ExchangeShuffledSaid : Prop := exchangeShuffledRow.holds Try.pinned (OpenSpec.ofChange exchangeShuffledSpec)

/-- ITS FALSE NEIGHBOUR: 'it returns false'. Refute it at one input. -/
def exchangeShuffledWrong : ChangeSpec := { name := "exchangeShuffled", fn := fun _ => fun
  | [d1, d2] => { results := [.lit (.bool false)], args := [d1, d2] }
  | _ => none }
def ExchangeShuffledWrongFalsely : Prop := exchangeShuffledRow.holds Try.pinned (OpenSpec.ofChange exchangeShuffledWrong)

/-- 'treatylaw04.ExchangeDifference': WHATEVER THE INPUT: true; the input reads as it did. -/
def exchangeDifferenceSpec : ChangeSpec := { name := "exchangeDifference", fn := fun _ => fun
  | [d1, d2, d3] => { results := [.lit (.bool true)], args := [d1, d2, d3] }
  | _ => none }
def exchangeDifferenceRow : OpenClaim := { program := "ytojpjglkdmmfjaa", sum := "2b7b60f7cb52f651444598e4d0f427ea973baa9c0ff67b3788898f3904e0d438", func := "treaty/treatylaw04.ExchangeDifference", spec := "exchangeDifference", unfollowed := true, recurses := true, named := ["math/bits.divideError", "math/bits.overflowError"], apart := false }
def ExchangeDifferenceSaid : Prop := exchangeDifferenceRow.holds Try.pinned (OpenSpec.ofChange exchangeDifferenceSpec)

/-- ITS FALSE NEIGHBOUR: 'it returns false'. Refute it at one input. -/
def exchangeDifferenceWrong : ChangeSpec := { name := "exchangeDifference", fn := fun _ => fun
  | [d1, d2, d3] => { results := [.lit (.bool false)], args := [d1, d2, d3] }
  | _ => none }
def ExchangeDifferenceWrongFalsely : Prop := exchangeDifferenceRow.holds Try.pinned (OpenSpec.ofChange exchangeDifferenceWrong)

/- THE SECOND FORM. 'bulk': how many values and letters a reading holds, each counted each time it is reached (what is shared counts as often as it is met; a slice's spare places count too). A statement '..UptoSaid' is the law's where the arguments, and the package variables that the reading takes, are together of bulk at most 1048576: NARROWER than '..Said'. Prove '..Said' where nothing that the law and all that it calls make is longer than what came in: it says more and counts as full. Else prove '..UptoSaid'. A law counts once. -/
mutual
def uptoBulk {H : Type} : DataW H → Nat
  | .lit (.string bytes) => bytes.length + 1
  | .lit _ => 1
  | .nil => 1
  | .ptr d => uptoBulk d + 1
  | .slice elems spare => uptoBulkAll elems + uptoBulkAll spare + 1
  | .agg parts => uptoBulkAll parts + 1
  | .iface _ d => uptoBulk d + 1
  | .map entries => uptoBulkEntries entries + 1
  | .held _ => 1
def uptoBulkAll {H : Type} : List (DataW H) → Nat
  | [] => 0
  | d :: r => uptoBulk d + uptoBulkAll r
def uptoBulkEntries {H : Type} : List (Lit × DataW H) → Nat
  | [] => 0
  | x :: r => uptoBulkEntry x + uptoBulkEntries r
def uptoBulkEntry {H : Type} : Lit × DataW H → Nat
  | (.string bytes, d) => bytes.length + uptoBulk d + 1
  | (_, d) => uptoBulk d + 1
 end
def uptoSmall : (H : Type) → List (DataW H) → Bool := fun _ ds => decide (uptoBulkAll ds ≤ 1048576)
def OpenSpec.upto (s : _root_.Go.ChangeSpec) : _root_.Go.OpenSpec := { _root_.Go.OpenSpec.ofChange s with cond := some uptoSmall }

/-- 'treatylaw04.ExchangeOrder', WHERE WHAT IT READS IS OF BULK AT MOST 1048576: true; the input reads as it did. -/
def exchangeOrderUptoRow : OpenClaim := { program := "ytojpjglkdmmfjaa", sum := "2b7b60f7cb52f651444598e4d0f427ea973baa9c0ff67b3788898f3904e0d438", func := "treaty/treatylaw04.ExchangeOrder", spec := "exchangeOrder", unfollowed := true, recurses := true, named := ["math/bits.divideError", "math/bits.overflowError"], apart := false, narrowed := true }
def ExchangeOrderUptoSaid : Prop := exchangeOrderUptoRow.holds Try.pinned (OpenSpec.upto exchangeOrderSpec)

/-- 'treatylaw04.ExchangeBase', WHERE WHAT IT READS IS OF BULK AT MOST 1048576: true; the input reads as it did. -/
def exchangeBaseUptoRow : OpenClaim := { program := "ytojpjglkdmmfjaa", sum := "2b7b60f7cb52f651444598e4d0f427ea973baa9c0ff67b3788898f3904e0d438", func := "treaty/treatylaw04.ExchangeBase", spec := "exchangeBase", unfollowed := true, recurses := true, named := ["math/bits.divideError", "math/bits.overflowError"], apart := false, narrowed := true }
def ExchangeBaseUptoSaid : Prop := exchangeBaseUptoRow.holds Try.pinned (OpenSpec.upto exchangeBaseSpec)

/-- 'treatylaw04.ExchangeTable', WHERE WHAT IT READS IS OF BULK AT MOST 1048576: true; the input reads as it did. -/
def exchangeTableUptoRow : OpenClaim := { program := "ytojpjglkdmmfjaa", sum := "2b7b60f7cb52f651444598e4d0f427ea973baa9c0ff67b3788898f3904e0d438", func := "treaty/treatylaw04.ExchangeTable", spec := "exchangeTable", unfollowed := true, recurses := true, named := ["math/bits.divideError", "math/bits.overflowError"], apart := false, narrowed := true }
def ExchangeTableUptoSaid : Prop := exchangeTableUptoRow.holds Try.pinned (OpenSpec.upto exchangeTableSpec)

/-- 'treatylaw04.ExchangeBalance', WHERE WHAT IT READS IS OF BULK AT MOST 1048576: true; the input reads as it did. -/
def exchangeBalanceUptoRow : OpenClaim := { program := "ytojpjglkdmmfjaa", sum := "2b7b60f7cb52f651444598e4d0f427ea973baa9c0ff67b3788898f3904e0d438", func := "treaty/treatylaw04.ExchangeBalance", spec := "exchangeBalance", unfollowed := true, recurses := true, named := ["math/bits.divideError", "math/bits.overflowError"], apart := false, narrowed := true }
def ExchangeBalanceUptoSaid : Prop := exchangeBalanceUptoRow.holds Try.pinned (OpenSpec.upto exchangeBalanceSpec)

/-- 'treatylaw04.ExchangeShuffled', WHERE WHAT IT READS IS OF BULK AT MOST 1048576: true; the input reads as it did. -/
def exchangeShuffledUptoRow : OpenClaim := { program := "ytojpjglkdmmfjaa", sum := "2b7b60f7cb52f651444598e4d0f427ea973baa9c0ff67b3788898f3904e0d438", func := "treaty/treatylaw04.ExchangeShuffled", spec := "exchangeShuffled", unfollowed := true, recurses := true, named := ["math/bits.divideError", "math/bits.overflowError"], apart := false, narrowed := true }
def ExchangeShuffledUptoSaid : Prop := exchangeShuffledUptoRow.holds Try.pinned (OpenSpec.upto exchangeShuffledSpec)

/-- 'treatylaw04.ExchangeDifference', WHERE WHAT IT READS IS OF BULK AT MOST 1048576: true; the input reads as it did. -/
def exchangeDifferenceUptoRow : OpenClaim := { program := "ytojpjglkdmmfjaa", sum := "2b7b60f7cb52f651444598e4d0f427ea973baa9c0ff67b3788898f3904e0d438", func := "treaty/treatylaw04.ExchangeDifference", spec := "exchangeDifference", unfollowed := true, recurses := true, named := ["math/bits.divideError", "math/bits.overflowError"], apart := false, narrowed := true }
def ExchangeDifferenceUptoSaid : Prop := exchangeDifferenceUptoRow.holds Try.pinned (OpenSpec.upto exchangeDifferenceSpec)

end Rows
end Go.Proofs.Ytojpjglkdmmfjaa
