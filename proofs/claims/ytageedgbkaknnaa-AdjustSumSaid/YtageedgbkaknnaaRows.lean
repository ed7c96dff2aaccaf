/-
  No cell of these rows narrows 'for every input' (looked for: loops, veiled, ifaces, maps, wideKeys, modest, calm, conditions, laid).
  DERIVED. THE GIVEN ROWS OF THIS SEAT. 6 by the template 'for every input the law returns true; each argument reads behind the call as it read before'; 0 by the template 'total and deterministic' (their statements: YtageedgbkaknnaaTotals.lean).
  GIVEN WITH THE SEED: the statements are not yours to turn. If you find one false, say at which input.
  Laid BY PROGRAM, IN A SANDBOX (cutbox-rows.mjs): the forced cells as the released guide's own fill.sh prints them over the translation 913953d5cce341c6… (all of the seat's roots in one cut). By AI agents, Wed Nov 11 2026. No macro, syntax, notation, axiom, sorry.
-/
import Derived.Test.YtageedgbkaknnaaChecked
import GoSem.Claim
import GoSem.ClaimJoined
import GoSem.ClaimMapViews
import Derived.JoinedTies
import Derived.KernelRfl
namespace Go.Proofs.Ytageedgbkaknnaa
/- THE CELL 'sum', in the pinned program and in every row, IS THE sha256 OF THE DUMP (.gsa) THAT YtageedgbkaknnaaProg.lean LOADS. Nothing in Lean hashes anything: it is a label: what it is worth is what the hold of that sum in a sandbox is worth. -/
noncomputable def Try.pinned : Pinned := { name := "ytageedgbkaknnaa", sum := "913953d5cce341c6df7f2752a4c5e574705bda8fd48044db4d72476542fe7b2f", checked := Try.checked }
namespace Rows
def none {H : Type} : Left H := { results := [], args := [] }

/-- 'treatylaw16.AdjustItem': WHATEVER THE INPUT: true; the input reads as it did. -/
def adjustItemSpec : ChangeSpec := { name := "adjustItem", fn := fun _ => fun
  | [d1, d2, d3, d4, d5] => { results := [.lit (.bool true)], args := [d1, d2, d3, d4, d5] }
  | _ => none }
def adjustItemRow : OpenClaim := { program := "ytageedgbkaknnaa", sum := "913953d5cce341c6df7f2752a4c5e574705bda8fd48044db4d72476542fe7b2f", func := "treaty/treatylaw16.AdjustItem", spec := "adjustItem", unfollowed := true, recurses := true, named := ["math/bits.divideError", "math/bits.overflowError"], apart := false }
def AdjustItemSaid : Prop := adjustItemRow.holds Try.pinned (OpenSpec.ofChange adjustItemSpec)

/-- ITS FALSE NEIGHBOUR: 'it returns false'. Refute it at one input. -/
def adjustItemWrong : ChangeSpec := { name := "adjustItem", fn := fun _ => fun
  | [d1, d2, d3, d4, d5] => { results := [.lit (.bool false)], args := [d1, d2, d3, d4, d5] }
  | _ => none }
def AdjustItemWrongFalsely : Prop := adjustItemRow.holds Try.pinned (OpenSpec.ofChange adjustItemWrong)

/-- 'treatylaw16.AdjustAdds': WHATEVER THE INPUT: true; the input reads as it did. -/
def adjustAddsSpec : ChangeSpec := { name := "adjustAdds", fn := fun _ => fun
  | [d] => { results := [.lit (.bool true)], args := [d] }
  | _ => none }
def adjustAddsRow : OpenClaim := { program := "ytageedgbkaknnaa", sum := "913953d5cce341c6df7f2752a4c5e574705bda8fd48044db4d72476542fe7b2f", func := "treaty/treatylaw16.AdjustAdds", spec := "adjustAdds", unfollowed := true, recurses := true, named := ["math/bits.divideError", "math/bits.overflowError"], apart := false }
def AdjustAddsSaid : Prop := adjustAddsRow.holds Try.pinned (OpenSpec.ofChange adjustAddsSpec)

/-- ITS FALSE NEIGHBOUR: 'it returns false'. Refute it at one input. -/
def adjustAddsWrong : ChangeSpec := { name := "adjustAdds", fn := fun _ => fun
  | [d] => { results := [.lit (.bool false)], args := [d] }
  | _ => none }
def AdjustAddsWrongFalsely : Prop := adjustAddsRow.holds Try.pinned (OpenSpec.ofChange adjustAddsWrong)

/-- 'treatylaw16.AdjustMore': WHATEVER THE INPUT: true; the input reads as it did. -/
def adjustMoreSpec : ChangeSpec := { name := "adjustMore", fn := fun _ => fun
  | [d1, d2, d3] => { results := [.lit (.bool true)], args := [d1, d2, d3] }
  | _ => none }
def adjustMoreRow : OpenClaim := { program := "ytageedgbkaknnaa", sum := "913953d5cce341c6df7f2752a4c5e574705bda8fd48044db4d72476542fe7b2f", func := "treaty/treatylaw16.AdjustMore", spec := "adjustMore", unfollowed := true, recurses := true, named := ["math/bits.divideError", "math/bits.overflowError"], apart := false }
def AdjustMoreSaid : Prop := adjustMoreRow.holds Try.pinned (OpenSpec.ofChange adjustMoreSpec)

/-- ITS FALSE NEIGHBOUR: 'it returns false'. Refute it at one input. -/
def adjustMoreWrong : ChangeSpec := { name := "adjustMore", fn := fun _ => fun
  | [d1, d2, d3] => { results := [.lit (.bool false)], args := [d1, d2, d3] }
  | _ => none }
def AdjustMoreWrongFalsely : Prop := adjustMoreRow.holds Try.pinned (OpenSpec.ofChange adjustMoreWrong)

/-- 'treatylaw16.AdjustPlain': WHATEVER THE INPUT: true; the input reads as it did. -/
def adjustPlainSpec : ChangeSpec := { name := "adjustPlain", fn := fun _ => fun
  | [d1, d2, d3] => { results := [.lit (.bool true)], args := [d1, d2, d3] }
  | _ => none }
def adjustPlainRow : OpenClaim := { program := "ytageedgbkaknnaa", sum := "913953d5cce341c6df7f2752a4c5e574705bda8fd48044db4d72476542fe7b2f", func := "treaty/treatylaw16.AdjustPlain", spec := "adjustPlain", unfollowed := true, recurses := true, named := ["math/bits.divideError", "math/bits.overflowError"], apart := false }
def AdjustPlainSaid : Prop := adjustPlainRow.holds Try.pinned (OpenSpec.ofChange adjustPlainSpec)

/-- ITS FALSE NEIGHBOUR: 'it returns false'. Refute it at one input. -/
def adjustPlainWrong : ChangeSpec := { name := "adjustPlain", fn := fun _ => fun
  | [d1, d2, d3] => { results := [.lit (.bool false)], args := [d1, d2, d3] }
  | _ => none }
def AdjustPlainWrongFalsely : Prop := adjustPlainRow.holds Try.pinned (OpenSpec.ofChange adjustPlainWrong)

/-- 'treatylaw16.AdjustCheck': WHATEVER THE INPUT: true; the input reads as it did. -/
def adjustCheckSpec : ChangeSpec := { name := "adjustCheck", fn := fun _ => fun
  | [d1, d2, d3, d4, d5] => { results := [.lit (.bool true)], args := [d1, d2, d3, d4, d5] }
  | _ => none }
def adjustCheckRow : OpenClaim := { program := "ytageedgbkaknnaa", sum := "913953d5cce341c6df7f2752a4c5e574705bda8fd48044db4d72476542fe7b2f", func := "treaty/treatylaw16.AdjustCheck", spec := "adjustCheck", unfollowed := true, recurses := true, named := ["math/bits.divideError", "math/bits.overflowError"], apart := false }
def AdjustCheckSaid : Prop := adjustCheckRow.holds Try.pinned (OpenSpec.ofChange adjustCheckSpec)

/-- ITS FALSE NEIGHBOUR: 'it returns false'. Refute it at one input. -/
def adjustCheckWrong : ChangeSpec := { name := "adjustCheck", fn := fun _ => fun
  | [d1, d2, d3, d4, d5] => { results := [.lit (.bool false)], args := [d1, d2, d3, d4, d5] }
  | _ => none }
def AdjustCheckWrongFalsely : Prop := adjustCheckRow.holds Try.pinned (OpenSpec.ofChange adjustCheckWrong)

/-- 'treatylaw16.AdjustSum': WHATEVER THE INPUT: true; the input reads as it did. -/
def adjustSumSpec : ChangeSpec := { name := "adjustSum", fn := fun _ => fun
  | [d1, d2] => { results := [.lit (.bool true)], args := [d1, d2] }
  | _ => none }
def adjustSumRow : OpenClaim := { program := "ytageedgbkaknnaa", sum := "913953d5cce341c6df7f2752a4c5e574705bda8fd48044db4d72476542fe7b2f", func := "treaty/treatylaw16.AdjustSum", spec := "adjustSum", unfollowed := true, recurses := true, named := ["math/bits.divideError", "math/bits.overflowError"], apart := false }
def AdjustSumSaid : Prop := adjustSumRow.holds Try.pinned (OpenSpec.ofChange adjustSumSpec)

/-- ITS FALSE NEIGHBOUR: 'it returns false'. Refute it at one input. -/
def adjustSumWrong : ChangeSpec := { name := "adjustSum", fn := fun _ => fun
  | [d1, d2] => { results := [.lit (.bool false)], args := [d1, d2] }
  | _ => none }
def AdjustSumWrongFalsely : Prop := adjustSumRow.holds Try.pinned (OpenSpec.ofChange adjustSumWrong)

/- THE SECOND FORM. 'bulk': how many values and letters a reading holds, each counted each time it is reached (what is shared counts as often as it is met; a slice's spare places count too). A statement '..UptoSaid' is the law's where the arguments, and the package variables that the reading takes, are together of bulk at most 1048576: NARROWER than '..Said'. Prove '..Said' where nothing that the law and all that it calls make is longer than what came in: it says more and counts as full. Else prove '..UptoSaid'. A law counts once. -/
mutual
def uptoBulk {H : Type} : DataW H → Nat
  | .lit (.string bytes) => bytes.length + 1
  | .lit _ => 1
  | .nil => 1
  | .ptr d => uptoBulk d + 1
  | .slice elems spare => uptoBulkAll elems + uptoBulkAll spare + 1
  | .agg parts => uptoBulkAll parts + 1
  | .iface _ d => uptoBulk d + 1
  | .map entries => uptoBulkEntries entries + 1
  | .held _ => 1
def uptoBulkAll {H : Type} : List (DataW H) → Nat
  | [] => 0
  | d :: r => uptoBulk d + uptoBulkAll r
def uptoBulkEntries {H : Type} : List (Lit × DataW H) → Nat
  | [] => 0
  | x :: r => uptoBulkEntry x + uptoBulkEntries r
def uptoBulkEntry {H : Type} : Lit × DataW H → Nat
  | (.string bytes, d) => bytes.length + uptoBulk d + 1
  | (_, d) => uptoBulk d + 1
 end
def uptoSmall : (H : Type) → List (DataW H) → Bool := fun _ ds => decide (uptoBulkAll ds ≤ 1048576)
def OpenSpec.upto (s : _root_.Go.ChangeSpec) : _root_.Go.OpenSpec := { _root_.Go.OpenSpec.ofChange s with cond := some uptoSmall }

/-- 'treatylaw16.AdjustItem', WHERE WHAT IT READS IS OF BULK AT MOST 1048576: true; the input reads as it did. -/
def adjustItemUptoRow : OpenClaim := { program := "ytageedgbkaknnaa", sum := "913953d5cce341c6df7f2752a4c5e574705bda8fd48044db4d72476542fe7b2f", func := "treaty/treatylaw16.AdjustItem", spec := "adjustItem", unfollowed := true, recurses := true, named := ["math/bits.divideError", "math/bits.overflowError"], apart := false, narrowed := true }
def AdjustItemUptoSaid : Prop := adjustItemUptoRow.holds Try.pinned (OpenSpec.upto adjustItemSpec)

/-- 'treatylaw16.AdjustAdds', WHERE WHAT IT READS IS OF BULK AT MOST 1048576: true; the input reads as it did. -/
def adjustAddsUptoRow : OpenClaim := { program := "ytageedgbkaknnaa", sum := "913953d5cce341c6df7f2752a4c5e574705bda8fd48044db4d72476542fe7b2f", func := "treaty/treatylaw16.AdjustAdds", spec := "adjustAdds", unfollowed := true, recurses := true, named := ["math/bits.divideError", "math/bits.overflowError"], apart := false, narrowed := true }
def AdjustAddsUptoSaid : Prop := adjustAddsUptoRow.holds Try.pinned (OpenSpec.upto adjustAddsSpec)

/-- 'treatylaw16.AdjustMore', WHERE WHAT IT READS IS OF BULK AT MOST 1048576: true; the input reads as it did. -/
def adjustMoreUptoRow : OpenClaim := { program := "ytageedgbkaknnaa", sum := "913953d5cce341c6df7f2752a4c5e574705bda8fd48044db4d72476542fe7b2f", func := "treaty/treatylaw16.AdjustMore", spec := "adjustMore", unfollowed := true, recurses := true, named := ["math/bits.divideError", "math/bits.overflowError"], apart := false, narrowed := true }
def AdjustMoreUptoSaid : Prop := adjustMoreUptoRow.holds Try.pinned (OpenSpec.upto adjustMoreSpec)

/-- 'treatylaw16.AdjustPlain', WHERE WHAT IT READS IS OF BULK AT MOST 1048576: true; the input reads as it did. -/
def adjustPlainUptoRow : OpenClaim := { program := "ytageedgbkaknnaa", sum := "913953d5cce341c6df7f2752a4c5e574705bda8fd48044db4d72476542fe7b2f", func := "treaty/treatylaw16.AdjustPlain", spec := "adjustPlain", unfollowed := true, recurses := true, named := ["math/bits.divideError", "math/bits.overflowError"], apart := false, narrowed := true }
def AdjustPlainUptoSaid : Prop := adjustPlainUptoRow.holds Try.pinned (OpenSpec.upto adjustPlainSpec)

/-- 'treatylaw16.AdjustCheck', WHERE WHAT IT READS IS OF BULK AT MOST 1048576: true; the input reads as it did. -/
def adjustCheckUptoRow : OpenClaim := { program := "ytageedgbkaknnaa", sum := "913953d5cce341c6df7f2752a4c5e574705bda8fd48044db4d72476542fe7b2f", func := "treaty/treatylaw16.AdjustCheck", spec := "adjustCheck", unfollowed := true, recurses := true, named := ["math/bits.divideError", "math/bits.overflowError"], apart := false, narrowed := true }
def AdjustCheckUptoSaid : Prop := adjustCheckUptoRow.holds Try.pinned (OpenSpec.upto adjustCheckSpec)

/-- 'treatylaw16.AdjustSum', WHERE WHAT IT READS IS OF BULK AT MOST 1048576: true; the input reads as it did. -/
def adjustSumUptoRow : OpenClaim := { program := "ytageedgbkaknnaa", sum := "913953d5cce341c6df7f2752a4c5e574705bda8fd48044db4d72476542fe7b2f", func := "treaty/treatylaw16.AdjustSum", spec := "adjustSum", unfollowed := true, recurses := true, named := ["math/bits.divideError", "math/bits.overflowError"], apart := false, narrowed := true }
def AdjustSumUptoSaid : Prop := adjustSumUptoRow.holds Try.pinned (OpenSpec.upto adjustSumSpec)

end Rows
end Go.Proofs.Ytageedgbkaknnaa
