/-
  NARROWER THAN 'FOR EVERY INPUT', by the rows' own cells (each row's printed sentence says how): EndorsePoints: loops, laid · EndorseOutside: laid · EndorseReplaces: laid.
  DERIVED. THE GIVEN ROWS OF THIS SEAT. 3 by the template 'for every input the law returns true; each argument reads behind the call as it read before'; 0 by the template 'total and deterministic' (their statements: YtlbkhhbbkedhkaaGreatDoorTotals.lean).
  GIVEN WITH THE SEED: the statements are not yours to turn. If you find one false, say at which input.
  Laid BY PROGRAM, IN A SANDBOX (cutbox-rows.mjs): the forced cells as the released guide's own fill.sh prints them over the translation 2a0f7c5fce83080b… (all of the seat's roots in one cut). By AI agents, Wed Nov 11 2026. No macro, syntax, notation, axiom, sorry.
-/
import Derived.Test.YtlbkhhbbkedhkaaGreatDoorChecked
import GoSem.Claim
import GoSem.ClaimJoined
import GoSem.ClaimMapViews
import Derived.JoinedTies
import Derived.KernelRfl
namespace Go.Proofs.YtlbkhhbbkedhkaaGreatDoor
/- THE CELL 'sum', in the pinned program and in every row, IS THE sha256 OF THE DUMP (.gsa) THAT YtlbkhhbbkedhkaaGreatDoorProg.lean LOADS. Nothing in Lean hashes anything: it is a label: what it is worth is what the hold of that sum in a sandbox is worth. -/
noncomputable def Tryz.pinned : Pinned := { name := "ytlbkhhbbkedhkaagreatdoor", sum := "2a0f7c5fce83080bbda5b9ba39fcc850189e353de7228c1fc1ffedf9ba0f2028", checked := Tryz.checked }
namespace Rows
def none {H : Type} : Left H := { results := [], args := [] }

/- WHAT THE LISTED PACKAGE-LEVEL VARIABLES READ AS WHEN THE CALL BEGINS. Each datum BY PROGRAM (the guide's laid-datum.mjs) off the statement by which the dump's own 'gosem.cut.vars' lays the variable. In a bare row this is a premise. The card (YtlbkhhbbkedhkaaGreatDoorCards.lean) ties it to the program's text. -/
def laid_treaty_syntax_operators {H : Type} : DataW H := .agg [.agg [.lit (.string []), .lit (.bool false), .lit (.int .i64 0), .lit (.int .i64 0), .lit (.int .i64 0)], .agg [.lit (.string [116, 114, 117, 101]), .lit (.bool false), .lit (.int .i64 0), .lit (.int .i64 0), .lit (.int .i64 0)], .agg [.lit (.string [102, 97, 108, 115, 101]), .lit (.bool false), .lit (.int .i64 0), .lit (.int .i64 0), .lit (.int .i64 0)], .agg [.lit (.string []), .lit (.bool true), .lit (.int .i64 0), .lit (.int .i64 0), .lit (.int .i64 0)], .agg [.lit (.string [105, 110]), .lit (.bool true), .lit (.int .i64 0), .lit (.int .i64 0), .lit (.int .i64 0)], .agg [.lit (.string [102, 114, 111, 109]), .lit (.bool true), .lit (.int .i64 0), .lit (.int .i64 0), .lit (.int .i64 0)], .agg [.lit (.string [110, 111, 116]), .lit (.bool false), .lit (.int .i64 1), .lit (.int .i64 1), .lit (.int .i64 3)], .agg [.lit (.string [97, 110, 100]), .lit (.bool false), .lit (.int .i64 2), .lit (.int .i64 300), .lit (.int .i64 2)], .agg [.lit (.string [111, 114]), .lit (.bool false), .lit (.int .i64 2), .lit (.int .i64 300), .lit (.int .i64 1)]]

/-- 'treatylaw09.EndorsePoints': WHATEVER THE INPUT: true; the input reads as it did. -/
def endorsePointsSpec : ChangeSpec := { name := "endorsePoints", fn := fun _ => fun
  | [d1, d2, d3, d4] => { results := [.lit (.bool true)], args := [d1, d2, d3, d4] }
  | _ => none }
def endorsePointsRow : OpenClaim := { program := "ytlbkhhbbkedhkaagreatdoor", sum := "2a0f7c5fce83080bbda5b9ba39fcc850189e353de7228c1fc1ffedf9ba0f2028", func := "treaty/treatylaw09.EndorsePoints", spec := "endorsePoints", unfollowed := true, recurses := true, named := ["treaty/syntax.operators"], loops := true, apart := false, laid := [("treaty/syntax.operators", laid_treaty_syntax_operators)] }
def EndorsePointsSaid : Prop := endorsePointsRow.holds Tryz.pinned (OpenSpec.ofChange endorsePointsSpec)

/-- ITS FALSE NEIGHBOUR: 'it returns false'. Refute it at one input. -/
def endorsePointsWrong : ChangeSpec := { name := "endorsePoints", fn := fun _ => fun
  | [d1, d2, d3, d4] => { results := [.lit (.bool false)], args := [d1, d2, d3, d4] }
  | _ => none }
def EndorsePointsWrongFalsely : Prop := endorsePointsRow.holds Tryz.pinned (OpenSpec.ofChange endorsePointsWrong)

/-- 'treatylaw09.EndorseOutside': WHATEVER THE INPUT: true; the input reads as it did. -/
def endorseOutsideSpec : ChangeSpec := { name := "endorseOutside", fn := fun _ => fun
  | [d1, d2, d3, d4] => { results := [.lit (.bool true)], args := [d1, d2, d3, d4] }
  | _ => none }
def endorseOutsideRow : OpenClaim := { program := "ytlbkhhbbkedhkaagreatdoor", sum := "2a0f7c5fce83080bbda5b9ba39fcc850189e353de7228c1fc1ffedf9ba0f2028", func := "treaty/treatylaw09.EndorseOutside", spec := "endorseOutside", unfollowed := true, recurses := true, named := ["treaty/syntax.operators"], apart := false, laid := [("treaty/syntax.operators", laid_treaty_syntax_operators)] }
def EndorseOutsideSaid : Prop := endorseOutsideRow.holds Tryz.pinned (OpenSpec.ofChange endorseOutsideSpec)

/-- ITS FALSE NEIGHBOUR: 'it returns false'. Refute it at one input. -/
def endorseOutsideWrong : ChangeSpec := { name := "endorseOutside", fn := fun _ => fun
  | [d1, d2, d3, d4] => { results := [.lit (.bool false)], args := [d1, d2, d3, d4] }
  | _ => none }
def EndorseOutsideWrongFalsely : Prop := endorseOutsideRow.holds Tryz.pinned (OpenSpec.ofChange endorseOutsideWrong)

/-- 'treatylaw09.EndorseReplaces': WHATEVER THE INPUT: true; the input reads as it did. -/
def endorseReplacesSpec : ChangeSpec := { name := "endorseReplaces", fn := fun _ => fun
  | [d1, d2, d3] => { results := [.lit (.bool true)], args := [d1, d2, d3] }
  | _ => none }
def endorseReplacesRow : OpenClaim := { program := "ytlbkhhbbkedhkaagreatdoor", sum := "2a0f7c5fce83080bbda5b9ba39fcc850189e353de7228c1fc1ffedf9ba0f2028", func := "treaty/treatylaw09.EndorseReplaces", spec := "endorseReplaces", unfollowed := true, recurses := true, named := ["treaty/syntax.operators"], apart := false, laid := [("treaty/syntax.operators", laid_treaty_syntax_operators)] }
def EndorseReplacesSaid : Prop := endorseReplacesRow.holds Tryz.pinned (OpenSpec.ofChange endorseReplacesSpec)

/-- ITS FALSE NEIGHBOUR: 'it returns false'. Refute it at one input. -/
def endorseReplacesWrong : ChangeSpec := { name := "endorseReplaces", fn := fun _ => fun
  | [d1, d2, d3] => { results := [.lit (.bool false)], args := [d1, d2, d3] }
  | _ => none }
def EndorseReplacesWrongFalsely : Prop := endorseReplacesRow.holds Tryz.pinned (OpenSpec.ofChange endorseReplacesWrong)

/- THE SECOND FORM. 'bulk': how many values and letters a reading holds, each counted each time it is reached (what is shared counts as often as it is met; a slice's spare places count too). A statement '..UptoSaid' is the law's where the arguments, and the package variables that the reading takes, are together of bulk at most 1048576: NARROWER than '..Said'. Prove '..Said' where nothing that the law and all that it calls make is longer than what came in: it says more and counts as full. Else prove '..UptoSaid'. A law counts once. -/
mutual
def uptoBulk {H : Type} : DataW H → Nat
  | .lit (.string bytes) => bytes.length + 1
  | .lit _ => 1
  | .nil => 1
  | .ptr d => uptoBulk d + 1
  | .slice elems spare => uptoBulkAll elems + uptoBulkAll spare + 1
  | .agg parts => uptoBulkAll parts + 1
  | .iface _ d => uptoBulk d + 1
  | .map entries => uptoBulkEntries entries + 1
  | .held _ => 1
def uptoBulkAll {H : Type} : List (DataW H) → Nat
  | [] => 0
  | d :: r => uptoBulk d + uptoBulkAll r
def uptoBulkEntries {H : Type} : List (Lit × DataW H) → Nat
  | [] => 0
  | x :: r => uptoBulkEntry x + uptoBulkEntries r
def uptoBulkEntry {H : Type} : Lit × DataW H → Nat
  | (.string bytes, d) => bytes.length + uptoBulk d + 1
  | (_, d) => uptoBulk d + 1
 end
def uptoSmall : (H : Type) → List (DataW H) → Bool := fun _ ds => decide (uptoBulkAll ds ≤ 1048576)
def OpenSpec.upto (s : _root_.Go.ChangeSpec) : _root_.Go.OpenSpec := { _root_.Go.OpenSpec.ofChange s with cond := some uptoSmall }

/-- 'treatylaw09.EndorsePoints', WHERE WHAT IT READS IS OF BULK AT MOST 1048576: true; the input reads as it did. -/
def endorsePointsUptoRow : OpenClaim := { program := "ytlbkhhbbkedhkaagreatdoor", sum := "2a0f7c5fce83080bbda5b9ba39fcc850189e353de7228c1fc1ffedf9ba0f2028", func := "treaty/treatylaw09.EndorsePoints", spec := "endorsePoints", unfollowed := true, recurses := true, named := ["treaty/syntax.operators"], loops := true, apart := false, laid := [("treaty/syntax.operators", laid_treaty_syntax_operators)], narrowed := true }
def EndorsePointsUptoSaid : Prop := endorsePointsUptoRow.holds Tryz.pinned (OpenSpec.upto endorsePointsSpec)

/-- 'treatylaw09.EndorseOutside', WHERE WHAT IT READS IS OF BULK AT MOST 1048576: true; the input reads as it did. -/
def endorseOutsideUptoRow : OpenClaim := { program := "ytlbkhhbbkedhkaagreatdoor", sum := "2a0f7c5fce83080bbda5b9ba39fcc850189e353de7228c1fc1ffedf9ba0f2028", func := "treaty/treatylaw09.EndorseOutside", spec := "endorseOutside", unfollowed := true, recurses := true, named := ["treaty/syntax.operators"], apart := false, laid := [("treaty/syntax.operators", laid_treaty_syntax_operators)], narrowed := true }
def EndorseOutsideUptoSaid : Prop := endorseOutsideUptoRow.holds Tryz.pinned (OpenSpec.upto endorseOutsideSpec)

/-- 'treatylaw09.EndorseReplaces', WHERE WHAT IT READS IS OF BULK AT MOST 1048576: true; the input reads as it did. -/
def endorseReplacesUptoRow : OpenClaim := { program := "ytlbkhhbbkedhkaagreatdoor", sum := "2a0f7c5fce83080bbda5b9ba39fcc850189e353de7228c1fc1ffedf9ba0f2028", func := "treaty/treatylaw09.EndorseReplaces", spec := "endorseReplaces", unfollowed := true, recurses := true, named := ["treaty/syntax.operators"], apart := false, laid := [("treaty/syntax.operators", laid_treaty_syntax_operators)], narrowed := true }
def EndorseReplacesUptoSaid : Prop := endorseReplacesUptoRow.holds Tryz.pinned (OpenSpec.upto endorseReplacesSpec)

end Rows
end Go.Proofs.YtlbkhhbbkedhkaaGreatDoor
