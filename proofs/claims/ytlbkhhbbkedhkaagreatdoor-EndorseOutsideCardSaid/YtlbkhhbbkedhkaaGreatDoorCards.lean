/-
  DERIVED. GIVEN WITH THE SEED: THE CARDS: each row of YtlbkhhbbkedhkaaGreatDoorRows.lean that lists a variable, with what it lists TIED to the program's text (the seventh form; the later family's looks); each row that meets fmt, with fmt's text TOLD by the authors' own Lean function (tested against real Go, not proved from fmt's source: count such statements apart). THE CARD IS WHAT COUNTS. Prove the row's statement (the work); the ties are given (YtlbkhhbbkedhkaaGreatDoorTie.lean); close each card by the builder's one call (the guide's Derived/Test/ToyasCard.lean, 'card_holds'). Laid BY PROGRAM, IN A SANDBOX (cutbox-door.mjs). By AI agents, Wed Nov 11 2026. No macro, syntax, notation, axiom, sorry.
-/
import Derived.Test.YtlbkhhbbkedhkaaGreatDoorRows
import GoSem.ClaimSeven
namespace Go.Proofs.YtlbkhhbbkedhkaaGreatDoor
namespace Rows

/-- THE TIED CARD OF 'treatylaw09.EndorsePoints'. -/
def endorsePointsCard : Claim7 := { stood := { row := endorsePointsRow, standIns := [], harness := (true, "95c76f1712f627399a8c6fef5c025c31d4f32c88ce87d29905735f8224b85ccd"), looks := false }, kinds := [], alts := [], laidByText := true, laidKinds := [.data], laidTests := true, laidLooks := .later }
def EndorsePointsCardSaid : Prop := Claim7.holds Tryz.pinned (.plain (OpenSpec.ofChange endorsePointsSpec)) endorsePointsCard

/-- THE TIED CARD OF 'treatylaw09.EndorseOutside'. -/
def endorseOutsideCard : Claim7 := { stood := { row := endorseOutsideRow, standIns := [], harness := (true, "95c76f1712f627399a8c6fef5c025c31d4f32c88ce87d29905735f8224b85ccd"), looks := false }, kinds := [], alts := [], laidByText := true, laidKinds := [.data], laidTests := true, laidLooks := .later }
def EndorseOutsideCardSaid : Prop := Claim7.holds Tryz.pinned (.plain (OpenSpec.ofChange endorseOutsideSpec)) endorseOutsideCard

/-- THE TIED CARD OF 'treatylaw09.EndorseReplaces'. -/
def endorseReplacesCard : Claim7 := { stood := { row := endorseReplacesRow, standIns := [], harness := (true, "95c76f1712f627399a8c6fef5c025c31d4f32c88ce87d29905735f8224b85ccd"), looks := false }, kinds := [], alts := [], laidByText := true, laidKinds := [.data], laidTests := true, laidLooks := .later }
def EndorseReplacesCardSaid : Prop := Claim7.holds Tryz.pinned (.plain (OpenSpec.ofChange endorseReplacesSpec)) endorseReplacesCard

/-- THE SECOND FORM's CARD OF 'treatylaw09.EndorsePoints'. -/
def endorsePointsUptoCard : Claim7 := { stood := { row := endorsePointsUptoRow, standIns := [], harness := (true, "95c76f1712f627399a8c6fef5c025c31d4f32c88ce87d29905735f8224b85ccd"), looks := false }, kinds := [], alts := [], laidByText := true, laidKinds := [.data], laidTests := true, laidLooks := .later }
def EndorsePointsUptoCardSaid : Prop := Claim7.holds Tryz.pinned (.plain (OpenSpec.upto endorsePointsSpec)) endorsePointsUptoCard

/-- THE SECOND FORM's CARD OF 'treatylaw09.EndorseOutside'. -/
def endorseOutsideUptoCard : Claim7 := { stood := { row := endorseOutsideUptoRow, standIns := [], harness := (true, "95c76f1712f627399a8c6fef5c025c31d4f32c88ce87d29905735f8224b85ccd"), looks := false }, kinds := [], alts := [], laidByText := true, laidKinds := [.data], laidTests := true, laidLooks := .later }
def EndorseOutsideUptoCardSaid : Prop := Claim7.holds Tryz.pinned (.plain (OpenSpec.upto endorseOutsideSpec)) endorseOutsideUptoCard

/-- THE SECOND FORM's CARD OF 'treatylaw09.EndorseReplaces'. -/
def endorseReplacesUptoCard : Claim7 := { stood := { row := endorseReplacesUptoRow, standIns := [], harness := (true, "95c76f1712f627399a8c6fef5c025c31d4f32c88ce87d29905735f8224b85ccd"), looks := false }, kinds := [], alts := [], laidByText := true, laidKinds := [.data], laidTests := true, laidLooks := .later }
def EndorseReplacesUptoCardSaid : Prop := Claim7.holds Tryz.pinned (.plain (OpenSpec.upto endorseReplacesSpec)) endorseReplacesUptoCard
end Rows
end Go.Proofs.YtlbkhhbbkedhkaaGreatDoor
