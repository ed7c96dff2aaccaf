/- The sanity check of the laws of layer 1 returns true. -/
import Derived.Test.YtgdlnackpfbmbaaAm
import Derived.Test.YtgdlnackpfbmbaaMade
import Derived.Deep.RegionWith
namespace Go.Proofs.Ytgdlnackpfbmbaa
open Go.RowKit

theorem Am.md_awake : Am.md (-5) 1 2 4 = (-3, 0) := by decide +kernel
theorem Am.valid_awake : Am.validB 17592186044416 = true ∧ Am.validB 17592186044417 = false := by decide +kernel

set_option maxHeartbeats 400000 in
theorem awake1_any (w : World) : Calls Try.prog 14 #[] w fun e w' => e = .returned (.bool true) ∧ ∃ n, w' = w.drewN n := by
  have c := muldiv_any (-5) 1 2 4 w
  rw [Am.md_awake] at c
  have C := Lib.hid c
  clear c
  obtain ⟨h1, h2⟩ := Am.valid_awake
  go_enter Try.func14, Try.ntmps14
  go_wp2_with (first | (go_at_call 12; refine C.out.mono ?_; rintro e w' ⟨rfl, nq, rfl⟩) | (go_at_call 21; refine (valid_any _ _).mono ?_; rintro e w' ⟨rfl, rfl⟩))
  go_ret
  exact ⟨rfl, _, rfl⟩
end Go.Proofs.Ytgdlnackpfbmbaa
