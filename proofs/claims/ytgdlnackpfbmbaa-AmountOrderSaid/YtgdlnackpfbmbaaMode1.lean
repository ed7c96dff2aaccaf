/- treatylaw01.mode returns one of the five modes. -/
import Derived.Test.YtgdlnackpfbmbaaProg
import Derived.WalkKit
import Derived.Lib.Hide
namespace Go.Proofs.Ytgdlnackpfbmbaa
open Go.RowKit
set_option maxHeartbeats 400000 in
theorem mode1_is (k m : Int) (w : World) (h0 : 0 ≤ k) (h1 : k ≤ 255) (hm : Hid (1 + k % 5 = m)) :
    Calls Try.prog 15 #[.int .u8 k] w fun e w' => e = .returned (.int .i64 m) ∧ w = w' := by
  have h := hm.out
  subst h
  clear hm
  go_enter Try.func15, Try.ntmps15
  go_wp2
  go_ret
  exact ⟨rfl, rfl⟩
end Go.Proofs.Ytgdlnackpfbmbaa
