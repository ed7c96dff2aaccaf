/- Clamp of package amount returns the nearest valid amount. -/
import Derived.Test.YtgdlnackpfbmbaaProg
import Derived.Test.YtgdlnackpfbmbaaMade
import Derived.WalkKit
namespace Go.Proofs.Ytgdlnackpfbmbaa
open Go.RowKit
set_option maxHeartbeats 400000 in
theorem clamp_any (a : Int) (w : World) : Calls Try.prog 20 #[.int .i64 a] w fun e w' => e = .returned (.int .i64 (Am.clamp a)) ∧ w = w' := by
  unfold Am.clamp
  by_cases h1 : 17592186044416 < a
  · rw [if_pos h1]
    go_enter Try.func20, Try.ntmps20
    go_wp2
    all_goals (go_ret; refine ⟨?_, rfl⟩; first | rfl | (exact congrArg (fun x => Ending.returned (Value.int IntKind.i64 x)) (by omega)))
  · rw [if_neg h1]
    by_cases h2 : a < -17592186044416
    · rw [if_pos h2]
      go_enter Try.func20, Try.ntmps20
      go_wp2
      all_goals (go_ret; refine ⟨?_, rfl⟩; first | rfl | (exact congrArg (fun x => Ending.returned (Value.int IntKind.i64 x)) (by omega)))
    · rw [if_neg h2]
      go_enter Try.func20, Try.ntmps20
      go_wp2
      all_goals (go_ret; refine ⟨?_, rfl⟩; first | rfl | (exact congrArg (fun x => Ending.returned (Value.int IntKind.i64 x)) (by omega)))
end Go.Proofs.Ytgdlnackpfbmbaa
