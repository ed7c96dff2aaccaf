/- The sanity check of the laws of layer 16 returns true. -/
import Derived.Test.YtageedgbkaknnaaAdj
import Derived.Test.YtageedgbkaknnaaWithin
import Derived.KernelRfl
namespace Go.Proofs.Ytageedgbkaknnaa
open Go.RowKit

theorem Ad.awake_res : Ad.res ⟨4, 300, 100, 0, 100000, true⟩ ⟨200, 100, 1000⟩ = ⟨1000, 0, 500, 0, 100, 40, 60, 0, 300⟩ ∧ Ad.err ⟨4, 300, 100, 0, 100000, true⟩ ⟨200, 100, 1000⟩ = 0 := by
  exact ⟨by kernel_rfl, by kernel_rfl⟩

set_option maxHeartbeats 1000000 in
theorem awake16_any (w : World) : Calls Try.prog 12 #[] w fun e w' => e = .returned (.bool true) ∧ Below w.heap.size w w' := by
  have c : ∀ W, Calls Try.prog 9 #[.agg #[.int .i64 4, .int .i64 300, .int .i64 100, .int .i64 0, .int .i64 100000, .bool true], .agg #[.slice none 0 0, .int .i64 200, .int .i64 100, .int .i64 1000]] W
      fun r w' => r = .returned (.tuple #[.agg #[.int .i64 1000, .int .i64 0, .int .i64 500, .int .i64 0, .int .i64 100, .int .i64 40, .int .i64 60, .int .i64 0, .int .i64 300], .int .i64 0]) ∧ Below W.heap.size W w' := fun W => by
    have := adjust_any ⟨4, 300, 100, 0, 100000, true⟩ ⟨200, 100, 1000⟩ none 0 0 W
    rw [Ad.awake_res.1, Ad.awake_res.2] at this
    exact this
  have C := Lib.hid c
  clear c
  go_enter Try.func12, Try.ntmps12
  go_wp2_with (go_at_call 9; refine (C.out _).mono ?_; rintro e w1 ⟨rfl, hb⟩)
  go_ret
  exact ⟨rfl, hb.alloc hb.size _⟩
end Go.Proofs.Ytageedgbkaknnaa
