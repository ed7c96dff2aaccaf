/- Share of package amount and Share of the reference both return Am.md with a million as the denominator. -/
import Derived.Test.YtlmgfcgakdanaaaAm
namespace Go.Proofs.Ytlmgfcgakdanaaa
open Go.RowKit
set_option maxHeartbeats 400000 in
theorem share_any (a x m : Int) (w : World) :
    Calls Try.prog 35 #[.int .i64 a, .int .i64 x, .int .i64 m] w fun e w' => e = .returned (.tuple #[.int .i64 (Am.md a x 1000000 m).1, .int .i64 (Am.md a x 1000000 m).2]) ∧ ∃ n, w' = w.drewN n := by
  go_enter Try.func35, Try.ntmps35
  go_wp2_with (go_at_call 36; refine (muldiv_any _ _ _ _ _).mono ?_; rintro e w' ⟨rfl, nq, rfl⟩)
  go_ret2
  exact ⟨rfl, _, rfl⟩
set_option maxHeartbeats 400000 in
theorem rshare_any (a x m : Int) (w : World) :
    Calls Try.prog 25 #[.int .i64 a, .int .i64 x, .int .i64 m] w fun e w' => e = .returned (.tuple #[.int .i64 (Am.md a x 1000000 m).1, .int .i64 (Am.md a x 1000000 m).2]) ∧ ∃ n, w' = w.drewN n := by
  go_enter Try.func25, Try.ntmps25
  go_wp2_with (go_at_call 39; refine (rmuldiv_any _ _ _ _ _).mono ?_; rintro e w' ⟨rfl, nq2, rfl⟩)
  go_ret2
  exact ⟨rfl, _, rfl⟩
end Go.Proofs.Ytlmgfcgakdanaaa
