/- A byte that came in. -/
import Derived.Test.YtigoeaidlgofoaaArgs
namespace Go.Proofs.Ytigoeaidlgofoaa
open Go.RowKit
theorem rd_u8 {w : World} {v : Value} (h : Rd5 w [v]) : ∃ n : Int, v = .int .u8 n ∧ 0 ≤ n ∧ n ≤ 255 := by
  obtain ⟨n, h1, h2⟩ := h
  injection h1 with h1
  exact ⟨n, h1, wf_u8 h2⟩
end Go.Proofs.Ytigoeaidlgofoaa
