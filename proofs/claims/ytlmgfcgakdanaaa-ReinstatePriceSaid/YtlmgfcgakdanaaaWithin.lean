/- The contract of treatymade.Within. -/
import Derived.Test.YtlmgfcgakdanaaaProg
import Derived.Test.YtlmgfcgakdanaaaAmMath
import Derived.WalkKit
import Derived.Lib.Hide
namespace Go.Proofs.Ytlmgfcgakdanaaa
open Go.RowKit

def Am.within (x n : Int) : Int := x % n

theorem Am.within_bound (x n : Int) (h : 0 < n) : 0 ≤ Am.within x n ∧ Am.within x n < n :=
  ⟨Int.emod_nonneg _ (by omega), Int.emod_lt_of_pos _ h⟩

theorem Am.tmod_bound (x n : Int) (h : 0 < n) : -n < x.tmod n ∧ x.tmod n < n := by
  have h1 := Int.lt_tmod_of_pos x h
  have h2 := Int.tmod_lt_of_pos x h
  omega

theorem Am.within_eq (x n : Int) (h : 0 < n) : (x.tmod n + n).tmod n = Am.within x n := by
  have hb := Am.tmod_bound x n h
  rw [Int.tmod_eq_emod_of_nonneg (by omega), Int.add_emod_right]
  unfold Am.within
  have e := Int.mul_tdiv_add_tmod x n
  have e2 : x.tmod n = x - n * x.tdiv n := by omega
  rw [e2, Int.sub_mul_emod_self_left]


end Go.Proofs.Ytlmgfcgakdanaaa
