/- The contract of treatymade.Within. -/
import Derived.Test.YtageedgbkaknnaaProg
import Derived.Test.YtageedgbkaknnaaAmMath
import Derived.WalkKit
import Derived.Lib.Hide
namespace Go.Proofs.Ytageedgbkaknnaa
open Go.RowKit

def Am.within (x n : Int) : Int := x % n

theorem Am.within_bound (x n : Int) (h : 0 < n) : 0 ≤ Am.within x n ∧ Am.within x n < n :=
  ⟨Int.emod_nonneg _ (by omega), Int.emod_lt_of_pos _ h⟩

theorem Am.tmod_bound (x n : Int) (h : 0 < n) : -n < x.tmod n ∧ x.tmod n < n := by
  have h1 := Int.lt_tmod_of_pos x h
  have h2 := Int.tmod_lt_of_pos x h
  omega

theorem Am.within_eq (x n : Int) (h : 0 < n) : (x.tmod n + n).tmod n = Am.within x n := by
  have hb := Am.tmod_bound x n h
  rw [Int.tmod_eq_emod_of_nonneg (by omega), Int.add_emod_right]
  unfold Am.within
  have e := Int.mul_tdiv_add_tmod x n
  have e2 : x.tmod n = x - n * x.tdiv n := by omega
  rw [e2, Int.sub_mul_emod_self_left]

set_option maxHeartbeats 400000 in
theorem within_any (x n : Int) (w : World) (h0 : 0 < n) (h1 : n ≤ 70368744177664) :
    Calls Try.prog 13 #[.int .i64 x, .int .i64 n] w fun e w' => e = .returned (.int .i64 (Am.within x n)) ∧ w = w' := by
  have hn : ¬ n = 0 := by omega
  have hn2 : (n == 0) = false := by rw [beq_eq_false_iff_ne]; omega
  obtain ⟨t, ht⟩ : ∃ t, x.tmod n = t := ⟨_, rfl⟩
  have hb := Am.tmod_bound x n h0
  have he := Am.within_eq x n h0
  rw [ht] at hb he
  obtain ⟨hb1, hb2⟩ := hb
  have h3 : 0 ≤ t + n := by omega
  rw [Int.tmod_eq_emod_of_nonneg (by omega)] at he
  have HE := Lib.hid he
  clear he
  go_enter Try.func13, Try.ntmps13
  go_wp2
  go_ret
  refine ⟨?_, rfl⟩
  rw [← HE.out]
  rfl

end Go.Proofs.Ytageedgbkaknnaa
