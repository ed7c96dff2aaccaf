/- The reference's decisionError and Adjust. -/
import Derived.Test.YtageedgbkaknnaaAdjV
import Derived.Test.YtageedgbkaknnaaKit
import Derived.Outline
namespace Go.Proofs.Ytageedgbkaknnaa
open Go.RowKit

/-- the error of a decision alone -/
def Ad.derr (D : Ad.Dec) : Int :=
  if D.v = 4 then (if (D.l = -1 ∨ Ad.money D.l) ∧ Ad.money D.d ∧ Ad.money D.f ∧ 0 ≤ D.c ∧ D.c ≤ 1000000 then 0 else 1)
  else if D.v = 1 ∨ D.v = 2 ∨ D.v = 3 then (if D.l = 0 ∧ D.d = 0 ∧ D.f = 0 ∧ D.c = 0 ∧ D.a = false then 0 else 20)
  else 11

theorem Ad.err_of (D : Ad.Dec) (X : Ad.Itm) : Ad.err D X = if Ad.derr D = 0 then Ad.itemErr X else Ad.derr D := by
  unfold Ad.err Ad.derr
  (repeat' split) <;> first | rfl | (exfalso; omega) | (exfalso; simp_all)

def Ad.box (D : Ad.Dec) (w : World) : World :=
  w.alloc (.cells #[.int .i64 D.v, .int .i64 D.l, .int .i64 D.d, .int .i64 D.f, .int .i64 D.c, .bool D.a] 23)

def Ad.moneyB (n : Int) : Bool := decide (0 ≤ n ∧ n ≤ 1073741824)

set_option maxHeartbeats 400000 in
theorem rmoney_any (n : Int) (w : World) : Calls Try.prog 27 #[.int .i64 n] w fun e w' => e = .returned (.bool (Ad.moneyB n)) ∧ w = w' := by
  unfold Ad.moneyB
  by_cases h0 : 0 ≤ n
  · by_cases h1 : n ≤ 1073741824
    · go_enter Try.func27, Try.ntmps27
      go_wp2
      go_ret
      exact ⟨by simp [h0, h1], rfl⟩
    · go_enter Try.func27, Try.ntmps27
      go_wp2
      go_ret
      exact ⟨by simp [h1], rfl⟩
  · go_enter Try.func27, Try.ntmps27
    go_wp2
    go_ret
    exact ⟨by simp; omega, rfl⟩

set_option maxHeartbeats 2000000 in
theorem decErr4 (l de fr co : Int) (av : Bool) (w : World) :
    Calls Try.prog 26 #[.agg #[.int .i64 4, .int .i64 l, .int .i64 de, .int .i64 fr, .int .i64 co, .bool av]] w
      fun e w' => e = .returned (.int .i64 (Ad.derr ⟨4, l, de, fr, co, av⟩)) ∧ Ad.box ⟨4, l, de, fr, co, av⟩ w = w' := by
  go_enter Try.func26, Try.ntmps26
  go_wp2
  all_goals
    go_ret
    refine ⟨congrArg (fun x => Ending.returned (Value.int IntKind.i64 x)) ?_, by first | rfl | (subst_vars; first | rfl | (cases av <;> first | rfl | simp_all))⟩
    simp only [Ad.derr, Ad.money] at *
    (repeat' split) <;> (first | rfl | omega | simp_all | (exfalso; simp_all; omega))

set_option maxHeartbeats 2000000 in
theorem decErr123 (v l de fr co : Int) (av : Bool) (w : World) (hv : v = 1 ∨ v = 2 ∨ v = 3) :
    Calls Try.prog 26 #[.agg #[.int .i64 v, .int .i64 l, .int .i64 de, .int .i64 fr, .int .i64 co, .bool av]] w
      fun e w' => e = .returned (.int .i64 (Ad.derr ⟨v, l, de, fr, co, av⟩)) ∧ Ad.box ⟨v, l, de, fr, co, av⟩ w = w' := by
  rcases hv with rfl | rfl | rfl
  all_goals
    go_enter Try.func26, Try.ntmps26
    go_wp2
    all_goals
      go_ret
      refine ⟨congrArg (fun x => Ending.returned (Value.int IntKind.i64 x)) ?_, by first | rfl | (subst_vars; first | rfl | (cases av <;> first | rfl | simp_all))⟩
      simp only [Ad.derr, Ad.money] at *
      (repeat' split) <;> (first | rfl | omega | simp_all | (exfalso; simp_all; omega))

set_option maxHeartbeats 2000000 in
theorem decErrX (v l de fr co : Int) (av : Bool) (w : World) (h : v < 1 ∨ 4 < v) :
    Calls Try.prog 26 #[.agg #[.int .i64 v, .int .i64 l, .int .i64 de, .int .i64 fr, .int .i64 co, .bool av]] w
      fun e w' => e = .returned (.int .i64 (Ad.derr ⟨v, l, de, fr, co, av⟩)) ∧ Ad.box ⟨v, l, de, fr, co, av⟩ w = w' := by
  have e : Ad.derr ⟨v, l, de, fr, co, av⟩ = 11 := by
    unfold Ad.derr
    rw [if_neg (by simp only; omega), if_neg (by simp only; omega)]
  rw [e]
  rcases h with h | h
  · go_enter Try.func26, Try.ntmps26
    go_wp2
    go_ret
    exact ⟨rfl, rfl⟩
  · have h' : 1 ≤ v := by omega
    go_enter Try.func26, Try.ntmps26
    go_wp2
    go_ret
    exact ⟨rfl, rfl⟩

theorem decErr_any (D : Ad.Dec) (w : World) :
    Calls Try.prog 26 #[D.agg] w
      fun e w' => e = .returned (.int .i64 (Ad.derr D)) ∧ Ad.box D w = w' := by
  obtain ⟨v, l, de, fr, co, av⟩ := D
  by_cases h4 : v = 4
  · subst h4; exact decErr4 l de fr co av w
  by_cases h : v = 1 ∨ v = 2 ∨ v = 3
  · exact decErr123 v l de fr co av w h
  · exact decErrX v l de fr co av w (by omega)
end Go.Proofs.Ytageedgbkaknnaa
