/- adjust.validate returns the error of a decision and an item. -/
import Derived.Test.YtageedgbkaknnaaAdjC
import Derived.Test.YtageedgbkaknnaaAdjMath
namespace Go.Proofs.Ytageedgbkaknnaa
open Go.RowKit

/-- the world after the two boxes of validate -/
def Ad.boxes (D : Ad.Dec) (X : Ad.Itm) (F : Value) (w : World) : World :=
  (w.alloc (.cells #[.int .i64 D.v, .int .i64 D.l, .int .i64 D.d, .int .i64 D.f, .int .i64 D.c, .bool D.a] 23)).alloc (.cells #[F, .int .i64 X.val, .int .i64 X.sum, .int .i64 X.gross] 26)

set_option maxHeartbeats 2000000 in
theorem validate4 (l de fr co : Int) (av : Bool) (A : Option Addr) (n c : Nat) (va su gr : Int) (w : World) :
    Calls Try.prog 17 #[.agg #[.int .i64 4, .int .i64 l, .int .i64 de, .int .i64 fr, .int .i64 co, .bool av], .agg #[.slice A n c, .int .i64 va, .int .i64 su, .int .i64 gr]] w
      fun e w' => e = .returned (.int .i64 (Ad.err ⟨4, l, de, fr, co, av⟩ ⟨va, su, gr⟩)) ∧ Ad.boxes ⟨4, l, de, fr, co, av⟩ ⟨va, su, gr⟩ (.slice A n c) w = w' := by
  go_enter Try.func17, Try.ntmps17
  go_wp2
  all_goals
    go_ret
    refine ⟨congrArg (fun x => Ending.returned (Value.int IntKind.i64 x)) ?_, by first | rfl | (subst_vars; first | rfl | (cases av <;> first | rfl | simp_all))⟩
    simp only [Ad.err, Ad.itemErr, Ad.money, bne_iff_ne, Bool.not_eq_true', Bool.not_eq_false', decide_eq_true_eq, decide_eq_false_iff_not, ne_eq, bne_eq_false_iff_eq] at *
    (repeat' split) <;> (first | rfl | omega | simp_all | (exfalso; simp_all; omega))

set_option maxHeartbeats 2000000 in
theorem validate123 (v l de fr co : Int) (av : Bool) (A : Option Addr) (n c : Nat) (va su gr : Int) (w : World) (hv : v = 1 ∨ v = 2 ∨ v = 3) :
    Calls Try.prog 17 #[.agg #[.int .i64 v, .int .i64 l, .int .i64 de, .int .i64 fr, .int .i64 co, .bool av], .agg #[.slice A n c, .int .i64 va, .int .i64 su, .int .i64 gr]] w
      fun e w' => e = .returned (.int .i64 (Ad.err ⟨v, l, de, fr, co, av⟩ ⟨va, su, gr⟩)) ∧ Ad.boxes ⟨v, l, de, fr, co, av⟩ ⟨va, su, gr⟩ (.slice A n c) w = w' := by
  rcases hv with rfl | rfl | rfl
  all_goals
    go_enter Try.func17, Try.ntmps17
    go_wp2
    all_goals
      go_ret
      refine ⟨congrArg (fun x => Ending.returned (Value.int IntKind.i64 x)) ?_, by first | rfl | (subst_vars; first | rfl | (cases av <;> first | rfl | simp_all))⟩
      simp only [Ad.err, Ad.itemErr, Ad.money, Bool.not_eq_true', Bool.not_eq_false', decide_eq_true_eq, decide_eq_false_iff_not] at *
      (repeat' split) <;> (first | rfl | omega | simp_all | (exfalso; simp_all; omega))

set_option maxHeartbeats 2000000 in
theorem validateX (v l de fr co : Int) (av : Bool) (A : Option Addr) (n c : Nat) (va su gr : Int) (w : World) (h1 : (v == 1) = false) (h2 : (v == 2) = false) (h3 : (v == 3) = false) (h4 : (v == 4) = false) :
    Calls Try.prog 17 #[.agg #[.int .i64 v, .int .i64 l, .int .i64 de, .int .i64 fr, .int .i64 co, .bool av], .agg #[.slice A n c, .int .i64 va, .int .i64 su, .int .i64 gr]] w
      fun e w' => e = .returned (.int .i64 (Ad.err ⟨v, l, de, fr, co, av⟩ ⟨va, su, gr⟩)) ∧ Ad.boxes ⟨v, l, de, fr, co, av⟩ ⟨va, su, gr⟩ (.slice A n c) w = w' := by
  have e : Ad.err ⟨v, l, de, fr, co, av⟩ ⟨va, su, gr⟩ = 11 := by
    simp only [beq_eq_false_iff_ne, ne_eq] at h1 h2 h3 h4
    simp [Ad.err, h1, h2, h3, h4]
  rw [e]
  go_enter Try.func17, Try.ntmps17
  go_wp2
  go_ret
  exact ⟨rfl, rfl⟩

theorem validate_any (D : Ad.Dec) (X : Ad.Itm) (A : Option Addr) (n c : Nat) (w : World) :
    Calls Try.prog 17 #[D.agg, X.agg (.slice A n c)] w
      fun e w' => e = .returned (.int .i64 (Ad.err D X)) ∧ Ad.boxes D X (.slice A n c) w = w' := by
  obtain ⟨v, l, de, fr, co, av⟩ := D
  obtain ⟨va, su, gr⟩ := X
  by_cases h4 : v = 4
  · subst h4; exact validate4 l de fr co av A n c va su gr w
  by_cases h : v = 1 ∨ v = 2 ∨ v = 3
  · exact validate123 v l de fr co av A n c va su gr w h
  · exact validateX v l de fr co av A n c va su gr w (by rw [beq_eq_false_iff_ne]; omega) (by rw [beq_eq_false_iff_ne]; omega) (by rw [beq_eq_false_iff_ne]; omega) (by rw [beq_eq_false_iff_ne]; omega)
end Go.Proofs.Ytageedgbkaknnaa
