/- adjust.Check accepts the adjustment of an item and no other one. -/
import Derived.Test.YtageedgbkaknnaaAdjBlk
namespace Go.Proofs.Ytageedgbkaknnaa
open Go.RowKit

set_option maxHeartbeats 1000000 in
theorem check_err (v l de fr co : Int) (av : Bool) (A : Option Addr) (n c : Nat) (va su gr x0 x1 x2 x3 x4 x5 x6 x7 x8 e : Int) (w : World) (he : Hid (Ad.err ⟨v, l, de, fr, co, av⟩ ⟨va, su, gr⟩ = e)) (h0 : (e == 0) = false) :
    Calls Try.prog 14 #[.agg #[.int .i64 v, .int .i64 l, .int .i64 de, .int .i64 fr, .int .i64 co, .bool av], .agg #[.slice A n c, .int .i64 va, .int .i64 su, .int .i64 gr], .agg #[.int .i64 x0, .int .i64 x1, .int .i64 x2, .int .i64 x3, .int .i64 x4, .int .i64 x5, .int .i64 x6, .int .i64 x7, .int .i64 x8]] w
      fun r w' => r = .returned (.bool false) ∧ Below w.heap.size w w' := by
  obtain ⟨⟨g, u, a, f, d, k, o, s, t⟩, hR⟩ : ∃ R, Ad.res ⟨v, l, de, fr, co, av⟩ ⟨va, su, gr⟩ = R := ⟨_, rfl⟩
  have CA := adjust_c v l de fr co av A n c va su gr g u a f d k o s t e hR he.out
  clear hR he
  go_enter Try.func14, Try.ntmps14
  go_wp2_with fail
  refine (CA.out _).mono ?_
  rintro e w1 ⟨rfl, hb⟩
  have HB : Hid (Below w.heap.size w w1) := Lib.hid ((((((Below.refl w.heap.size w).alloc (Nat.le_refl _) _).alloc (by simp) _).alloc (by simp; omega) _)).trans (hb.mono (by simp; omega)))
  clear hb
  go_wp2_with fail
  go_ret
  exact ⟨rfl, HB.out.alloc HB.out.size _⟩

set_option maxHeartbeats 1000000 in
theorem check_ok (v l de fr co : Int) (av : Bool) (A : Option Addr) (n c : Nat) (va su gr x0 x1 x2 x3 x4 x5 x6 x7 x8 g u a f d k o s t : Int) (w : World) (he : Hid (Ad.err ⟨v, l, de, fr, co, av⟩ ⟨va, su, gr⟩ = 0)) (hR : Hid (Ad.res ⟨v, l, de, fr, co, av⟩ ⟨va, su, gr⟩ = ⟨g, u, a, f, d, k, o, s, t⟩)) :
    Calls Try.prog 14 #[.agg #[.int .i64 v, .int .i64 l, .int .i64 de, .int .i64 fr, .int .i64 co, .bool av], .agg #[.slice A n c, .int .i64 va, .int .i64 su, .int .i64 gr], .agg #[.int .i64 x0, .int .i64 x1, .int .i64 x2, .int .i64 x3, .int .i64 x4, .int .i64 x5, .int .i64 x6, .int .i64 x7, .int .i64 x8]] w
      fun r w' => r = .returned (.bool (decide (x0 = g ∧ x1 = u ∧ x2 = a ∧ x3 = f ∧ x4 = d ∧ x5 = k ∧ x6 = o ∧ x7 = s ∧ x8 = t))) ∧ Below w.heap.size w w' := by
  have CA := adjust_c v l de fr co av A n c va su gr g u a f d k o s t 0 hR.out he.out
  clear hR he
  go_enter Try.func14, Try.ntmps14
  go_wp2_with fail
  refine (CA.out _).mono ?_
  rintro e w1 ⟨rfl, hb⟩
  have HB : Hid (Below w.heap.size w w1) := Lib.hid ((((((Below.refl w.heap.size w).alloc (Nat.le_refl _) _).alloc (by simp) _).alloc (by simp; omega) _)).trans (hb.mono (by simp; omega)))
  have HA := Lib.hid ((Has.new' ((w.alloc _).alloc _) (w.heap.size + 1 + 1) _ _ (by simp)).below hb (by simp))
  clear hb
  obtain ⟨a0, a1, a2⟩ := HA.out.rules
  go_wp2_with fail
  all_goals
    go_ret
    refine ⟨congrArg (fun b => Ending.returned (Value.bool b)) ?_, HB.out.alloc HB.out.size _⟩
    first
      | (rw [eq_comm, decide_eq_true_iff]; omega)
      | (rw [eq_comm, decide_eq_false_iff_not]; omega)

/-- Check with its answer as a variable -/
theorem check_c (v l de fr co : Int) (av : Bool) (A : Option Addr) (n c : Nat) (va su gr x0 x1 x2 x3 x4 x5 x6 x7 x8 g u a f d k o s t e : Int) (he : Ad.err ⟨v, l, de, fr, co, av⟩ ⟨va, su, gr⟩ = e) (hR : Ad.res ⟨v, l, de, fr, co, av⟩ ⟨va, su, gr⟩ = ⟨g, u, a, f, d, k, o, s, t⟩)
    (b : Bool) (hb : b = true ↔ e = 0 ∧ x0 = g ∧ x1 = u ∧ x2 = a ∧ x3 = f ∧ x4 = d ∧ x5 = k ∧ x6 = o ∧ x7 = s ∧ x8 = t) :
    Hid (∀ w : World, Calls Try.prog 14 #[.agg #[.int .i64 v, .int .i64 l, .int .i64 de, .int .i64 fr, .int .i64 co, .bool av], .agg #[.slice A n c, .int .i64 va, .int .i64 su, .int .i64 gr], .agg #[.int .i64 x0, .int .i64 x1, .int .i64 x2, .int .i64 x3, .int .i64 x4, .int .i64 x5, .int .i64 x6, .int .i64 x7, .int .i64 x8]] w
      fun r w' => r = .returned (.bool b) ∧ Below w.heap.size w w') := Lib.hid fun w => by
  by_cases h0 : e = 0
  · subst h0
    have := check_ok v l de fr co av A n c va su gr x0 x1 x2 x3 x4 x5 x6 x7 x8 g u a f d k o s t w (Lib.hid he) (Lib.hid hR)
    rw [show decide (x0 = g ∧ x1 = u ∧ x2 = a ∧ x3 = f ∧ x4 = d ∧ x5 = k ∧ x6 = o ∧ x7 = s ∧ x8 = t) = b by
      rw [Bool.eq_iff_iff, decide_eq_true_iff, hb]; simp] at this
    exact this
  · have hb' : b = false := by
      cases b
      · rfl
      · exact absurd (hb.1 rfl).1 h0
    subst hb'
    exact check_err v l de fr co av A n c va su gr x0 x1 x2 x3 x4 x5 x6 x7 x8 e w (Lib.hid he) (by rw [beq_eq_false_iff_ne]; exact h0)
end Go.Proofs.Ytageedgbkaknnaa
