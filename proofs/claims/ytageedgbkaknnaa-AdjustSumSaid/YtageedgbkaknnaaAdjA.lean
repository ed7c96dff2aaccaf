/- adjust.Adjust: the ways that do not come to the steps. -/
import Derived.Test.YtageedgbkaknnaaAdjV
namespace Go.Proofs.Ytageedgbkaknnaa
open Go.RowKit

set_option maxHeartbeats 1000000 in
theorem adjust_err (v l de fr co : Int) (av : Bool) (A : Option Addr) (n c : Nat) (va su gr e : Int) (w : World) (he : Hid (Ad.err ⟨v, l, de, fr, co, av⟩ ⟨va, su, gr⟩ = e)) (h0 : (e != 0) = true) :
    Calls Try.prog 9 #[.agg #[.int .i64 v, .int .i64 l, .int .i64 de, .int .i64 fr, .int .i64 co, .bool av], .agg #[.slice A n c, .int .i64 va, .int .i64 su, .int .i64 gr]] w
      fun r w' => r = .returned (.tuple #[Ad.zero.agg, .int .i64 e]) ∧ Below w.heap.size w w' := by
  have cv : ∀ W, Calls Try.prog 17 #[.agg #[.int .i64 v, .int .i64 l, .int .i64 de, .int .i64 fr, .int .i64 co, .bool av], .agg #[.slice A n c, .int .i64 va, .int .i64 su, .int .i64 gr]] W
      fun r w' => r = .returned (.int .i64 e) ∧ Ad.boxes ⟨v, l, de, fr, co, av⟩ ⟨va, su, gr⟩ (.slice A n c) W = w' := fun W => by
    have := validate_any ⟨v, l, de, fr, co, av⟩ ⟨va, su, gr⟩ A n c W
    rw [he.out] at this
    exact this
  have CV := Lib.hid cv
  clear cv he
  go_enter Try.func9, Try.ntmps9
  go_wp2_with (go_at_call 17; refine (CV.out _).mono ?_; rintro r w' ⟨rfl, rfl⟩; unfold Ad.boxes)
  refine bodyPost_ret (v := .tuple #[Ad.zero.agg, .int .i64 e]) (by simp [results, Try.results9, go_sem, Ad.zero, Ad.Adj.agg]) rfl ⟨rfl, by repeat (first | exact Below.refl _ _ | refine Below.alloc ?_ (by simp <;> omega) _ | refine Below.setCell ?_ (by simp <;> omega) _ | refine below_drewN ?_ _)⟩

set_option maxHeartbeats 1000000 in
theorem adjust_un (v l de fr co : Int) (av : Bool) (A : Option Addr) (n c : Nat) (va su gr : Int) (w : World) (he : Hid (Ad.err ⟨v, l, de, fr, co, av⟩ ⟨va, su, gr⟩ = 0)) (h0 : (v != 4) = true) :
    Calls Try.prog 9 #[.agg #[.int .i64 v, .int .i64 l, .int .i64 de, .int .i64 fr, .int .i64 co, .bool av], .agg #[.slice A n c, .int .i64 va, .int .i64 su, .int .i64 gr]] w
      fun r w' => r = .returned (.tuple #[({ Ad.zero with gross := gr, unins := gr } : Ad.Adj).agg, .int .i64 0]) ∧ Below w.heap.size w w' := by
  have cv : ∀ W, Calls Try.prog 17 #[.agg #[.int .i64 v, .int .i64 l, .int .i64 de, .int .i64 fr, .int .i64 co, .bool av], .agg #[.slice A n c, .int .i64 va, .int .i64 su, .int .i64 gr]] W
      fun r w' => r = .returned (.int .i64 0) ∧ Ad.boxes ⟨v, l, de, fr, co, av⟩ ⟨va, su, gr⟩ (.slice A n c) W = w' := fun W => by
    have := validate_any ⟨v, l, de, fr, co, av⟩ ⟨va, su, gr⟩ A n c W
    rw [he.out] at this
    exact this
  have CV := Lib.hid cv
  clear cv he
  go_enter Try.func9, Try.ntmps9
  go_wp2_with (go_at_call 17; refine (CV.out _).mono ?_; rintro r w' ⟨rfl, rfl⟩; unfold Ad.boxes)
  refine bodyPost_ret (v := .tuple #[({ Ad.zero with gross := gr, unins := gr } : Ad.Adj).agg, .int .i64 0]) (by simp [results, Try.results9, go_sem, Ad.zero, Ad.Adj.agg]) rfl ⟨rfl, by repeat (first | exact Below.refl _ _ | refine Below.alloc ?_ (by simp <;> omega) _ | refine Below.setCell ?_ (by simp <;> omega) _ | refine below_drewN ?_ _)⟩

end Go.Proofs.Ytageedgbkaknnaa
