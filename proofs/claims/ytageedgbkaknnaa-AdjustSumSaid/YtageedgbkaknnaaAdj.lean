/- adjust.Adjust returns Ad.res, for every decision and item. -/
import Derived.Test.YtageedgbkaknnaaAdjB
namespace Go.Proofs.Ytageedgbkaknnaa
open Go.RowKit

theorem adjust_any (D : Ad.Dec) (X : Ad.Itm) (A : Option Addr) (n c : Nat) (w : World) :
    Calls Try.prog 9 #[D.agg, X.agg (.slice A n c)] w fun r w' => r = .returned (.tuple #[(Ad.res D X).agg, .int .i64 (Ad.err D X)]) ∧ Below w.heap.size w w' := by
  obtain ⟨v, l, de, fr, co, av⟩ := D
  obtain ⟨va, su, gr⟩ := X
  by_cases he : Ad.err ⟨v, l, de, fr, co, av⟩ ⟨va, su, gr⟩ = 0
  · by_cases h4 : v = 4
    · subst h4
      have e : Ad.res ⟨4, l, de, fr, co, av⟩ ⟨va, su, gr⟩ = Ad.paid ⟨4, l, de, fr, co, av⟩ ⟨va, su, gr⟩ := by rw [Ad.res, if_pos he, if_pos rfl]
      rw [e, he]
      exact adjust_ins l de fr co av A n c va su gr w (Lib.hid he)
    · have e : Ad.res ⟨v, l, de, fr, co, av⟩ ⟨va, su, gr⟩ = { Ad.zero with gross := gr, unins := gr } := by rw [Ad.res, if_pos he, if_neg h4]
      rw [e, he]
      exact adjust_un v l de fr co av A n c va su gr w (Lib.hid he) (by rw [bne_iff_ne]; exact h4)
  · have e : Ad.res ⟨v, l, de, fr, co, av⟩ ⟨va, su, gr⟩ = Ad.zero := by rw [Ad.res, if_neg he]
    rw [e]
    exact adjust_err v l de fr co av A n c va su gr _ w (Lib.hid rfl) (by rw [bne_iff_ne]; exact he)
#print axioms adjust_any
end Go.Proofs.Ytageedgbkaknnaa
