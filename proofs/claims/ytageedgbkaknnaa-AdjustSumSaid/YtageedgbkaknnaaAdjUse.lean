/- Adjust of the program and of the reference, with the fields of the adjustment as variables; the plain law of sums. -/
import Derived.Test.YtageedgbkaknnaaMade16
import Derived.Test.YtageedgbkaknnaaRAdj2
import Derived.Test.YtageedgbkaknnaaAwake16
import Derived.Test.YtageedgbkaknnaaArgs
namespace Go.Proofs.Ytageedgbkaknnaa
open Go.RowKit

def AdjPost (g u a f d k o s t e : Int) (W : World) (r : Ending) (w' : World) : Prop :=
  r = .returned (.tuple #[.agg #[.int .i64 g, .int .i64 u, .int .i64 a, .int .i64 f, .int .i64 d, .int .i64 k, .int .i64 o, .int .i64 s, .int .i64 t], .int .i64 e]) ∧ Below W.heap.size W w'

theorem adjust_c (v l de fr co : Int) (av : Bool) (A : Option Addr) (n c : Nat) (va su gr g u a f d k o s t e : Int) (hR : Ad.res ⟨v, l, de, fr, co, av⟩ ⟨va, su, gr⟩ = ⟨g, u, a, f, d, k, o, s, t⟩) (he : Ad.err ⟨v, l, de, fr, co, av⟩ ⟨va, su, gr⟩ = e) :
    Hid (∀ W : World, Calls Try.prog 9 #[.agg #[.int .i64 v, .int .i64 l, .int .i64 de, .int .i64 fr, .int .i64 co, .bool av], .agg #[.slice A n c, .int .i64 va, .int .i64 su, .int .i64 gr]] W (AdjPost g u a f d k o s t e W)) := Lib.hid fun W => by
  have := adjust_any ⟨v, l, de, fr, co, av⟩ ⟨va, su, gr⟩ A n c W
  rw [hR, he] at this
  exact this

theorem radjust_c (v l de fr co : Int) (av : Bool) (A : Option Addr) (n c : Nat) (va su gr g u a f d k o s t e : Int) (hR : Ad.res ⟨v, l, de, fr, co, av⟩ ⟨va, su, gr⟩ = ⟨g, u, a, f, d, k, o, s, t⟩) (he : Ad.err ⟨v, l, de, fr, co, av⟩ ⟨va, su, gr⟩ = e) :
    Hid (∀ W : World, Calls Try.prog 10 #[.agg #[.int .i64 v, .int .i64 l, .int .i64 de, .int .i64 fr, .int .i64 co, .bool av], .agg #[.slice A n c, .int .i64 va, .int .i64 su, .int .i64 gr]] W (AdjPost g u a f d k o s t e W)) := Lib.hid fun W => by
  have := radjust_any ⟨v, l, de, fr, co, av⟩ ⟨va, su, gr⟩ A n c W
  rw [hR, he] at this
  exact this

theorem Ad.err_ok {D : Ad.Dec} {X : Ad.Itm} (h1 : Ad.derr D = 0) (h2 : Ad.itemErr X = 0) : Ad.err D X = 0 := by rw [Ad.err_of, if_pos h1, h2]

structure Ad.Adds (v l gr g u a f d k o s t : Int) : Prop where
  gross : g = gr
  u0 : 0 ≤ u
  a0 : 0 ≤ a
  f0 : 0 ≤ f
  d0 : 0 ≤ d
  k0 : 0 ≤ k
  o0 : 0 ≤ o
  s0 : 0 ≤ s
  t0 : 0 ≤ t
  sum : u + a + f + d + k + o + s + t = gr
  small : gr ≤ 1073741824
  ins : v = 4 ∨ t = 0
  lim : l < 0 ∨ t ≤ l

theorem Ad.adds {v l de fr co : Int} {av : Bool} {va su gr g u a f d k o s t : Int} (h1 : Ad.derr ⟨v, l, de, fr, co, av⟩ = 0) (h2 : Ad.itemErr ⟨va, su, gr⟩ = 0)
    (hR : Ad.res ⟨v, l, de, fr, co, av⟩ ⟨va, su, gr⟩ = ⟨g, u, a, f, d, k, o, s, t⟩) : Ad.Adds v l gr g u a f d k o s t := by
  have he := Ad.err_ok h1 h2
  rw [Ad.res, if_pos he] at hR
  by_cases hv : v = 4
  · rw [if_pos hv] at hR
    have G := Ad.good _ _ he hv
    simp only [Ad.paid, Ad.Adj.mk.injEq] at hR
    obtain ⟨rfl, rfl, rfl, rfl, rfl, rfl, rfl, rfl, rfl⟩ := hR
    obtain ⟨g1, g2, g3, g4, g5, g6, g7, g8, g9, g10, g11, _, _, g12⟩ := G
    simp only at g1 g2 g12
    have e1 : Ad.r1 ⟨v, l, de, fr, co, av⟩ ⟨va, su, gr⟩ = gr - Ad.aver ⟨v, l, de, fr, co, av⟩ ⟨va, su, gr⟩ := rfl
    have e2 : Ad.r2 ⟨v, l, de, fr, co, av⟩ ⟨va, su, gr⟩ = Ad.r1 ⟨v, l, de, fr, co, av⟩ ⟨va, su, gr⟩ - Ad.fran ⟨v, l, de, fr, co, av⟩ ⟨va, su, gr⟩ := rfl
    have e3 : Ad.r3 ⟨v, l, de, fr, co, av⟩ ⟨va, su, gr⟩ = Ad.r2 ⟨v, l, de, fr, co, av⟩ ⟨va, su, gr⟩ - Ad.ded ⟨v, l, de, fr, co, av⟩ ⟨va, su, gr⟩ := rfl
    have e4 : Ad.r4 ⟨v, l, de, fr, co, av⟩ ⟨va, su, gr⟩ = Ad.r3 ⟨v, l, de, fr, co, av⟩ ⟨va, su, gr⟩ - Ad.coin ⟨v, l, de, fr, co, av⟩ ⟨va, su, gr⟩ := rfl
    have e5 : Ad.net ⟨v, l, de, fr, co, av⟩ ⟨va, su, gr⟩ = Ad.r4 ⟨v, l, de, fr, co, av⟩ ⟨va, su, gr⟩ - Ad.over ⟨v, l, de, fr, co, av⟩ ⟨va, su, gr⟩ := rfl
    have e6 : Ad.over ⟨v, l, de, fr, co, av⟩ ⟨va, su, gr⟩ = if l = -1 then 0 else max 0 (Ad.r4 ⟨v, l, de, fr, co, av⟩ ⟨va, su, gr⟩ - l) := rfl
    refine ⟨rfl, by omega, by omega, by omega, by omega, by omega, by omega, by omega, by omega, by omega, by omega, .inl hv, ?_⟩
    by_cases hl : l = -1
    · left; omega
    · right; rw [if_neg hl] at e6; omega
  · rw [if_neg hv] at hR
    simp only [Ad.zero, Ad.Adj.mk.injEq] at hR
    obtain ⟨rfl, rfl, rfl, rfl, rfl, rfl, rfl, rfl, rfl⟩ := hR
    have hg : 0 ≤ gr ∧ gr ≤ 1073741824 := by simpa [Ad.moneyB] using (Ad.item_ok h2).2.2
    have hl : l = 0 := by
      rw [Ad.derr, if_neg hv] at h1
      split at h1
      · split at h1
        · rename_i hh; exact hh.1
        · omega
      · omega
    exact ⟨rfl, hg.1, by omega, by omega, by omega, by omega, by omega, by omega, by omega, by omega, hg.2, .inr rfl, .inr (by omega)⟩
end Go.Proofs.Ytageedgbkaknnaa
