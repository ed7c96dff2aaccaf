/- Blocks that hold a decision, an item, an adjustment. -/
import Derived.Test.YtageedgbkaknnaaAdjUse
namespace Go.Proofs.Ytageedgbkaknnaa
open Go.RowKit

theorem Has.put9 {w : World} {b : Nat} {y0 y1 y2 y3 y4 y5 y6 y7 y8 : Value} {t : TypeId} (h : Has w b #[y0, y1, y2, y3, y4, y5, y6, y7, y8] t) (x0 x1 x2 x3 x4 x5 x6 x7 x8 : Value) :
    Has (((((((((w.setCell ⟨b, 0, none⟩ x0).setCell ⟨b, 1, none⟩ x1).setCell ⟨b, 2, none⟩ x2).setCell ⟨b, 3, none⟩ x3).setCell ⟨b, 4, none⟩ x4).setCell ⟨b, 5, none⟩ x5).setCell ⟨b, 6, none⟩ x6).setCell ⟨b, 7, none⟩ x7).setCell ⟨b, 8, none⟩ x8) b #[x0, x1, x2, x3, x4, x5, x6, x7, x8] t ∧
    Keeps b w (((((((((w.setCell ⟨b, 0, none⟩ x0).setCell ⟨b, 1, none⟩ x1).setCell ⟨b, 2, none⟩ x2).setCell ⟨b, 3, none⟩ x3).setCell ⟨b, 4, none⟩ x4).setCell ⟨b, 5, none⟩ x5).setCell ⟨b, 6, none⟩ x6).setCell ⟨b, 7, none⟩ x7).setCell ⟨b, 8, none⟩ x8) :=
  ⟨by
     have h1 := ((((((((h.put 0 x0).put 1 x1).put 2 x2).put 3 x3).put 4 x4).put 5 x5).put 6 x6).put 7 x7).put 8 x8
     simp only [List.setIfInBounds_toArray, List.set_cons_zero, List.set_cons_succ] at h1
     exact h1,
   ((((((((((Keeps.refl b w).put 0 x0).put 1 x1).put 2 x2).put 3 x3).put 4 x4).put 5 x5).put 6 x6).put 7 x7).put 8 x8)⟩

def IsDecB (w : World) (b : Nat) : Prop := ∃ (v l de fr co : Int) (av : Bool), Has w b #[.int .i64 v, .int .i64 l, .int .i64 de, .int .i64 fr, .int .i64 co, .bool av] 23
def IsItmB (w : World) (b : Nat) : Prop := ∃ (A : Option Addr) (n c : Nat) (va su gr : Int), Has w b #[.slice A n c, .int .i64 va, .int .i64 su, .int .i64 gr] 26
def IsAdjB (w : World) (b : Nat) : Prop := ∃ (x0 x1 x2 x3 x4 x5 x6 x7 x8 : Value), Has w b #[x0, x1, x2, x3, x4, x5, x6, x7, x8] 28

theorem IsDecB.put {w : World} {b : Nat} (h : IsDecB w b) (i : Nat) (hi : i < 5) (n : Int) : IsDecB (w.setCell ⟨b, i, none⟩ (.int .i64 n)) b := by
  obtain ⟨v, l, de, fr, co, av, h⟩ := h
  have h' := h.put i (.int .i64 n)
  match i, hi with
  | 0, _ => exact ⟨n, l, de, fr, co, av, h'⟩
  | 1, _ => exact ⟨v, n, de, fr, co, av, h'⟩
  | 2, _ => exact ⟨v, l, n, fr, co, av, h'⟩
  | 3, _ => exact ⟨v, l, de, n, co, av, h'⟩
  | 4, _ => exact ⟨v, l, de, fr, n, av, h'⟩
theorem IsDecB.put5 {w : World} {b : Nat} (h : IsDecB w b) (n : Bool) : IsDecB (w.setCell ⟨b, 5, none⟩ (.bool n)) b := by
  obtain ⟨v, l, de, fr, co, av, h⟩ := h
  exact ⟨v, l, de, fr, co, n, h.put 5 (.bool n)⟩
theorem IsItmB.put {w : World} {b : Nat} (h : IsItmB w b) (i : Nat) (hi : 0 < i) (hi' : i < 4) (n : Int) : IsItmB (w.setCell ⟨b, i, none⟩ (.int .i64 n)) b := by
  obtain ⟨A, m, c, va, su, gr, h⟩ := h
  have h' := h.put i (.int .i64 n)
  match i, hi, hi' with
  | 1, _, _ => exact ⟨A, m, c, n, su, gr, h'⟩
  | 2, _, _ => exact ⟨A, m, c, va, n, gr, h'⟩
  | 3, _, _ => exact ⟨A, m, c, va, su, n, h'⟩
theorem IsDecB.far {w : World} {b : Nat} (h : IsDecB w b) {p : Addr} (hp : b ≠ p.block) (u : Value) : IsDecB (w.setCell p u) b := by
  obtain ⟨v, l, de, fr, co, av, h⟩ := h
  exact ⟨v, l, de, fr, co, av, h.far hp u⟩
theorem IsItmB.far {w : World} {b : Nat} (h : IsItmB w b) {p : Addr} (hp : b ≠ p.block) (u : Value) : IsItmB (w.setCell p u) b := by
  obtain ⟨A, m, c, va, su, gr, h⟩ := h
  exact ⟨A, m, c, va, su, gr, h.far hp u⟩
theorem IsAdjB.far {w : World} {b : Nat} (h : IsAdjB w b) {p : Addr} (hp : b ≠ p.block) (u : Value) : IsAdjB (w.setCell p u) b := by
  obtain ⟨x0, x1, x2, x3, x4, x5, x6, x7, x8, h⟩ := h
  exact ⟨x0, x1, x2, x3, x4, x5, x6, x7, x8, h.far hp u⟩
end Go.Proofs.Ytageedgbkaknnaa
