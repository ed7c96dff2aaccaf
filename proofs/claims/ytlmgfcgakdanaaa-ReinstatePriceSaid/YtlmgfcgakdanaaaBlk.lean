/- A block that is known whole: what reads it and what leaves it alone. No program in sight. -/
import Derived.Test.YtlmgfcgakdanaaaMem
import Derived.Laws.Rows
namespace Go.Proofs.Ytlmgfcgakdanaaa
open Go.RowKit

/-- block b is just the cells cs of type t, none of them frozen -/
def Has (w : World) (b : Nat) (cs : Array Value) (t : TypeId) : Prop := w.heap[b]? = some (.cells cs t (0, 0))

section
variable {w w' : World} {b : Nat} {cs : Array Value} {t : TypeId}
theorem Has.lt (h : Has w b cs t) : b < w.heap.size := by
  rcases Nat.lt_or_ge b w.heap.size with hlt | hge
  · exact hlt
  · unfold Has at h; rw [Array.getElem?_eq_none hge] at h; cases h
theorem Has.cell (h : Has w b cs t) (i : Nat) : w.cell? ⟨b, i, none⟩ = cs[i]? := cell_of_row w b i cs t (0, 0) h
theorem Has.free (h : Has w b cs t) (i : Nat) : w.frozen? ⟨b, i, none⟩ = false := by
  unfold Has at h
  simp [World.frozen?, h]
theorem Has.new (w : World) (cs : Array Value) (t : TypeId) : Has (w.alloc (.cells cs t)) w.heap.size cs t := heap_alloc_new w _
theorem Has.new' (w : World) (b : Nat) (cs : Array Value) (t : TypeId) (hb : b = w.heap.size) : Has (w.alloc (.cells cs t)) b cs t := by subst hb; exact heap_alloc_new w _
theorem Has.drewN (h : Has w b cs t) (n : Nat) : Has (w.drewN n) b cs t := h
theorem Has.drew (h : Has w b cs t) : Has w.drew b cs t := h
theorem Has.alloc (h : Has w b cs t) (o : Obj) : Has (w.alloc o) b cs t := (Below.heap_alloc w o b h.lt).trans h
theorem Has.put (h : Has w b cs t) (i : Nat) (u : Value) : Has (w.setCell ⟨b, i, none⟩ u) b (cs.setIfInBounds i u) t := by
  unfold Has at h ⊢
  simp [World.setCell, Array.getElem?_modify, h]
theorem Has.far (h : Has w b cs t) {p : Addr} (hp : b ≠ p.block) (u : Value) : Has (w.setCell p u) b cs t := (Below.heap_setCell w p u b hp).trans h
theorem Has.below {B : Nat} (h : Has w b cs t) (hb : Below B w w') (hg : b < B) : Has w' b cs t := (hb.block b hg).trans h
end
end Go.Proofs.Ytlmgfcgakdanaaa
