/- A row of cells that the call has made whole, as a function. No program in sight. -/
import Derived.Test.YtlmgfcgakdanaaaPairs
namespace Go.Proofs.Ytlmgfcgakdanaaa
open Go.RowKit

/-- block g is n cells of type t, the j-th of them h j -/
def Row (w : World) (g n : Nat) (t : TypeId) (h : Nat → Value) : Prop := ∃ cur : Array Value, Has w g cur t ∧ cur.size = n ∧ ∀ j, j < n → cur[j]? = some (h j)

section
variable {w w' : World} {g n B : Nat} {t : TypeId} {h : Nat → Value}
theorem Row.lt (hr : Row w g n t h) : g < w.heap.size := by obtain ⟨_, hh, _⟩ := hr; exact hh.lt
theorem Row.cell (hr : Row w g n t h) (j : Nat) (hj : j < n) : w.cell? ⟨g, j, none⟩ = some (h j) := by obtain ⟨_, hh, _, hc⟩ := hr; rw [hh.cell]; exact hc j hj
theorem Row.free (hr : Row w g n t h) (j : Nat) : w.frozen? ⟨g, j, none⟩ = false := by obtain ⟨_, hh, _⟩ := hr; exact hh.free j
theorem Row.below (hr : Row w g n t h) (hb : Below B w w') (hg : g < B) : Row w' g n t h := by obtain ⟨c, hh, h1, h2⟩ := hr; exact ⟨c, hh.below hb hg, h1, h2⟩
theorem Row.keeps {b : Nat} (hr : Row w g n t h) (hk : Keeps b w w') (hn : g ≠ b) : Row w' g n t h := by obtain ⟨c, hh, h1, h2⟩ := hr; exact ⟨c, hh.keeps hk hn, h1, h2⟩
theorem Row.alloc (hr : Row w g n t h) (o : Obj) : Row (w.alloc o) g n t h := by obtain ⟨c, hh, h1, h2⟩ := hr; exact ⟨c, hh.alloc o, h1, h2⟩
theorem Row.drewN (hr : Row w g n t h) (k : Nat) : Row (w.drewN k) g n t h := hr
theorem Row.drew (hr : Row w g n t h) : Row w.drew g n t h := hr
theorem Row.put (hr : Row w g n t h) (j : Nat) (u : Value) : Row (w.setCell ⟨g, j, none⟩ u) g n t (fun i => if i = j then u else h i) := by
  obtain ⟨c, hh, h1, h2⟩ := hr
  refine ⟨_, hh.put j u, by simpa using h1, fun i hi => ?_⟩
  rw [Array.getElem?_setIfInBounds]
  by_cases e : j = i
  · subst e; simp; omega
  · rw [if_neg e]
    simp only [if_neg (Ne.symm e)]
    exact h2 i hi
theorem Row.far (hr : Row w g n t h) {p : Addr} (hp : g ≠ p.block) (u : Value) : Row (w.setCell p u) g n t h := by obtain ⟨c, hh, h1, h2⟩ := hr; exact ⟨c, hh.far hp u, h1, h2⟩
theorem Row.congr (hr : Row w g n t h) {h' : Nat → Value} (e : ∀ j, j < n → h j = h' j) : Row w g n t h' := by
  obtain ⟨c, hh, h1, h2⟩ := hr
  exact ⟨c, hh, h1, fun j hj => by rw [h2 j hj, e j hj]⟩
theorem Row.cells (hr : Row w g n t h) : Cells w w.heap.size (some ⟨g, 0, none⟩) n h := fun _ =>
  ⟨_, rfl, hr.lt, fun j hj => by rw [Go.WideShapes.add_plain, Nat.zero_add]; exact hr.cell j hj⟩

/-- a row that was just made whole -/
theorem Row.made {base size : Nat} {e : TypeId} {xs : List Value} (ho : w.ownsRow base e size (.slice (some ⟨g, 0, none⟩) n n) n xs) (hx : ∀ j, j < n * size → xs[j]? = some (h j)) : Row w g (n * size) e h := by
  rcases ho.2 with ⟨e1, _⟩ | ⟨g', cap, cur, e1, _, hg, _, _, hcs, htake⟩
  · cases e1
  · injection e1 with e1 _ e3
    injection e1 with e1
    injection e1 with e1
    subst e1 e3
    refine ⟨cur, hg, hcs, fun j hj => ?_⟩
    have := hx j hj
    rw [← htake, List.getElem?_take_of_lt hj] at this
    rw [← this, Array.getElem?_toList]

/-- the same, whatever it holds -/
theorem Row.some_made {base : Nat} {e : TypeId} {xs : List Value} (ho : w.ownsRow base e 1 (.slice (some ⟨g, 0, none⟩) n n) n xs) : ∃ h : Nat → Value, Row w g n e h := by
  have hl := ho.1
  refine ⟨fun j => xs.getD j undef, ?_⟩
  have := Row.made (h := fun j => xs.getD j undef) ho fun j hj => by
    rw [List.getElem?_eq_getElem (by omega)]
    simp [List.getD, List.getElem?_eq_getElem (show j < xs.length by omega)]
  rwa [Nat.mul_one] at this
end
end Go.Proofs.Ytlmgfcgakdanaaa
