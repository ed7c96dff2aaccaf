/- A copy of a table of rates, whatever it holds. -/
import Derived.Test.YtojpjglkdmmfjaaXcD
import Derived.Test.YtojpjglkdmmfjaaPush
namespace Go.Proofs.Ytojpjglkdmmfjaa
open Go.RowKit
set_option linter.unusedVariables false

/-- the call owns n rates in block g -/
def OC (w : World) (base g cap n : Nat) : Prop := ∃ xs : List Value, w.ownsRow base 24 3 (.slice (some ⟨g, 0, none⟩) n cap) n xs ∧ ∀ u ∈ xs, ∃ z : Int, u = .int .i64 z
section
variable {w w' : World} {base g cap n : Nat}
theorem OC.lt (h : OC w base g cap n) : g < w.heap.size := by obtain ⟨xs, h, _⟩ := h; exact (own_is h).1
theorem OC.ge (h : OC w base g cap n) : base ≤ g := by obtain ⟨xs, h, _⟩ := h; exact (own_is h).2.1
theorem OC.below (h : OC w base g cap n) (hb : Below w.heap.size w w') : OC w' base g cap n := by obtain ⟨xs, h, h1⟩ := h; exact ⟨xs, own_below h hb, h1⟩
theorem OC.drew (h : OC w base g cap n) : OC w.drew base g cap n := h.below ((Below.refl _ _).drew)
theorem OC.put (h : OC w base g cap n) (j : Nat) (z : Int) : OC (w.setCell ⟨g, j, none⟩ (.int .i64 z)) base g cap n := by
  obtain ⟨xs, h, h1⟩ := h
  refine ⟨_, (h.stored j (.int .i64 z)).1, fun u hu => ?_⟩
  rcases List.mem_or_eq_of_mem_set hu with hu | rfl
  · exact h1 u hu
  · exact ⟨_, rfl⟩
theorem OC.far (h : OC w base g cap n) {p : Addr} (hp : g ≠ p.block) (u : Value) : OC (w.setCell p u) base g cap n := by
  obtain ⟨xs, h, h1⟩ := h
  refine ⟨xs, own_leaves h (Leaves.put (S := fun k => k = p.block) (p := p) (Leaves.refl _ w) (.inl rfl) u) (fun k hk e => hp ?_), h1⟩
  simp only [Value.ownBlock, Option.some.injEq] at hk
  exact hk.trans e
theorem OC.cell (h : OC w base g cap n) (j : Nat) (hj : j < n * 3) : ∃ z : Int, w.cell? ⟨g, j, none⟩ = some (.int .i64 z) := by
  obtain ⟨xs, h, h1⟩ := h
  have hl := h.1
  have := h.cellAt j (by omega)
  rw [List.getElem?_eq_getElem (by omega)] at this
  obtain ⟨z, hz⟩ := h1 _ (List.getElem_mem (by omega : j < xs.length))
  exact ⟨z, by rw [this, hz]⟩
theorem OC.free (h : OC w base g cap n) (j : Nat) : w.frozen? ⟨g, j, none⟩ = false := by obtain ⟨xs, h, _⟩ := h; exact h.frozenAt j
theorem OC.trips (h : OC w base g cap n) : ∃ f, Trips w w.heap.size (some ⟨g, 0, none⟩) n f := by
  obtain ⟨xs, h, hx⟩ := h
  have hl := h.1
  have h' : ∀ j, ∃ z : Int, ∀ hj : j < xs.length, xs[j] = .int .i64 z := fun j => by
    by_cases hj : j < xs.length
    · obtain ⟨z, hz⟩ := hx _ (List.getElem_mem hj)
      exact ⟨z, fun _ => hz⟩
    · exact ⟨0, fun h => absurd h hj⟩
  obtain ⟨z, hz⟩ := Classical.skolem.1 h'
  have hc := Cells.of_own h (fun j => .int .i64 (z j)) hz
  refine ⟨fun j => ⟨z (3 * j), z (3 * j + 1), z (3 * j + 2)⟩, Cells.congr hc fun j hj => ?_⟩
  unfold tripAt
  rcases (show j % 3 = 0 ∨ j % 3 = 1 ∨ j % 3 = 2 by omega) with e | e | e
  · rw [if_pos e]
    simp only [show 3 * (j / 3) = j by omega]
  · rw [if_neg (by omega), if_pos e]
    simp only [show 3 * (j / 3) + 1 = j by omega]
  · rw [if_neg (by omega), if_neg (by omega)]
    simp only [show 3 * (j / 3) + 2 = j by omega]
end
theorem t3L_int (l : List T3) : ∀ u ∈ t3L l, ∃ z : Int, u = .int .i64 z := fun u hu => by
  unfold t3L at hu
  obtain ⟨a, _, h⟩ := List.mem_flatMap.1 hu
  simp only [List.mem_cons, List.not_mem_nil, or_false] at h
  rcases h with h | h | h <;> exact ⟨_, h⟩
end Go.Proofs.Ytojpjglkdmmfjaa
