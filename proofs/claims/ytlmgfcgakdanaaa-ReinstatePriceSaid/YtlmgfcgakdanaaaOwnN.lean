/- A row of numbers that the call has appended together, as a function. No program in sight. -/
import Derived.Test.YtlmgfcgakdanaaaPairsOwn
namespace Go.Proofs.Ytlmgfcgakdanaaa
open Go.RowKit

def numsL (n : Nat) (F : Nat → Int) : List Value := (List.range n).map fun i => .int .i64 (F i)
theorem numsL_length (n : Nat) (F : Nat → Int) : (numsL n F).length = n := by simp [numsL]
theorem numsL_get (n : Nat) (F : Nat → Int) (j : Nat) (h : j < n) : (numsL n F)[j]? = some (.int .i64 (F j)) := by simp [numsL, h]
theorem numsL_set (n : Nat) (F : Nat → Int) (k : Nat) (z : Int) : (numsL n F).set k (.int .i64 z) = numsL n fun i => if i = k then z else F i := by
  apply List.ext_getElem?
  intro j
  by_cases hj : j < n
  · by_cases e : k = j
    · subst e
      rw [List.getElem?_set_self (by rw [numsL_length]; exact hj), numsL_get n _ k hj]
      simp
    · rw [List.getElem?_set_ne e, numsL_get n _ j hj, numsL_get n _ j hj]
      simp only [if_neg (Ne.symm e)]
  · rw [List.getElem?_eq_none (by simp [numsL]; omega), List.getElem?_eq_none (by simp [numsL]; omega)]
theorem numsL_congr {n : Nat} {F G : Nat → Int} (h : ∀ i, i < n → F i = G i) : numsL n F = numsL n G := by
  apply List.map_congr_left
  intro i hi
  rw [h i (List.mem_range.1 hi)]
theorem numsL_one (n : Nat) (F : Nat → Int) : ∀ u ∈ numsL n F, u.oneCell' = true := fun u hu => by
  obtain ⟨i, _, rfl⟩ := List.mem_map.1 hu
  rfl
theorem Nums.news {w : World} {B n : Nat} {ad : Addr} {F : Nat → Int} (h : Nums w B (some ad) n F) : ∀ j u, (numsL n F)[j]? = some u → w.cell? (ad.add j) = some u := fun j u hu => by
  have hj : j < n := by
    rcases Nat.lt_or_ge j n with h | h
    · exact h
    · rw [List.getElem?_eq_none (by rw [numsL_length]; exact h)] at hu; cases hu
  obtain ⟨ad', e, _, hc⟩ := Cells.get h hj
  injection e with e
  subst e
  rw [hc, ← hu, numsL_get n F j hj]

/-- the call owns n numbers in block g -/
def OwnN (w : World) (base g n cap : Nat) (F : Nat → Int) : Prop := w.ownsRow base 3 1 (.slice (some ⟨g, 0, none⟩) n cap) n (numsL n F)

section
variable {w w' : World} {base g n cap B : Nat} {F G : Nat → Int}
theorem OwnN.lt (h : OwnN w base g n cap F) : g < w.heap.size := by
  rcases h.2 with ⟨h, _⟩ | ⟨g', cap, cur, hv, hg, hh, hr⟩
  · cases h
  · injection hv with hv
    injection hv with hv
    injection hv with hv
    subst hv
    exact Has.lt (t := 3) (cs := cur) hh
theorem OwnN.base_le (h : OwnN w base g n cap F) : base ≤ g := by
  obtain ⟨_, _, hg⟩ := own_form h (g0 := g) rfl
  exact hg
theorem OwnN.cell (h : OwnN w base g n cap F) (j : Nat) (hj : j < n) : w.cell? ⟨g, j, none⟩ = some (.int .i64 (F j)) := by
  have := h.cellAt j (by omega)
  rw [this, numsL_get n F j hj]
theorem OwnN.free (h : OwnN w base g n cap F) (j : Nat) : w.frozen? ⟨g, j, none⟩ = false := h.frozenAt j
theorem OwnN.of_block (h : OwnN w base g n cap F) (e : w'.heap[g]? = w.heap[g]?) : OwnN w' base g n cap F := by
  refine ⟨h.1, ?_⟩
  rcases h.2 with h0 | ⟨g', cap, cur, hv, hg, hh, hr⟩
  · exact .inl h0
  · refine .inr ⟨g', cap, cur, hv, hg, ?_, hr⟩
    injection hv with hv
    injection hv with hv
    injection hv with hv
    subst hv
    exact e.trans hh
theorem OwnN.below (h : OwnN w base g n cap F) (hb : Below B w w') (hg : g < B) : OwnN w' base g n cap F := h.of_block (hb.block g hg)
theorem OwnN.keeps {b : Nat} (h : OwnN w base g n cap F) (hk : Keeps b w w') (hg : g ≠ b) : OwnN w' base g n cap F := h.of_block (hk.block g h.lt hg)
theorem OwnN.alloc (h : OwnN w base g n cap F) (o : Obj) : OwnN (w.alloc o) base g n cap F := h.of_block (Below.heap_alloc w o g h.lt)
theorem OwnN.drew (h : OwnN w base g n cap F) : OwnN w.drew base g n cap F := h.of_block rfl
theorem OwnN.drewN (h : OwnN w base g n cap F) (k : Nat) : OwnN (w.drewN k) base g n cap F := h.of_block rfl
theorem OwnN.put (h : OwnN w base g n cap F) (k : Nat) (z : Int) : OwnN (w.setCell ⟨g, k, none⟩ (.int .i64 z)) base g n cap (fun i => if i = k then z else F i) := by
  have := (h.stored k (.int .i64 z)).1
  rw [numsL_set] at this
  exact this
theorem OwnN.far (h : OwnN w base g n cap F) {p : Addr} (hp : g ≠ p.block) (u : Value) : OwnN (w.setCell p u) base g n cap F := h.of_block (Below.heap_setCell w p u g hp)
theorem OwnN.congr (h : OwnN w base g n cap F) (e : ∀ i, i < n → F i = G i) : OwnN w base g n cap G := by
  unfold OwnN at h ⊢
  rwa [← numsL_congr e]
theorem OwnN.nums (h : OwnN w base g n cap F) : Nums w w.heap.size (some ⟨g, 0, none⟩) n F := by
  have := Cells.of_own h (fun j => .int .i64 (F j)) fun j hj => by simp [numsL]
  rwa [Nat.mul_one] at this
end
end Go.Proofs.Ytlmgfcgakdanaaa
