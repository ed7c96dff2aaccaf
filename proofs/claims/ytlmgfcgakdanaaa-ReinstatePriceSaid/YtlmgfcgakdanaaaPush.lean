/- A slice of structs of two numbers, copied and written. No program in sight. -/
import Derived.Test.YtlmgfcgakdanaaaPairsOwn
namespace Go.Proofs.Ytlmgfcgakdanaaa
open Go.RowKit
theorem Pairs.news {w : World} {B : Nat} {ad : Addr} {ps : List (Int × Int)} (h : Pairs w B (some ad) ps.length (fstOf ps) (sndOf ps)) : ∀ j u, (cellsOf ps)[j]? = some u → w.cell? (ad.add j) = some u := fun j u hu => by
  have hj : j < ps.length * 2 := by
    rw [← cellsOf_length]
    rcases Nat.lt_or_ge j (cellsOf ps).length with h | h
    · exact h
    · rw [List.getElem?_eq_none h] at hu; cases hu
  obtain ⟨ad', e, _, hc⟩ := Cells.get h hj
  injection e with e
  subst e
  rw [hc, ← hu, cellsOf_get ps j hj]
theorem cellsOf_int (ps : List (Int × Int)) : ∀ u ∈ cellsOf ps, ∃ z : Int, u = .int .i64 z := fun u hu => by
  unfold cellsOf at hu
  obtain ⟨a, _, h⟩ := List.mem_flatMap.1 hu
  simp only [List.mem_cons, List.not_mem_nil, or_false] at h
  rcases h with h | h
  · exact ⟨_, h⟩
  · exact ⟨_, h⟩
theorem pairs_some {w : World} {base : Nat} {e : TypeId} {n c : Nat} {A : Option Addr} {xs : List Value} (h : w.ownsRow base e 2 (.slice A n c) n xs) (hx : ∀ u ∈ xs, ∃ z : Int, u = .int .i64 z) : ∃ f g, Pairs w w.heap.size A n f g := by
  have hl := h.1
  have h' : ∀ j, ∃ z : Int, ∀ hj : j < xs.length, xs[j] = .int .i64 z := fun j => by
    by_cases hj : j < xs.length
    · obtain ⟨z, hz⟩ := hx _ (List.getElem_mem hj)
      exact ⟨z, fun _ => hz⟩
    · exact ⟨0, fun h => absurd h hj⟩
  obtain ⟨z, hz⟩ := Classical.skolem.1 h'
  have hc := Cells.of_own h (fun j => .int .i64 (z j)) hz
  refine ⟨fun j => z (2 * j), fun j => z (2 * j + 1), Cells.congr hc fun j hj => ?_⟩
  unfold pairAt
  by_cases e : j % 2 = 0
  · rw [if_pos e]
    simp only [show 2 * (j / 2) = j by omega]
  · rw [if_neg e]
    simp only [show 2 * (j / 2) + 1 = j by omega]
theorem own_is {w : World} {base : Nat} {e : TypeId} {size n g c : Nat} {xs : List Value} (h : w.ownsRow base e size (.slice (some ⟨g, 0, none⟩) n c) n xs) : g < w.heap.size ∧ base ≤ g ∧ n ≤ c := by
  rcases h.2 with ⟨h, _⟩ | ⟨g', cap, cur, hv, hg, hh, hr, _⟩
  · cases h
  · injection hv with hv _ hc
    injection hv with hv
    injection hv with hv
    subst hv hc
    exact ⟨Has.lt (t := e) (cs := cur) hh, hg, hr⟩
end Go.Proofs.Ytlmgfcgakdanaaa
