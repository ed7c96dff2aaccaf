/- Slices of structs of two numbers that came in (printed by wip/gen/args2.py). -/
import Derived.Test.YtigoeaidlgofoaaArgs
import Derived.Test.YtigoeaidlgofoaaPairs
namespace Go.Proofs.Ytigoeaidlgofoaa
open Go.RowKit

theorem pairs_of {w : World} {a : Addr} {n : Nat} (h : ∀ i, i < n → ∃ cs : List Value, cs.length = 2 ∧ (∀ j, j < 2 → w.cell? (a.add (i * 2 + j)) = cs[j]?) ∧ ∀ v, v ∈ cs → IsI64 v) :
    ∃ f g : Nat → Int, Pairs w w.heap.size (some a) n f g ∧ ∀ j, j < n → (-9223372036854775808 ≤ f j ∧ f j ≤ 9223372036854775807) ∧ (-9223372036854775808 ≤ g j ∧ g j ≤ 9223372036854775807) := by
  obtain ⟨f, hc, hp⟩ := cells_of h
  obtain ⟨z, hz, hb⟩ := cells_ints hc hp
  refine ⟨fun j => z (2 * j), fun j => z (2 * j + 1), Cells.congr hz fun j hj => ?_, fun j hj => ⟨hb _ (by omega), hb _ (by omega)⟩⟩
  unfold pairAt
  by_cases e : j % 2 = 0
  · rw [if_pos e]
    simp only [show 2 * (j / 2) = j by omega]
  · rw [if_neg e]
    simp only [show 2 * (j / 2) + 1 = j by omega]


theorem rd_layer {w : World} {v : Value} (h : Rd30 w [v]) : ∃ (A : Option Addr) (n c : Nat) (f g : Nat → Int), v = .slice A n c ∧ n ≤ 9223372036854775807 ∧ n ≤ c ∧ (A = none → n = 0 ∧ c = 0) ∧ Pairs w w.heap.size A n f g ∧
    ∀ j, j < n → (-9223372036854775808 ≤ f j ∧ f j ≤ 9223372036854775807) ∧ (-9223372036854775808 ≤ g j ∧ g j ≤ 9223372036854775807) := by
  rcases h with h | ⟨a, len, cap, h, h1, h2, h3⟩
  · injection h with h
    exact ⟨none, 0, 0, fun _ => 0, fun _ => 0, h, by omega, by omega, fun _ => ⟨rfl, rfl⟩, Pairs.zero, fun j hj => absurd hj (by omega)⟩
  · injection h with h
    obtain ⟨f, g, hp, hb⟩ := pairs_of (w := w) (a := a) (n := len) fun i hi => by
      obtain ⟨cs, hl, hcc, v0, v1, hv, r0, r1⟩ := h3 i (by omega)
      refine ⟨cs, hl, hcc, fun v hv' => ?_⟩
      rw [hv] at hv'
      simp only [List.mem_cons, List.not_mem_nil, or_false] at hv'
      rcases hv' with rfl | rfl
      · exact rd_i64 r0
      · exact rd_i64 r1
    exact ⟨some a, len, cap, f, g, h, by unfold maxLen at h2; omega, h1, (fun e => by cases e), hp, hb⟩

theorem rd_index {w : World} {v : Value} (h : Rd40 w [v]) : ∃ (A : Option Addr) (n c : Nat) (f g : Nat → Int), v = .slice A n c ∧ n ≤ 9223372036854775807 ∧ n ≤ c ∧ (A = none → n = 0 ∧ c = 0) ∧ Pairs w w.heap.size A n f g ∧
    ∀ j, j < n → (-9223372036854775808 ≤ f j ∧ f j ≤ 9223372036854775807) ∧ (-9223372036854775808 ≤ g j ∧ g j ≤ 9223372036854775807) := by
  rcases h with h | ⟨a, len, cap, h, h1, h2, h3⟩
  · injection h with h
    exact ⟨none, 0, 0, fun _ => 0, fun _ => 0, h, by omega, by omega, fun _ => ⟨rfl, rfl⟩, Pairs.zero, fun j hj => absurd hj (by omega)⟩
  · injection h with h
    obtain ⟨f, g, hp, hb⟩ := pairs_of (w := w) (a := a) (n := len) fun i hi => by
      obtain ⟨cs, hl, hcc, v0, v1, hv, r0, r1⟩ := h3 i (by omega)
      refine ⟨cs, hl, hcc, fun v hv' => ?_⟩
      rw [hv] at hv'
      simp only [List.mem_cons, List.not_mem_nil, or_false] at hv'
      rcases hv' with rfl | rfl
      · exact rd_i64 r0
      · exact rd_i64 r1
    exact ⟨some a, len, cap, f, g, h, by unfold maxLen at h2; omega, h1, (fun e => by cases e), hp, hb⟩

theorem rd_payment {w : World} {v : Value} (h : Rd48 w [v]) : ∃ (A : Option Addr) (n c : Nat) (f g : Nat → Int), v = .slice A n c ∧ n ≤ 9223372036854775807 ∧ n ≤ c ∧ (A = none → n = 0 ∧ c = 0) ∧ Pairs w w.heap.size A n f g ∧
    ∀ j, j < n → (-9223372036854775808 ≤ f j ∧ f j ≤ 9223372036854775807) ∧ (-9223372036854775808 ≤ g j ∧ g j ≤ 9223372036854775807) := by
  rcases h with h | ⟨a, len, cap, h, h1, h2, h3⟩
  · injection h with h
    exact ⟨none, 0, 0, fun _ => 0, fun _ => 0, h, by omega, by omega, fun _ => ⟨rfl, rfl⟩, Pairs.zero, fun j hj => absurd hj (by omega)⟩
  · injection h with h
    obtain ⟨f, g, hp, hb⟩ := pairs_of (w := w) (a := a) (n := len) fun i hi => by
      obtain ⟨cs, hl, hcc, v0, v1, hv, r0, r1⟩ := h3 i (by omega)
      refine ⟨cs, hl, hcc, fun v hv' => ?_⟩
      rw [hv] at hv'
      simp only [List.mem_cons, List.not_mem_nil, or_false] at hv'
      rcases hv' with rfl | rfl
      · exact rd_i64 r0
      · exact rd_i64 r1
    exact ⟨some a, len, cap, f, g, h, by unfold maxLen at h2; omega, h1, (fun e => by cases e), hp, hb⟩
end Go.Proofs.Ytigoeaidlgofoaa
