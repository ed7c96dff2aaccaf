/- Slices of rates and of cash that came in. -/
import Derived.Test.YtojpjglkdmmfjaaArgs
import Derived.Test.YtojpjglkdmmfjaaTrips
namespace Go.Proofs.Ytojpjglkdmmfjaa
open Go.RowKit

theorem rd_rates {w : World} {v : Value} (h : Rd25 w [v]) : ∃ (A : Option Addr) (n c : Nat) (f : Nat → T3), v = .slice A n c ∧ n ≤ 9223372036854775807 ∧ n ≤ c ∧ (A = none → n = 0 ∧ c = 0) ∧ Trips w w.heap.size A n f := by
  rcases h with h | ⟨a, len, cap, h, h1, h2, h3⟩
  · injection h with h
    exact ⟨none, 0, 0, fun _ => ⟨0, 0, 0⟩, h, by omega, by omega, fun _ => ⟨rfl, rfl⟩, Trips.zero⟩
  · injection h with h
    obtain ⟨f, hc, hp⟩ := cells_of (w := w) (a := a) (n := len) (k := 3) (P := IsI64) fun i hi => by
      obtain ⟨cs, hl, hcc, v0, v1, v2, hv, r0, r1, r2⟩ := h3 i (by omega)
      refine ⟨cs, hl, hcc, fun v hv' => ?_⟩
      rw [hv] at hv'
      simp only [List.mem_cons, List.not_mem_nil, or_false] at hv'
      rcases hv' with rfl | rfl | rfl
      · exact rd_i64 r0
      · exact rd_i64 r1
      · exact rd_i64 r2
    obtain ⟨z, hz, hb⟩ := cells_ints hc hp
    refine ⟨some a, len, cap, fun j => ⟨z (3 * j), z (3 * j + 1), z (3 * j + 2)⟩, h, by unfold maxLen at h2; omega, h1, (fun e => by cases e), Cells.congr hz fun j hj => ?_⟩
    unfold tripAt
    rcases (show j % 3 = 0 ∨ j % 3 = 1 ∨ j % 3 = 2 by omega) with e | e | e
    · rw [if_pos e]
      simp only [show 3 * (j / 3) = j by omega]
    · rw [if_neg (by omega), if_pos e]
      simp only [show 3 * (j / 3) + 1 = j by omega]
    · rw [if_neg (by omega), if_neg (by omega)]
      simp only [show 3 * (j / 3) + 2 = j by omega]
end Go.Proofs.Ytojpjglkdmmfjaa
