/- A list that is looked through from its beginning for the first fault. No program in sight. -/
import Derived.WalkKit
namespace Go.Proofs.Ytlmgfcgakdanaaa

/-- the first code that is not 0, from place i on, k places -/
def scan (c : Nat → Int) : Nat → Nat → Int
  | 0, _ => 0
  | k + 1, i => if c i = 0 then scan c k (i + 1) else c i

theorem scan_stop (c : Nat → Int) {n i : Nat} (h : i < n) (hc : c i ≠ 0) : scan c (n - i) i = c i := by
  obtain ⟨k, hk⟩ : ∃ k, n - i = k + 1 := ⟨n - i - 1, by omega⟩
  rw [hk, scan, if_neg hc]
theorem scan_go (c : Nat → Int) {n i : Nat} (h : i < n) (hc : c i = 0) : scan c (n - i) i = scan c (n - (i + 1)) (i + 1) := by
  obtain ⟨k, hk⟩ : ∃ k, n - i = k + 1 := ⟨n - i - 1, by omega⟩
  rw [hk, scan, if_pos hc, show n - (i + 1) = k by omega]
theorem scan_end (c : Nat → Int) (n : Nat) : scan c (n - n) n = 0 := by rw [Nat.sub_self]; rfl

/-- no fault: every place is fine -/
theorem scan_zero (c : Nat → Int) (k i : Nat) (h : scan c k i = 0) : ∀ j, i ≤ j → j < i + k → c j = 0 := by
  induction k generalizing i with
  | zero => intro j h1 h2; omega
  | succ k ih =>
    intro j h1 h2
    by_cases hc : c i = 0
    · rw [scan, if_pos hc] at h
      by_cases e : j = i
      · rw [e]; exact hc
      · exact ih (i + 1) h j (by omega) (by omega)
    · rw [scan, if_neg hc] at h
      exact absurd h hc
theorem scan_fine (c : Nat → Int) (k i : Nat) (h : ∀ j, i ≤ j → j < i + k → c j = 0) : scan c k i = 0 := by
  induction k generalizing i with
  | zero => rfl
  | succ k ih => rw [scan, if_pos (h i (by omega) (by omega))]; exact ih (i + 1) fun j h1 h2 => h j (by omega) (by omega)
theorem scan_congr (c d : Nat → Int) (k i : Nat) (h : ∀ j, i ≤ j → j < i + k → c j = d j) : scan c k i = scan d k i := by
  induction k generalizing i with
  | zero => rfl
  | succ k ih => rw [scan, scan, h i (by omega) (by omega), ih (i + 1) fun j h1 h2 => h j (by omega) (by omega)]
end Go.Proofs.Ytlmgfcgakdanaaa
