/- A deficit is set off once: the accounts where all deficits are kept, and where none is. No program in sight. -/
import Derived.Test.YtedkdflecdggpaaCoMath3
namespace Go.Proofs.Ytedkdflecdggpaa.Co

theorem rest_sum {D : Nat → Int} {s : Nat} {r : Int} (hr : 0 ≤ r) (hD : ∀ j, 0 ≤ D j) : ∀ k, rest D s r k = r - min (sumr D s k) r ∧ 0 ≤ sumr D s k := fun k => by
  induction k with
  | zero => simp [rest, sumr]; omega
  | succ k ih =>
    rw [rest, sumr]
    have := hD (s + k)
    omega
theorem sumr_offs {D : Nat → Int} {s : Nat} {r : Int} (hr : 0 ≤ r) (hD : ∀ j, 0 ≤ D j) : ∀ k m, k ≤ m → sumr (offs D s r m) s k = sumr D s k - min (sumr D s k) r := fun k => by
  induction k with
  | zero => intro m _; simp [sumr]; omega
  | succ k ih =>
    intro m hm
    rw [sumr, sumr, ih m (by omega), offs, if_pos (by omega), Nat.add_sub_cancel_left]
    have h1 := rest_sum (s := s) hr hD k
    have h2 := hD (s + k)
    omega
section
variable {p l : Nat → Int} {x : Int}
/-- all deficits are kept -/
theorem keep_all {c i : Nat} (hx : rateP x) (hi : i + 1 ≤ c) (hy : ∀ k, k < i + 1 → yearP p l k) :
    left p l x c i = max 0 (res p l x i) - min (brought p l x c i) (max 0 (res p l x i)) ∧
    carried p l x c i = brought p l x c i - min (brought p l x c i) (max 0 (res p l x i)) + max 0 (-res p l x i) ∧ brought p l x c (i + 1) = carried p l x c i ∧ 0 ≤ brought p l x c i ∧ brought p l x c i ≤ 68719476736 * i := by
  have hd := defs_bound (c := c) hx i fun k hk => hy k (by omega)
  obtain ⟨D, hD⟩ : ∃ D, defs p l x c i = D := ⟨_, rfl⟩
  have hb : brought p l x c i = sumr D 0 i := by rw [brought, hD, show i - c = 0 by omega, Nat.sub_zero]
  rw [hD] at hd
  have h1 := rest_sum (D := D) (s := 0) (r := max 0 (res p l x i)) (by omega) (fun j => (hd j).1) i
  have h2 := sumr_offs (D := D) (s := 0) (r := max 0 (res p l x i)) (by omega) (fun j => (hd j).1) i i (Nat.le_refl _)
  have h3 := sumr_bound (D := D) (s := 0) (M := 68719476736) i hd
  have hc : carried p l x c i = sumr D 0 i - min (sumr D 0 i) (max 0 (res p l x i)) + max 0 (-res p l x i) := by
    rw [carried, show i + 1 - c = 0 by omega, Nat.sub_zero, sumr, ← h2, Nat.zero_add]
    congr 1
    · refine sumr_congr i fun j _ hj => ?_
      rw [defs, if_neg (by omega), show i - c = 0 by omega, Nat.sub_zero]
      show offs (fun j => defs p l x c i j) 0 _ i j = _
      rw [hD]
    · rw [defs, if_pos rfl]
  refine ⟨?_, by rw [hc, hb], ?_, by rw [hb]; omega, by rw [hb]; omega⟩
  · rw [left, hD, show i - c = 0 by omega, Nat.sub_zero, hb]
    exact h1.1
  · rfl
/-- none is kept -/
theorem keep_none (i : Nat) : left p l x 0 i = max 0 (res p l x i) ∧ brought p l x 0 i = 0 ∧ carried p l x 0 i = 0 := by
  refine ⟨?_, ?_, ?_⟩
  · rw [left, Nat.sub_zero, Nat.sub_self]; rfl
  · rw [brought, Nat.sub_zero, Nat.sub_self]; rfl
  · rw [carried, Nat.sub_zero, Nat.sub_self]; rfl
end
end Go.Proofs.Ytedkdflecdggpaa.Co
