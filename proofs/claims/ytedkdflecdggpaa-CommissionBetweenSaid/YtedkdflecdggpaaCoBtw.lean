/- The rate of a sliding scale between two points. No program in sight. -/
import Derived.Test.YtedkdflecdggpaaCoMath2
namespace Go.Proofs.Ytedkdflecdggpaa.Co

/-- a part of a difference, written out -/
theorem md_val (a num den : Int) (a0 : -17592186044416 ≤ a) (a1 : a ≤ 17592186044416) (n0 : 0 ≤ num) (n1 : num ≤ den) (d0 : 1 ≤ den) (d1 : den ≤ 17592186044416) :
    (Am.md a num den 4).1 = if 0 ≤ a then Am.hu (a * num) den else -Am.hu (-a * num) den := by
  have key : ∀ b : Int, 0 ≤ b → b ≤ 17592186044416 → Am.md b num den 4 = (Am.hu (b * num) den, 0) := fun b b0 b1 => by
    have hp := Am.hu_part b num den b0 n0 n1 d0
    rw [Am.md_hu b num den b0 b1 n0 (by omega) d0 d1, if_neg (by omega)]
  by_cases h : 0 ≤ a
  · rw [if_pos h, key a h a1]
  · rw [if_neg h]
    have ho := Am.md_opp a num den 4
    rw [show Am.opp 4 = 4 from rfl, key (-a) (by omega) (by omega)] at ho
    have := congrArg Prod.fst ho
    simp only at this
    omega
theorem md_none (a den : Int) (a0 : -17592186044416 ≤ a) (a1 : a ≤ 17592186044416) (d0 : 1 ≤ den) (d1 : den ≤ 17592186044416) : (Am.md a 0 den 4).1 = 0 := by
  rw [md_val a 0 den a0 a1 (by omega) (by omega) d0 d1, Int.mul_zero, Int.mul_zero, Am.hu_zero _ (by omega)]
  split <;> rfl
theorem md_whole (a den : Int) (a0 : -17592186044416 ≤ a) (a1 : a ≤ 17592186044416) (d0 : 1 ≤ den) (d1 : den ≤ 17592186044416) : (Am.md a den den 4).1 = a := by
  have e : ∀ b : Int, Am.hu (b * den) den = b := fun b => by
    have := Am.hu_add 0 b den (by omega)
    rw [Int.zero_add, Am.hu_zero _ (by omega)] at this
    omega
  rw [md_val a den den a0 a1 (by omega) (by omega) d0 d1, e, e]
  split <;> omega
theorem md_rises (a x y den : Int) (a0 : -17592186044416 ≤ a) (a1 : a ≤ 17592186044416) (x0 : 0 ≤ x) (xy : x ≤ y) (y1 : y ≤ den) (d0 : 1 ≤ den) (d1 : den ≤ 17592186044416) :
    (0 ≤ a → (Am.md a x den 4).1 ≤ (Am.md a y den 4).1) ∧ (a ≤ 0 → (Am.md a y den 4).1 ≤ (Am.md a x den 4).1) := by
  rw [md_val a x den a0 a1 x0 (by omega) d0 d1, md_val a y den a0 a1 (by omega) y1 d0 d1]
  refine ⟨fun h => ?_, fun h => ?_⟩
  · rw [if_pos h, if_pos h]
    exact Am.hu_mono (by omega) (Int.mul_le_mul_of_nonneg_left xy h)
  · by_cases e : 0 ≤ a
    · obtain rfl : a = 0 := by omega
      simp
    · rw [if_neg e, if_neg e]
      have := Am.hu_mono (d := den) (by omega) (Int.mul_le_mul_of_nonneg_left xy (show 0 ≤ -a by omega))
      omega

section
variable {n : Nat} {f g : Nat → Int} {r : Int}
theorem look_skip {i : Nat} : ∀ d, i + d ≤ n → (∀ t, i ≤ t → t < i + d → f t ≤ r) → look f g r (n - i) i = look f g r (n - (i + d)) (i + d) := fun d => by
  induction d with
  | zero => intro _ _; rfl
  | succ d ih =>
    intro h1 h2
    rw [ih (by omega) fun t a b => h2 t a (by omega), look_go (by omega) (by have := h2 (i + d) (by omega) (by omega); omega)]
    rfl
theorem order_le (ho : ∀ i, 0 < i → i < n → f (i - 1) < f i) {i : Nat} : ∀ d, i + d < n → f i + d ≤ f (i + d) := fun d => by
  induction d with
  | zero => intro _; simp
  | succ d ih =>
    intro h
    have h1 := ih (by omega)
    have h2 := ho (i + d + 1) (by omega) (by omega)
    rw [Nat.add_sub_cancel] at h2
    show f i + ((d + 1 : Nat) : Int) ≤ f (i + d + 1)
    omega
theorem rate_at (he : rerr n f g = 0) {k : Nat} (hk : k < n) : rate n f g (f k) = (g k, 0) := by
  obtain ⟨h1, h2, h3, h4⟩ := rerr_fine he
  have hs := h3 k hk
  rw [rate, if_neg (by rw [he]; simp), if_neg (fun c => c hs.1)]
  rcases Nat.eq_zero_or_pos k with h0 | h0
  · subst h0; rw [if_pos (Int.le_refl _)]
  · have hlt := order_le h4 (i := 0) k (by omega)
    rw [Nat.zero_add] at hlt
    rw [if_neg (by omega)]
    congr 1
    rw [look_skip (i := 1) k (by omega) fun t a b => by
      have := order_le h4 (i := t) (k - t) (by omega)
      rw [show t + (k - t) = k by omega] at this
      omega, Nat.add_comm 1 k]
    by_cases e : k + 1 = n
    · rw [e, look_end, ← e, Nat.add_sub_cancel]
    · have h5 := h4 (k + 1) (by omega) (by omega)
      have h6 := h3 (k + 1) (by omega)
      rw [Nat.add_sub_cancel] at h5
      obtain ⟨⟨a0, a1⟩, a2, a3⟩ := hs
      obtain ⟨⟨b0, b1⟩, b2, b3⟩ := h6
      rw [look_stop (by omega) h5, seg, Nat.add_sub_cancel, Int.sub_self, md_none _ _ (by omega) (by omega) (by omega) (by omega), Int.add_zero]
/-- between two points -/
theorem rate_seg (he : rerr n f g = 0) {k : Nat} (hk : k + 1 < n) (r0 : f k ≤ r) (r1 : r ≤ f (k + 1)) : rate n f g r = (g k + (Am.md (g (k + 1) - g k) (r - f k) (f (k + 1) - f k) 4).1, 0) := by
  obtain ⟨h1, h2, h3, h4⟩ := rerr_fine he
  have h5 := h4 (k + 1) (by omega) (by omega)
  rw [Nat.add_sub_cancel] at h5
  obtain ⟨⟨a0, a1⟩, a2, a3⟩ := h3 k (by omega)
  obtain ⟨⟨b0, b1⟩, b2, b3⟩ := h3 (k + 1) (by omega)
  by_cases e : r = f (k + 1)
  · subst e
    rw [rate_at he hk, md_whole _ _ (by omega) (by omega) (by omega) (by omega)]
    congr 1
    omega
  · by_cases e2 : r = f k
    · subst e2
      rw [rate_at he (by omega), Int.sub_self, md_none _ _ (by omega) (by omega) (by omega) (by omega), Int.add_zero]
    · have hlt := order_le h4 (i := 0) k (by omega)
      rw [Nat.zero_add] at hlt
      rw [rate, if_neg (by rw [he]; simp), if_neg (fun c => c ⟨by omega, by omega⟩), if_neg (by omega)]
      congr 1
      rw [look_skip (i := 1) k (by omega) fun t a b => by
        have := order_le h4 (i := t) (k - t) (by omega)
        rw [show t + (k - t) = k by omega] at this
        omega, Nat.add_comm 1 k, look_stop (by omega) (by omega), seg, Nat.add_sub_cancel]
theorem rate_between (he : rerr n f g = 0) {k : Nat} {x y : Int} (hk : k + 1 < n) (r0 : f k ≤ x) (xy : x ≤ y) (r1 : y ≤ f (k + 1)) :
    ∃ p q, rate n f g x = (p, 0) ∧ rate n f g y = (q, 0) ∧ (g k ≤ g (k + 1) → g k ≤ p ∧ p ≤ q ∧ q ≤ g (k + 1)) ∧ (g (k + 1) ≤ g k → p ≤ g k ∧ q ≤ p ∧ g (k + 1) ≤ q) := by
  obtain ⟨h1, h2, h3, h4⟩ := rerr_fine he
  have h5 := h4 (k + 1) (by omega) (by omega)
  rw [Nat.add_sub_cancel] at h5
  obtain ⟨⟨a0, a1⟩, a2, a3⟩ := h3 k (by omega)
  obtain ⟨⟨b0, b1⟩, b2, b3⟩ := h3 (k + 1) (by omega)
  refine ⟨_, _, rate_seg he hk r0 (by omega), rate_seg he hk (by omega) r1, ?_, ?_⟩
  all_goals
    intro h
    obtain ⟨_, u1, u2⟩ := md_part (g (k + 1) - g k) (x - f k) (f (k + 1) - f k) (by omega) (by omega) (by omega) (by omega) (by omega) (by omega)
    obtain ⟨_, v1, v2⟩ := md_part (g (k + 1) - g k) (y - f k) (f (k + 1) - f k) (by omega) (by omega) (by omega) (by omega) (by omega) (by omega)
    obtain ⟨w1, w2⟩ := md_rises (g (k + 1) - g k) (x - f k) (y - f k) (f (k + 1) - f k) (by omega) (by omega) (by omega) (by omega) (by omega) (by omega) (by omega)
  · have u := u1 (by omega)
    have v := v1 (by omega)
    have w := w1 (by omega)
    omega
  · have u := u2 (by omega)
    have v := v2 (by omega)
    have w := w2 (by omega)
    omega
end
end Go.Proofs.Ytedkdflecdggpaa.Co
