/- Sliding and the accounts of profit in plain words. No program in sight. -/
import Derived.Test.YtedkdflecdggpaaCoMath2
namespace Go.Proofs.Ytedkdflecdggpaa.Co

theorem part_le {a x : Int} (a0 : 0 ≤ a) (x0 : 0 ≤ x) (x1 : x ≤ 1000000) : 0 ≤ part a x ∧ part a x ≤ a := Am.hu_part a x 1000000 a0 x0 x1 (by omega)

theorem ratio_fine {p l : Int} (h : (ratio p l).2 = 0) : lossP p ∧ lossP l ∧ 0 ≤ (ratio p l).1 ∧ (ratio p l).1 ≤ 100000000 := by
  unfold ratio at h ⊢
  by_cases c : lossP p ∧ lossP l
  · rw [if_neg (fun x => x c)] at h ⊢
    refine ⟨c.1, c.2, ?_⟩
    obtain ⟨⟨p0, _⟩, l0, _⟩ := c
    by_cases c1 : l = 0
    · rw [if_pos c1]; simp
    · rw [if_neg c1]
      by_cases c2 : p = 0
      · rw [if_pos c2]; simp
      · rw [if_neg c2]
        have : 0 ≤ l * 1000000 / p := Int.ediv_nonneg (by omega) p0
        simp only
        omega
  · rw [if_pos c] at h; simp at h

theorem look_bound {n : Nat} {f g : Nat → Int} {r : Int} (hs : ∀ i, i < n → stepP (f i) (g i)) (ho : ∀ i, 0 < i → i < n → f (i - 1) < f i) :
    ∀ k i, 0 < i → i + k = n → f (i - 1) ≤ r → 0 ≤ look f g r k i ∧ look f g r k i ≤ 1000000 := fun k => by
  induction k with
  | zero =>
    intro i hi hk _
    have := hs (i - 1) (by omega)
    exact ⟨this.2.1, this.2.2⟩
  | succ k ih =>
    intro i hi hk hr
    rw [look]
    by_cases c : r < f i
    · rw [if_pos c, seg]
      obtain ⟨⟨a0, a1⟩, a2, a3⟩ := hs (i - 1) (by omega)
      obtain ⟨⟨b0, b1⟩, b2, b3⟩ := hs i (by omega)
      have hoi := ho i hi (by omega)
      obtain ⟨_, h1, h2⟩ := md_part (g i - g (i - 1)) (r - f (i - 1)) (f i - f (i - 1)) (by omega) (by omega) (by omega) (by omega) (by omega) (by omega)
      rcases Int.le_total 0 (g i - g (i - 1)) with h | h
      · have := h1 h; omega
      · have := h2 h; omega
    · rw [if_neg c]
      exact ih (i + 1) (by omega) (by omega) (by rw [Nat.add_sub_cancel]; omega)

theorem rate_fine {n : Nat} {f g : Nat → Int} {r : Int} (h : (rate n f g r).2 = 0) : 0 ≤ (rate n f g r).1 ∧ (rate n f g r).1 ≤ 1000000 := by
  unfold rate at h ⊢
  by_cases c : rerr n f g = 0
  · obtain ⟨h1, h2, h3, h4⟩ := rerr_fine c
    rw [if_neg (by rw [c]; simp)] at h ⊢
    by_cases c2 : 0 ≤ r ∧ r ≤ 100000000
    · rw [if_neg (fun x => x c2)]
      by_cases c3 : r ≤ f 0
      · rw [if_pos c3]
        have := h3 0 (by omega)
        exact ⟨this.2.1, this.2.2⟩
      · rw [if_neg c3]
        exact look_bound h3 h4 (n - 1) 1 (by omega) (by omega) (by rw [Nat.sub_self]; omega)
    · rw [if_pos c2] at h; simp at h
  · rw [if_pos c] at h; exact absurd h c

/-- the commission of a sliding scale -/
def sliding (n : Nat) (f g : Nat → Int) (p l : Int) : Int × Int :=
  if (ratio p l).2 ≠ 0 then (0, (ratio p l).2) else if (rate n f g (ratio p l).1).2 ≠ 0 then (0, (rate n f g (ratio p l).1).2) else (part p (rate n f g (ratio p l).1).1, 0)
theorem sliding_bound (n : Nat) (f g : Nat → Int) (p l : Int) (p0 : 0 ≤ p) : 0 ≤ (sliding n f g p l).1 ∧ (sliding n f g p l).1 ≤ p := by
  unfold sliding
  split
  · exact ⟨Int.le_refl _, p0⟩
  · split
    · exact ⟨Int.le_refl _, p0⟩
    · rename_i h1 h2
      have h2' : (rate n f g (ratio p l).1).2 = 0 := Classical.not_not.1 h2
      obtain ⟨r0, r1⟩ := rate_fine h2'
      exact part_le p0 r0 r1

/-- the sum of k numbers from place s on -/
def sumr (D : Nat → Int) (s : Nat) : Nat → Int
  | 0 => 0
  | k + 1 => sumr D s k + D (s + k)
/-- what is left of r after k deficits from place s on were set off -/
def rest (D : Nat → Int) (s : Nat) (r : Int) : Nat → Int
  | 0 => r
  | k + 1 => rest D s r k - min (D (s + k)) (rest D s r k)
/-- the deficits after that -/
def offs (D : Nat → Int) (s : Nat) (r : Int) (k : Nat) (j : Nat) : Int := if s ≤ j ∧ j < s + k then D j - min (D j) (rest D s r (j - s)) else D j

theorem sumr_congr {D E : Nat → Int} {s : Nat} : ∀ k, (∀ j, s ≤ j → j < s + k → D j = E j) → sumr D s k = sumr E s k := fun k => by
  induction k with
  | zero => intro _; rfl
  | succ k ih => intro h; rw [sumr, sumr, ih fun j h1 h2 => h j h1 (by omega), h (s + k) (by omega) (by omega)]
theorem sumr_bound {D : Nat → Int} {s : Nat} {M : Int} : ∀ k, (∀ j, 0 ≤ D j ∧ D j ≤ M) → 0 ≤ sumr D s k ∧ sumr D s k ≤ k * M := fun k h => by
  induction k with
  | zero => simp [sumr]
  | succ k ih =>
    rw [sumr]
    have := h (s + k)
    have e : ((k + 1 : Nat) : Int) * M = k * M + M := by rw [Int.natCast_add, Int.add_mul]; simp
    rw [e]
    omega
theorem rest_bound {D : Nat → Int} {s : Nat} {r : Int} (hr : 0 ≤ r) (hD : ∀ j, 0 ≤ D j) : ∀ k, 0 ≤ rest D s r k ∧ rest D s r k ≤ r := fun k => by
  induction k with
  | zero => exact ⟨hr, Int.le_refl _⟩
  | succ k ih =>
    rw [rest]
    have := hD (s + k)
    omega
theorem offs_bound {D : Nat → Int} {s : Nat} {r M : Int} (hr : 0 ≤ r) (hD : ∀ j, 0 ≤ D j ∧ D j ≤ M) (k j : Nat) : 0 ≤ offs D s r k j ∧ offs D s r k j ≤ M := by
  unfold offs
  have h1 := hD j
  have h2 := rest_bound (s := s) hr (fun j => (hD j).1) (j - s)
  split <;> omega
theorem offs_zero (D : Nat → Int) (s : Nat) (r : Int) (j : Nat) : offs D s r 0 j = D j := by
  rw [offs, if_neg (by omega)]
theorem offs_at (D : Nat → Int) (s : Nat) (r : Int) (k : Nat) : offs D s r k (s + k) = D (s + k) := by
  rw [offs, if_neg (by omega)]
/-- one deficit more is set off -/
theorem offs_succ (D : Nat → Int) (s : Nat) (r : Int) (k j : Nat) : offs D s r (k + 1) j = if j = s + k then D (s + k) - min (D (s + k)) (rest D s r k) else offs D s r k j := by
  by_cases e : j = s + k
  · rw [if_pos e, offs, if_pos (by omega), e, Nat.add_sub_cancel_left]
  · rw [if_neg e, offs, offs]
    by_cases c : s ≤ j ∧ j < s + k
    · rw [if_pos c, if_pos (by omega)]
    · rw [if_neg c, if_neg (by omega)]

section
variable (p l : Nat → Int) (x : Int) (c : Nat)
/-- the result of a year -/
def res (i : Nat) : Int := p i - l i - part (p i) x
/-- what is left of the deficits ahead of year i -/
def defs : Nat → Nat → Int
  | 0, _ => 0
  | i + 1, j => if j = i then max 0 (-res p l x i) else offs (fun j => defs i j) (i - c) (max 0 (res p l x i)) (i - (i - c)) j
def brought (i : Nat) : Int := sumr (defs p l x c i) (i - c) (i - (i - c))
def left (i : Nat) : Int := rest (defs p l x c i) (i - c) (max 0 (res p l x i)) (i - (i - c))
def comm (rt : Int) (i : Nat) : Int := part (left p l x c i) rt
def carried (i : Nat) : Int := sumr (defs p l x c (i + 1)) (i + 1 - c) (i + 1 - (i + 1 - c))
end

def rateP (n : Int) : Prop := 0 ≤ n ∧ n ≤ 1000000
instance (n : Int) : Decidable (rateP n) := inferInstanceAs (Decidable (_ ∧ _))
def carryP (n : Int) : Prop := 0 ≤ n ∧ n ≤ 20
instance (n : Int) : Decidable (carryP n) := inferInstanceAs (Decidable (_ ∧ _))
def yearP (p l : Nat → Int) (i : Nat) : Prop := lossP (p i) ∧ lossP (l i)
instance (p l : Nat → Int) (i : Nat) : Decidable (yearP p l i) := inferInstanceAs (Decidable (_ ∧ _))
def yc (p l : Nat → Int) (i : Nat) : Int := if yearP p l i then 0 else 1
def perr (n : Nat) (p l : Nat → Int) (x rt cr : Int) : Int := if 20 < n then 4 else if ¬ (rateP x ∧ rateP rt ∧ carryP cr) then 1 else scan (yc p l) n 0
/-- the account of year i: brought, result, commission, carried -/
def acct (p l : Nat → Int) (x rt : Int) (c : Nat) (i k : Nat) : Int :=
  if k = 0 then brought p l x c i else if k = 1 then res p l x i else if k = 2 then comm p l x c rt i else carried p l x c i

theorem perr_fine {n : Nat} {p l : Nat → Int} {x rt cr : Int} (h : perr n p l x rt cr = 0) : n ≤ 20 ∧ rateP x ∧ rateP rt ∧ carryP cr ∧ ∀ i, i < n → yearP p l i := by
  unfold perr at h
  by_cases h1 : 20 < n
  · rw [if_pos h1] at h; omega
  rw [if_neg h1] at h
  by_cases h2 : rateP x ∧ rateP rt ∧ carryP cr
  · rw [if_neg (fun c => c h2)] at h
    refine ⟨by omega, h2.1, h2.2.1, h2.2.2, fun i hi => ?_⟩
    have := scan_zero _ _ _ h i (by omega) (by omega)
    unfold yc at this
    by_cases c : yearP p l i
    · exact c
    · rw [if_neg c] at this; omega
  · rw [if_pos h2] at h; omega

section
variable {n : Nat} {p l : Nat → Int} {x : Int} {c : Nat}
theorem res_bound {i : Nat} (h : yearP p l i) (hx : rateP x) : -68719476736 ≤ res p l x i ∧ res p l x i ≤ 68719476736 := by
  obtain ⟨⟨p0, p1⟩, l0, l1⟩ := h
  have := part_le p0 hx.1 hx.2
  unfold res
  omega
theorem defs_bound (hx : rateP x) : ∀ i, (∀ k, k < i → yearP p l k) → ∀ j, 0 ≤ defs p l x c i j ∧ defs p l x c i j ≤ 68719476736 := fun i => by
  induction i with
  | zero => intro _ j; simp [defs]
  | succ i ih =>
    intro h j
    rw [defs]
    have hr := res_bound (h i (by omega)) hx
    split
    · omega
    · exact offs_bound (by omega) (fun j => ih (fun k hk => h k (by omega)) j) _ _
/-- nothing is kept for later years -/
theorem defs_later : ∀ i j, i ≤ j → defs p l x c i j = 0 := fun i => by
  induction i with
  | zero => intro j _; rfl
  | succ i ih =>
    intro j hj
    rw [defs, if_neg (by omega), offs, if_neg (by omega)]
    exact ih j (by omega)
theorem left_bound (hx : rateP x) {i : Nat} (h : ∀ k, k < i + 1 → yearP p l k) : lossP (left p l x c i) := by
  have hr := res_bound (h i (by omega)) hx
  have hd := defs_bound (c := c) hx i fun k hk => h k (by omega)
  have := rest_bound (D := defs p l x c i) (s := i - c) (r := max 0 (res p l x i)) (by omega) (fun j => (hd j).1) (i - (i - c))
  unfold lossP left
  omega
end
end Go.Proofs.Ytedkdflecdggpaa.Co
