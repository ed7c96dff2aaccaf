/- Plain laws of the rounded quotient: the opposite, exact quotients, order; no program in sight. -/
import Derived.Test.YtageedgbkaknnaaAmMath
namespace Go.Proofs.Ytageedgbkaknnaa.Am

theorem md_parts {a num den m : Int} (h : (md a num den m).2 = 0) :
    ¬ (m < 1 ∨ 5 < m) ∧ (validB a = true ∧ factorB num = true ∧ factorB den = true) ∧ ¬ den = 0 ∧ ¬ 17592186044416 < mag a num den m ∧
    (md a num den m).1 = if a < 0 then -mag a num den m else mag a num den m := by
  by_cases h1 : m < 1 ∨ 5 < m
  · rw [md_mode h1] at h; simp at h
  by_cases h2' : ¬ (validB a = true ∧ factorB num = true ∧ factorB den = true)
  · rw [md_range h1 h2'] at h; simp at h
  have h2 := Classical.not_not.1 h2'
  by_cases h3 : den = 0
  · rw [md_zero h1 h2 h3] at h; simp at h
  by_cases h4 : 17592186044416 < mag a num den m
  · rw [md_over h1 h2 h3 h4] at h; simp at h
  exact ⟨h1, h2, h3, h4, by rw [md_ok h1 h2 h3 h4]⟩

def opp (m : Int) : Int := if m = 2 then 3 else if m = 3 then 2 else m

theorem absI_neg (a : Int) : absI (-a) = absI a := by unfold absI; split <;> split <;> omega
theorem validB_neg (a : Int) : validB (-a) = validB a := by
  have h1 := validB_iff a
  have h2 := validB_iff (-a)
  cases h : validB a <;> cases h' : validB (-a) <;> simp [h, h'] at h1 h2 ⊢ <;> omega

theorem awayB_opp (q r d : Int) (n1 n2 : Bool) (m : Int) (h : r = 0 ∨ n2 = !n1) : awayB q r d n2 (opp m) = awayB q r d n1 m := by
  unfold awayB opp
  rcases h with h | h
  · simp [h]
  · subst h
    by_cases h2 : m = 2
    · simp [h2]
    by_cases h3 : m = 3
    · simp [h3]
    simp only [h2, h3, if_false]

theorem md_opp (a num den m : Int) : md (-a) num den (opp m) = (-(md a num den m).1, (md a num den m).2) := by
  have hom : (opp m < 1 ∨ 5 < opp m) ↔ (m < 1 ∨ 5 < m) := by unfold opp; split <;> (try split) <;> omega
  by_cases h1 : m < 1 ∨ 5 < m
  · rw [md_mode h1, md_mode (hom.2 h1)]; rfl
  have h1' := fun c => h1 (hom.1 c)
  by_cases h2' : ¬ (validB a = true ∧ factorB num = true ∧ factorB den = true)
  · rw [md_range h1 h2', md_range h1' (by rw [validB_neg]; exact h2')]; rfl
  have h2 := Classical.not_not.1 h2'
  have h2n : validB (-a) = true ∧ factorB num = true ∧ factorB den = true := by rw [validB_neg]; exact h2
  by_cases h3 : den = 0
  · rw [md_zero h1 h2 h3, md_zero h1' h2n h3]; rfl
  have hz : a = 0 → absI a * num = 0 := fun h => by subst h; simp [absI]
  have hmag : mag (-a) num den (opp m) = mag a num den m := by
    unfold mag
    rw [absI_neg, awayB_opp]
    by_cases ha : a = 0
    · left; rw [hz ha]; simp
    · right; by_cases h : a < 0
      · simp [h]; omega
      · simp [h]; omega
  have hm0 : a = 0 → mag a num den m = 0 := fun h => by
    unfold mag; rw [hz h]; simp [awayB]
  by_cases h4 : 17592186044416 < mag a num den m
  · rw [md_over h1 h2 h3 h4, md_over h1' h2n h3 (by rw [hmag]; exact h4)]; rfl
  rw [md_ok h1 h2 h3 h4, md_ok h1' h2n h3 (by rw [hmag]; exact h4), hmag]
  simp only [Prod.mk.injEq, and_true]
  split <;> split <;> omega

theorem md_exact (a num den m q : Int) (hm : ¬ (m < 1 ∨ 5 < m)) (hv : validB a = true ∧ factorB num = true ∧ factorB den = true) (hd : 1 ≤ den) (hq : absI a * num = q * den) (q1 : q ≤ 17592186044416) :
    md a num den m = (if a < 0 then -q else q, 0) := by
  have e1 : absI a * num / den = q := by rw [hq]; exact Int.mul_ediv_cancel _ (by omega)
  have e2 : absI a * num % den = 0 := by rw [hq]; exact Int.mul_emod_left _ _
  have hmag : mag a num den m = q := by unfold mag; rw [e1, e2]; simp [awayB]
  rw [md_ok hm hv (by omega) (by rw [hmag]; omega), hmag]

/-- how far a rounded quotient lies from the exact one -/
theorem md_dist (x num den m n : Int) (h : md x num den m = (n, 0)) :
    (1 ≤ m ∧ m ≤ 5) ∧ 1 ≤ den ∧ 0 ≤ num ∧ ((0 ≤ x → 0 ≤ n) ∧ (x ≤ 0 → n ≤ 0)) ∧ (x * num - n * den < den ∧ -(x * num - n * den) < den) ∧
      (m = 1 → (0 ≤ x → 0 ≤ x * num - n * den) ∧ (x ≤ 0 → x * num - n * den ≤ 0)) ∧ (m = 2 → 0 ≤ x * num - n * den) ∧ (m = 3 → x * num - n * den ≤ 0) ∧
      (m = 4 ∨ m = 5 → 2 * (x * num - n * den) ≤ den ∧ -2 * (x * num - n * den) ≤ den) ∧ (x * num = 0 → n = 0) := by
  obtain ⟨hm, hv, hd, hle, hn⟩ := md_parts (a := x) (num := num) (den := den) (m := m) (by rw [h])
  rw [h] at hn
  simp only at hn
  have n0 := ((factorB_iff num).1 hv.2.1).1
  have d0 := ((factorB_iff den).1 hv.2.2).1
  have hp0 : 0 ≤ absI x * num := Int.mul_nonneg (absI_nonneg x) n0
  have hxn : x * num = if x < 0 then -(absI x * num) else absI x * num := by
    unfold absI
    by_cases h : x < 0
    · simp only [h, if_true]; rw [Int.neg_mul, Int.neg_neg]
    · simp only [h, if_false]
  have hx0 : x = 0 → absI x * num = 0 := fun h => by subst h; simp [absI]
  have hdm := Int.mul_ediv_add_emod (absI x * num) den
  have hr0 := Int.emod_nonneg (absI x * num) (show den ≠ 0 by omega)
  have hr1 := Int.emod_lt_of_pos (absI x * num) (show 0 < den by omega)
  have hq0 : 0 ≤ absI x * num / den := Int.ediv_nonneg hp0 (by omega)
  have hmag : mag x num den m = absI x * num / den + (if awayB (absI x * num / den) (absI x * num % den) den (decide (x < 0)) m then 1 else 0) := rfl
  have hpz : absI x * num = 0 → absI x * num / den = 0 ∧ absI x * num % den = 0 := fun h => by rw [h]; simp
  rw [hxn]
  generalize absI x * num = p at *
  generalize p / den = q at *
  generalize p % den = r at *
  have hqd : (q + 1) * den = den * q + den := by rw [Int.add_mul, Int.one_mul, Int.mul_comm]
  have hqd0 : q * den = den * q := Int.mul_comm _ _
  have key : ∀ (g : Int), (if x < 0 then -g else g) * den = if x < 0 then -(g * den) else g * den := fun g => by
    split
    · rw [Int.neg_mul]
    · rfl
  rw [hn, hmag, key]
  refine ⟨by omega, by omega, n0, ?_⟩
  cases haw : awayB q r den (decide (x < 0)) m
  · simp only [Bool.false_eq_true, if_false, Int.add_zero]
    rw [hqd0]
    unfold awayB at haw
    have hc2 : m = 2 → r = 0 ∨ ¬ x < 0 := by
      rintro rfl
      by_cases hr00 : r = 0
      · exact .inl hr00
      · simp [hr00] at haw; omega
    have hc3 : m = 3 → r = 0 ∨ x < 0 := by
      rintro rfl
      by_cases hr00 : r = 0
      · exact .inl hr00
      · simp [hr00] at haw; omega
    have hc4 : m = 4 ∨ m = 5 → 2 * r ≤ den := by
      rintro (rfl | rfl)
      · by_cases hr00 : r = 0
        · omega
        · simp [hr00] at haw; omega
      · by_cases hr00 : r = 0
        · omega
        · simp only [hr00, if_false] at haw
          by_cases h2 : 2 * r = den
          · omega
          · simp [h2] at haw; omega
    clear haw key hmag hn hle h hv hm
    by_cases hx : x < 0
    · rw [if_pos hx, if_pos hx, if_pos hx]
      refine ⟨by omega, by omega, by omega, by omega, by omega, by omega, by omega⟩
    · rw [if_neg hx, if_neg hx, if_neg hx]
      refine ⟨by omega, by omega, by omega, by omega, by omega, by omega, by omega⟩
  · simp only [if_true]
    rw [hqd]
    unfold awayB at haw
    have hr00 : ¬ r = 0 := fun h => by simp [h] at haw
    simp only [hr00, if_false] at haw
    have hc1 : ¬ m = 1 := by rintro rfl; simp at haw
    have hc2 : m = 2 → x < 0 := by rintro rfl; simpa using haw
    have hc3 : m = 3 → ¬ x < 0 := by rintro rfl; simpa using haw
    have hc4 : m = 4 ∨ m = 5 → den ≤ 2 * r := by
      rintro (rfl | rfl)
      · simpa using haw
      · by_cases h2 : 2 * r = den
        · omega
        · simp [h2] at haw; omega
    clear haw key hmag hn hle h hv hm
    by_cases hx : x < 0
    · rw [if_pos hx, if_pos hx, if_pos hx]
      refine ⟨by omega, by omega, by omega, by omega, by omega, by omega, by omega⟩
    · rw [if_neg hx, if_neg hx, if_neg hx]
      refine ⟨by omega, by omega, by omega, by omega, by omega, by omega, by omega⟩

theorem md_mono (a b num den m n k : Int) (hab : a ≤ b) (ha : md a num den m = (n, 0)) (hb : md b num den m = (k, 0)) : n ≤ k := by
  by_cases hlt : n ≤ k
  · exact hlt
  exfalso
  by_cases e : a = b
  · subst e; rw [ha] at hb; simp at hb; omega
  obtain ⟨⟨m0, m1⟩, d0, n0, ⟨s1, s2⟩, ⟨b1, b2⟩, c1, c2, c3, c4, c5⟩ := md_dist a num den m n ha
  obtain ⟨-, -, -, ⟨t1, t2⟩, ⟨g1, g2⟩, f1, f2, f3, f4, f5⟩ := md_dist b num den m k hb
  have hAB : a * num ≤ b * num := Int.mul_le_mul_of_nonneg_right hab n0
  have hstep : k * den + den ≤ n * den := by
    have : (k + 1) * den ≤ n * den := Int.mul_le_mul_of_nonneg_right (by omega) (by omega)
    rw [Int.add_mul, Int.one_mul] at this
    exact this
  have hz : num = 0 ∨ a * num < b * num := by
    by_cases h : num = 0
    · exact .inl h
    · exact .inr (Int.mul_lt_mul_of_pos_right (by omega) (by omega))
  rcases hz with hz | hz
  · have ea : n = 0 := c5 (by rw [hz]; simp)
    have eb : k = 0 := f5 (by rw [hz]; simp)
    omega
  · generalize a * num = A at *
    generalize b * num = B at *
    generalize n * den = X at *
    generalize k * den = Y at *
    obtain rfl | rfl | rfl | h45 : m = 1 ∨ m = 2 ∨ m = 3 ∨ (m = 4 ∨ m = 5) := by omega
    · have c1 := c1 rfl
      have f1 := f1 rfl
      omega
    · have c2 := c2 rfl
      have f2 := f2 rfl
      omega
    · have c3 := c3 rfl
      have f3 := f3 rfl
      omega
    · have c4 := c4 h45
      have f4 := f4 h45
      omega

/-- the order of the five modes, for amounts that are not negative -/
def nextMode (m : Int) : Int := if m = 2 then 1 else if m = 1 then 5 else if m = 5 then 4 else 3

theorem md_order (a num den m n k : Int) (ha : 0 ≤ a) (hm : m = 2 ∨ m = 1 ∨ m = 5 ∨ m = 4) (h1 : md a num den m = (n, 0)) (h2 : md a num den (nextMode m) = (k, 0)) : n ≤ k := by
  obtain ⟨-, hv, hd, -, hn⟩ := md_parts (a := a) (num := num) (den := den) (m := m) (by rw [h1])
  obtain ⟨-, -, -, -, hk⟩ := md_parts (a := a) (num := num) (den := den) (m := nextMode m) (by rw [h2])
  rw [h1] at hn
  rw [h2] at hk
  have d0 := ((factorB_iff den).1 hv.2.2).1
  have na : ¬ a < 0 := by omega
  simp only [na, if_false] at hn hk
  subst hn hk
  unfold mag
  generalize absI a * num / den = q
  generalize absI a * num % den = r
  have key : awayB q r den (decide (a < 0)) m = true → awayB q r den (decide (a < 0)) (nextMode m) = true := by
    unfold awayB
    simp only [na, decide_false]
    by_cases hr : r = 0
    · simp [hr]
    · simp only [hr, if_false]
      rcases hm with rfl | rfl | rfl | rfl
      · simp
      · simp
      · simp only [nextMode]
        by_cases h2 : 2 * r = den
        · simp [h2]
        · simp [h2]
      · simp [nextMode]
  cases e1 : awayB q r den (decide (a < 0)) m <;> cases e2 : awayB q r den (decide (a < 0)) (nextMode m) <;> simp [e1, e2] at key ⊢ <;> omega
end Go.Proofs.Ytageedgbkaknnaa.Am
