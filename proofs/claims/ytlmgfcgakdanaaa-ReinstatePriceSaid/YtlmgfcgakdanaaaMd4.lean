/- The rounded quotient with HalfUp, of amounts that are not negative, as one division. No program in sight. -/
import Derived.Test.YtlmgfcgakdanaaaAmMath
namespace Go.Proofs.Ytlmgfcgakdanaaa.Am

def hu (p d : Int) : Int := (2 * p + d) / (2 * d)

theorem hu_mono {p q d : Int} (hd : 0 < d) (h : p ≤ q) : hu p d ≤ hu q d := Int.ediv_le_ediv (by omega) (by omega)

theorem hu_add (p k d : Int) (hd : 0 < d) : hu (p + k * d) d = hu p d + k := by
  unfold hu
  rw [show 2 * (p + k * d) + d = (2 * p + d) + k * (2 * d) by
    rw [Int.mul_add, show 2 * (k * d) = k * (2 * d) by rw [← Int.mul_assoc, Int.mul_comm 2 k, Int.mul_assoc]]; omega]
  exact Int.add_mul_ediv_right _ _ (by omega)

theorem hu_nonneg {p d : Int} (hd : 0 < d) (h : 0 ≤ p) : 0 ≤ hu p d := Int.ediv_nonneg (by omega) (by omega)

theorem hu_zero (d : Int) (hd : 0 < d) : hu 0 d = 0 := by
  unfold hu
  rw [Int.ediv_eq_zero_of_lt] <;> omega

theorem mag_hu (a num den : Int) (a0 : 0 ≤ a) (d0 : 1 ≤ den) : mag a num den 4 = hu (a * num) den := by
  unfold mag
  rw [show absI a = a by unfold absI; rw [if_neg (by omega)]]
  obtain ⟨p, hp⟩ : ∃ p, a * num = p := ⟨_, rfl⟩
  rw [hp]
  have hdm := Int.mul_ediv_add_emod p den
  have hr0 := Int.emod_nonneg p (show den ≠ 0 by omega)
  have hr1 := Int.emod_lt_of_pos p (show 0 < den by omega)
  have e : p = p % den + (p / den) * den := by rw [Int.mul_comm]; omega
  obtain ⟨r, hr⟩ : ∃ r, p % den = r := ⟨_, rfl⟩
  obtain ⟨q, hq⟩ : ∃ q, p / den = q := ⟨_, rfl⟩
  rw [hr, hq] at e
  rw [hr] at hr0 hr1
  rw [hr, hq, e, hu_add r q den (by omega)]
  have h4 : awayB q r den (decide (a < 0)) 4 = decide (r ≠ 0 ∧ den ≤ 2 * r) := by
    unfold awayB
    by_cases hz : r = 0
    · simp [hz]
    · simp [hz]
  rw [h4]
  by_cases c : den ≤ 2 * r
  · rw [if_pos (by simp; omega)]
    have : hu r den = 1 := by
      unfold hu
      have h1 : (2 * r + den) = (2 * r - den) + 1 * (2 * den) := by omega
      rw [h1, Int.add_mul_ediv_right _ _ (by omega), Int.ediv_eq_zero_of_lt (by omega) (by omega)]
      rfl
    omega
  · rw [if_neg (by simp; omega)]
    have : hu r den = 0 := by
      unfold hu
      rw [Int.ediv_eq_zero_of_lt] <;> omega
    omega

/-- the quotient, where nothing is out of range -/
theorem md_hu (a num den : Int) (a0 : 0 ≤ a) (a1 : a ≤ 17592186044416) (n0 : 0 ≤ num) (n1 : num ≤ 17592186044416) (d0 : 1 ≤ den) (d1 : den ≤ 17592186044416) :
    md a num den 4 = if 17592186044416 < hu (a * num) den then (0, 3) else (hu (a * num) den, 0) := by
  have h2 : validB a = true ∧ factorB num = true ∧ factorB den = true := ⟨(validB_iff a).2 ⟨by omega, a1⟩, (factorB_iff num).2 ⟨n0, n1⟩, (factorB_iff den).2 ⟨by omega, d1⟩⟩
  have e := mag_hu a num den a0 d0
  by_cases h : 17592186044416 < hu (a * num) den
  · rw [if_pos h, md_over (by omega) h2 (by omega) (by rw [e]; exact h)]
  · rw [if_neg h, md_ok (by omega) h2 (by omega) (by rw [e]; exact h), if_neg (by omega), e]

theorem hu_part (a num den : Int) (a0 : 0 ≤ a) (n0 : 0 ≤ num) (n1 : num ≤ den) (d0 : 1 ≤ den) : 0 ≤ hu (a * num) den ∧ hu (a * num) den ≤ a := by
  refine ⟨hu_nonneg (by omega) (Int.mul_nonneg a0 n0), ?_⟩
  have h1 : a * num ≤ 0 + a * den := by rw [Int.zero_add]; exact Int.mul_le_mul_of_nonneg_left n1 a0
  have h2 := hu_mono (d := den) (by omega) h1
  rw [hu_add _ _ _ (by omega), hu_zero _ (by omega)] at h2
  omega

/-- a greater amount has a greater rest -/
theorem rest_mono (a b num den : Int) (h : a ≤ b) (n1 : num ≤ den) (d0 : 1 ≤ den) : a - hu (a * num) den ≤ b - hu (b * num) den := by
  have h1 : b * num ≤ a * num + (b - a) * den := by
    have : b * num = a * num + (b - a) * num := by rw [← Int.add_mul]; congr 1; omega
    rw [this]
    have := Int.mul_le_mul_of_nonneg_left n1 (show 0 ≤ b - a by omega)
    omega
  have h2 := hu_mono (d := den) (by omega) h1
  rw [hu_add _ _ _ (by omega)] at h2
  omega
end Go.Proofs.Ytlmgfcgakdanaaa.Am
