/- Plain laws of the rounded quotient; no program in sight. -/
import Derived.Test.YtgdlnackpfbmbaaAmMath
namespace Go.Proofs.Ytgdlnackpfbmbaa.Am

theorem tdiv_pos (a k : Int) (h : 0 ≤ a) : a.tdiv k = a / k := Int.tdiv_eq_ediv_of_nonneg h
theorem tdiv_neg (a k : Int) (h : a < 0) : a.tdiv k = -(-a / k) := by
  have : a = -(-a) := by omega
  rw [this, Int.neg_tdiv, Int.tdiv_eq_ediv_of_nonneg (by omega), Int.neg_neg]

theorem tdiv16 (a : Int) (h0 : -2147483648 ≤ a) (h1 : a ≤ 2147483647) : -134217728 ≤ a.tdiv 16 ∧ a.tdiv 16 ≤ 134217728 := by
  by_cases h : 0 ≤ a
  · rw [tdiv_pos a 16 h]; omega
  · rw [tdiv_neg a 16 (by omega)]; omega

theorem tmod2 (n : Int) (h : n % 2 = 0) : n.tmod 2 = 0 := Int.tmod_eq_zero_of_dvd (Int.dvd_of_emod_eq_zero h)

/-- small numbers: the quotient exists -/
theorem md_near (x num den m : Int) (m0 : 1 ≤ m) (m1 : m ≤ 5) (x0 : -134217728 ≤ x) (x1 : x ≤ 134217728) (n0 : 0 ≤ num) (n1 : num ≤ 65535) (d0 : 1 ≤ den) (d1 : den ≤ 65535) :
    ∃ n d : Int, md x num den m = (n, 0) ∧ x * num - n * den = d ∧ (d < den ∧ -d < den) ∧ (-8796093022209 ≤ n ∧ n ≤ 8796093022209) ∧
      (m = 1 → (0 ≤ x ∧ 0 ≤ d) ∨ (x < 0 ∧ d ≤ 0)) ∧ (m = 2 → 0 ≤ d) ∧ (m = 3 → d ≤ 0) ∧ (m = 4 → 2 * d ≤ den ∧ -2 * d ≤ den) ∧
      (m = 5 → (2 * d ≤ den ∧ -2 * d ≤ den) ∧ ((2 * d ≠ den ∧ -2 * d ≠ den) ∨ n % 2 = 0)) := by
  have hm : ¬ (m < 1 ∨ 5 < m) := by omega
  have hv : validB x = true ∧ factorB num = true ∧ factorB den = true :=
    ⟨(validB_iff x).2 ⟨by omega, by omega⟩, (factorB_iff num).2 ⟨by omega, by omega⟩, (factorB_iff den).2 ⟨by omega, by omega⟩⟩
  have hp0 : 0 ≤ absI x * num := Int.mul_nonneg (absI_nonneg x) n0
  have hp1 : absI x * num ≤ 134217728 * 65535 := Int.mul_le_mul (by unfold absI; split <;> omega) n1 n0 (by omega)
  have hxn : x * num = if x < 0 then -(absI x * num) else absI x * num := by
    unfold absI
    by_cases h : x < 0
    · simp only [h, if_true]; rw [Int.neg_mul, Int.neg_neg]
    · simp only [h, if_false]
  have hx0 : x = 0 → absI x * num = 0 := fun h => by subst h; simp [absI]
  have hdm := Int.mul_ediv_add_emod (absI x * num) den
  have hr0 := Int.emod_nonneg (absI x * num) (show den ≠ 0 by omega)
  have hr1 := Int.emod_lt_of_pos (absI x * num) (show 0 < den by omega)
  have hq0 : 0 ≤ absI x * num / den := Int.ediv_nonneg hp0 (by omega)
  have hq1 : absI x * num / den ≤ absI x * num := Int.ediv_le_self _ hp0
  have hmag : mag x num den m = absI x * num / den + (if awayB (absI x * num / den) (absI x * num % den) den (decide (x < 0)) m then 1 else 0) := rfl
  rw [hxn]
  generalize absI x * num = p at *
  generalize hq : p / den = q at *
  generalize hr : p % den = r at *
  have hle : ¬ 17592186044416 < mag x num den m := by rw [hmag]; split <;> omega
  have hqd : (q + 1) * den = den * q + den := by rw [Int.add_mul, Int.one_mul, Int.mul_comm]
  have hqd0 : q * den = den * q := Int.mul_comm _ _
  refine ⟨_, _, md_ok hm hv (by omega) hle, rfl, ?_⟩
  rw [hmag]
  have key : ∀ (g : Int), (if x < 0 then -g else g) * den = if x < 0 then -(g * den) else g * den := fun g => by
    split
    · rw [Int.neg_mul]
    · rfl
  rw [key]
  cases haw : awayB q r den (decide (x < 0)) m
  · simp only [Bool.false_eq_true, if_false, Int.add_zero]
    rw [hqd0]
    unfold awayB at haw
    by_cases hx : x < 0
    · simp only [hx, if_true, decide_true] at *
      refine ⟨by omega, by omega, (fun _ => by right; constructor <;> first | trivial | omega), ?_, by omega, ?_, ?_⟩
      · rintro rfl
        by_cases hr00 : r = 0
        · omega
        · simp [hr00] at haw
      · rintro rfl
        by_cases hr00 : r = 0
        · omega
        · simp [hr00] at haw; omega
      · rintro rfl
        by_cases hr00 : r = 0
        · omega
        · simp only [hr00, if_false] at haw
          by_cases h2 : 2 * r = den
          · simp [h2] at haw; omega
          · simp [h2] at haw; omega
    · have hx' : 0 ≤ x := by omega
      simp only [hx, if_false, decide_false] at *
      refine ⟨by omega, by omega, (fun _ => by left; constructor <;> omega), by omega, ?_, ?_, ?_⟩
      · rintro rfl
        by_cases hr00 : r = 0
        · omega
        · simp [hr00] at haw
      · rintro rfl
        by_cases hr00 : r = 0
        · omega
        · simp [hr00] at haw; omega
      · rintro rfl
        by_cases hr00 : r = 0
        · omega
        · simp only [hr00, if_false] at haw
          by_cases h2 : 2 * r = den
          · simp [h2] at haw; omega
          · simp [h2] at haw; omega
  · simp only [if_true]
    rw [hqd]
    unfold awayB at haw
    have hr00 : ¬ r = 0 := fun h => by simp [h] at haw
    simp only [hr00, if_false] at haw
    by_cases hx : x < 0
    · simp only [hx, if_true, decide_true] at *
      refine ⟨by omega, by omega, ?_, by omega, ?_, ?_, ?_⟩
      · rintro rfl; simp at haw
      · rintro rfl; simp at haw
      · rintro rfl; simp at haw; omega
      · rintro rfl
        by_cases h2 : 2 * r = den
        · simp [h2] at haw; omega
        · simp [h2] at haw; omega
    · have hx' : 0 ≤ x := by omega
      simp only [hx, if_false, decide_false] at *
      refine ⟨by omega, by omega, ?_, ?_, by omega, ?_, ?_⟩
      · rintro rfl; simp at haw
      · rintro rfl; simp at haw
      · rintro rfl; simp at haw; omega
      · rintro rfl
        by_cases h2 : 2 * r = den
        · simp [h2] at haw; omega
        · simp [h2] at haw; omega
end Go.Proofs.Ytgdlnackpfbmbaa.Am
