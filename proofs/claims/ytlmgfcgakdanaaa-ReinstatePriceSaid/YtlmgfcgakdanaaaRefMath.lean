/- The plain arithmetic of the reference's division, binary digit by binary digit. -/
import Derived.WalkKit
import Derived.Laws.Bits128
import Derived.Test.YtlmgfcgakdanaaaAmMath
namespace Go.Proofs.Ytlmgfcgakdanaaa.Ref

theorem i64_and1 (n : Int) : bits .and .i64 n 1 = n % 2 := by
  have h1 : (BitVec.ofInt 64 1).toNat = 2 ^ 1 - 1 := by decide
  have key : (BitVec.ofInt 64 n &&& BitVec.ofInt 64 1).toNat = (n % ((2 ^ 64 : Nat) : Int)).toNat % 2 ^ 1 := by
    rw [BitVec.toNat_and, BitVec.toNat_ofInt, h1, Nat.and_two_pow_sub_one_eq_mod]
  show IntKind.i64.wrap ((BitVec.ofInt 64 n &&& BitVec.ofInt 64 1).toNat : Nat) = n % 2
  rw [key, IntKind.wrap_i64]
  omega

def dq (a num den : Int) (j : Nat) : Int := a / 2 ^ j * num / den
def dr (a num den : Int) (j : Nat) : Int := a / 2 ^ j * num % den

theorem half (a : Int) (j : Nat) : a / 2 ^ j = 2 * (a / 2 ^ (j + 1)) + a / 2 ^ j % 2 := by
  rw [Int.pow_succ, ← Int.ediv_ediv_of_nonneg (Int.pow_nonneg (by omega))]
  omega

theorem step (a num den b : Int) (j : Nat) (hd : 0 < den) (hb : a / 2 ^ j % 2 = b) :
    dq a num den j = 2 * dq a num den (j + 1) + (2 * dr a num den (j + 1) + b * num) / den ∧
    dr a num den j = (2 * dr a num den (j + 1) + b * num) % den := by
  unfold dq dr
  have h := half a j
  rw [hb] at h
  rw [h]
  generalize a / 2 ^ (j + 1) = A
  have e := Int.mul_ediv_add_emod (A * num) den
  have e2 : (2 * A + b) * num = (2 * (A * num % den) + b * num) + den * (2 * (A * num / den)) := by
    rw [Int.add_mul, Int.mul_assoc, Int.mul_left_comm den 2]
    generalize A * num % den = r at *
    generalize den * (A * num / den) = t at *
    omega
  rw [e2, Int.add_mul_ediv_left _ _ (by omega), Int.add_mul_emod_self_left]
  exact ⟨by omega, rfl⟩

theorem dr_bound (a num den : Int) (j : Nat) (hd : 0 < den) : 0 ≤ dr a num den j ∧ dr a num den j < den :=
  ⟨Int.emod_nonneg _ (by omega), Int.emod_lt_of_pos _ hd⟩

theorem dq_nonneg (a num den : Int) (j : Nat) (ha : 0 ≤ a) (hn : 0 ≤ num) (hd : 0 < den) : 0 ≤ dq a num den j :=
  Int.ediv_nonneg (Int.mul_nonneg (Int.ediv_nonneg ha (Int.pow_nonneg (by omega))) hn) (by omega)

theorem dq_mono (a num den : Int) (j : Nat) (ha : 0 ≤ a) (hn : 0 ≤ num) (hd : 0 < den) : dq a num den j ≤ a * num / den :=
  Int.ediv_le_ediv hd (Int.mul_le_mul_of_nonneg_right (Int.ediv_le_self _ ha) hn)

theorem dq_zero (a num den : Int) : dq a num den 0 = a * num / den ∧ dr a num den 0 = a * num % den := by
  simp [dq, dr]

theorem dq_top (a num den : Int) (h0 : 0 ≤ a) (h1 : a ≤ 17592186044416) : dq a num den 46 = 0 ∧ dr a num den 46 = 0 := by
  have : a / 2 ^ 46 = 0 := Int.ediv_eq_zero_of_lt h0 (by omega)
  unfold dq dr
  rw [this]; simp

/-- the quotient that one round adds -/
theorem add_bound (x den : Int) (hx : 0 ≤ x) (hx2 : x ≤ 9024791440785408) (hd : 1 ≤ den) : 0 ≤ x / den ∧ x / den ≤ 9024791440785408 :=
  ⟨Int.ediv_nonneg hx (by omega), Int.le_trans (Int.ediv_le_self _ hx) hx2⟩

/-- what up answers -/
theorem up_eq (q r den m : Int) (neg : Bool) (h0 : 0 ≤ r) (h1 : 1 ≤ den) :
    Am.awayB q r den neg m = (if m = 2 then neg && decide (0 < r) else if m = 3 then !neg && decide (0 < r) else if m = 4 then decide (den ≤ 2 * r)
      else if m = 5 then (decide (den < 2 * r) || (decide (2 * r = den) && (q % 2 == 1))) else false) := by
  unfold Am.awayB
  by_cases hr : r = 0
  · subst hr
    have h3 : ¬ den ≤ 2 * 0 := by omega
    have h4 : ¬ den < 2 * 0 := by omega
    have h5 : ¬ (2 * 0 = den) := by omega
    simp only [if_true, h3, h4, h5]
    cases neg <;> simp
  · rw [if_neg hr]
    have hr' : 0 < r := by omega
    by_cases h2 : m = 2
    · simp [h2, hr']
    by_cases h3 : m = 3
    · simp [h3, hr']
    by_cases h4 : m = 4
    · simp [h4]
    by_cases h5 : m = 5
    · simp only [h5, if_true]
      by_cases h6 : 2 * r = den
      · have : ¬ den < 2 * r := by omega
        simp [h6]
      · have : decide (den ≤ 2 * r) = decide (den < 2 * r) := by simp; omega
        simp [h6, this]
    · simp [h2, h3, h4, h5]
end Go.Proofs.Ytlmgfcgakdanaaa.Ref
