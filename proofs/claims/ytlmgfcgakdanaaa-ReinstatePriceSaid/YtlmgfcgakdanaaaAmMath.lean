/- Package amount in plain words: what Valid, Clamp, MulDiv, Share and Sum compute, on integers; no program in sight. -/
import Derived.WalkKit
namespace Go.Proofs.Ytlmgfcgakdanaaa.Am

def validB (a : Int) : Bool := decide (-17592186044416 ≤ a) && decide (a ≤ 17592186044416)
def factorB (a : Int) : Bool := decide (0 ≤ a) && decide (a ≤ 17592186044416)

theorem validB_iff (a : Int) : validB a = true ↔ -17592186044416 ≤ a ∧ a ≤ 17592186044416 := by simp [validB]
theorem factorB_iff (a : Int) : factorB a = true ↔ 0 ≤ a ∧ a ≤ 17592186044416 := by simp [factorB]
theorem validB_false (a : Int) : validB a = false ↔ a < -17592186044416 ∨ 17592186044416 < a := by
  have := validB_iff a; cases h : validB a <;> simp [h] at this ⊢ <;> omega
theorem factorB_false (a : Int) : factorB a = false ↔ a < 0 ∨ 17592186044416 < a := by
  have := factorB_iff a; cases h : factorB a <;> simp [h] at this ⊢ <;> omega

/-- is the absolute value of a quotient rounded up? -/
def awayB (q r d : Int) (neg : Bool) (m : Int) : Bool :=
  if r = 0 then false else if m = 2 then neg else if m = 3 then !neg
  else if m = 5 then (if 2 * r = d then q % 2 == 1 else decide (d ≤ 2 * r)) else if m = 4 then decide (d ≤ 2 * r) else false

def absI (a : Int) : Int := if a < 0 then -a else a

/-- the absolute value of the rounded quotient -/
def mag (a num den m : Int) : Int :=
  absI a * num / den + (if awayB (absI a * num / den) (absI a * num % den) den (decide (a < 0)) m then 1 else 0)

/-- a * num / den, rounded; the error's number -/
def md (a num den m : Int) : Int × Int :=
  if m < 1 ∨ 5 < m then (0, 11)
  else if ¬ (validB a = true ∧ factorB num = true ∧ factorB den = true) then (0, 1)
  else if den = 0 then (0, 2)
  else if 17592186044416 < mag a num den m then (0, 3)
  else (if a < 0 then -mag a num den m else mag a num den m, 0)

theorem md_mode {a num den m : Int} (h : m < 1 ∨ 5 < m) : md a num den m = (0, 11) := by rw [md, if_pos h]
theorem md_range {a num den m : Int} (h : ¬ (m < 1 ∨ 5 < m)) (h2 : ¬ (validB a = true ∧ factorB num = true ∧ factorB den = true)) : md a num den m = (0, 1) := by
  rw [md, if_neg h, if_pos h2]
theorem md_zero {a num den m : Int} (h : ¬ (m < 1 ∨ 5 < m)) (h2 : validB a = true ∧ factorB num = true ∧ factorB den = true) (h3 : den = 0) : md a num den m = (0, 2) := by
  rw [md, if_neg h, if_neg (fun c => c h2), if_pos h3]
theorem md_over {a num den m : Int} (h : ¬ (m < 1 ∨ 5 < m)) (h2 : validB a = true ∧ factorB num = true ∧ factorB den = true) (h3 : ¬ den = 0)
    (h4 : 17592186044416 < mag a num den m) : md a num den m = (0, 3) := by
  rw [md, if_neg h, if_neg (fun c => c h2), if_neg h3, if_pos h4]
theorem md_ok {a num den m : Int} (h : ¬ (m < 1 ∨ 5 < m)) (h2 : validB a = true ∧ factorB num = true ∧ factorB den = true) (h3 : ¬ den = 0)
    (h4 : ¬ 17592186044416 < mag a num den m) : md a num den m = (if a < 0 then -mag a num den m else mag a num den m, 0) := by
  rw [md, if_neg h, if_neg (fun c => c h2), if_neg h3, if_neg h4]

theorem absI_nonneg (a : Int) : 0 ≤ absI a := by unfold absI; split <;> omega
theorem absI_le {a : Int} (h : validB a = true) : absI a ≤ 17592186044416 := by
  rw [validB_iff] at h; unfold absI; split <;> omega

theorem mul_bound {x y : Int} (h0 : 0 ≤ x) (h1 : x ≤ 17592186044416) (k0 : 0 ≤ y) (k1 : y ≤ 17592186044416) : 0 ≤ x * y ∧ x * y ≤ 17592186044416 * 17592186044416 :=
  ⟨Int.mul_nonneg h0 k0, Int.mul_le_mul h1 k1 k0 (by omega)⟩

/-- the result of md is a valid amount -/
theorem md_valid (a num den m : Int) : -17592186044416 ≤ (md a num den m).1 ∧ (md a num den m).1 ≤ 17592186044416 ∧ 0 ≤ (md a num den m).2 ∧ (md a num den m).2 ≤ 11 := by
  by_cases h : m < 1 ∨ 5 < m
  · rw [md_mode h]; simp
  by_cases h2' : ¬ (validB a = true ∧ factorB num = true ∧ factorB den = true)
  · rw [md_range h h2']; simp
  have h2 := Classical.not_not.1 h2'
  by_cases h3 : den = 0
  · rw [md_zero h h2 h3]; simp
  by_cases h4 : 17592186044416 < mag a num den m
  · rw [md_over h h2 h3 h4]; simp
  rw [md_ok h h2 h3 h4]
  have hn := absI_nonneg a
  have hnum := (factorB_iff num).1 h2.2.1
  have hden := (factorB_iff den).1 h2.2.2
  have : 0 ≤ absI a * num / den := Int.ediv_nonneg (Int.mul_nonneg hn hnum.1) hden.1
  have : 0 ≤ mag a num den m := by unfold mag; split <;> omega
  refine ⟨?_, ?_, by simp, by simp⟩ <;> simp only <;> split <;> omega
end Go.Proofs.Ytlmgfcgakdanaaa.Am
