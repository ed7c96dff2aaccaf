/- Package commission in plain words: numbers alone. No program in sight. -/
import Derived.Test.YtlmgfcgakdanaaaMd4
import Derived.Test.YtlmgfcgakdanaaaExMath
namespace Go.Proofs.Ytlmgfcgakdanaaa.Co

def lossP (n : Int) : Prop := 0 ≤ n ∧ n ≤ 68719476736
instance (n : Int) : Decidable (lossP n) := inferInstanceAs (Decidable (_ ∧ _))
def loadP (n : Int) : Prop := 0 ≤ n ∧ n ≤ 10000000
instance (n : Int) : Decidable (loadP n) := inferInstanceAs (Decidable (_ ∧ _))

/-- a part of an amount, in millionths, a half rounded up -/
def part (a x : Int) : Int := Am.hu (a * x) 1000000
theorem part_md {a x : Int} (ha : lossP a) (hx : loadP x) : Am.md a x 1000000 4 = (part a x, 0) ∧ 0 ≤ part a x ∧ part a x ≤ 10 * a := by
  obtain ⟨a0, a1⟩ := ha
  obtain ⟨x0, x1⟩ := hx
  have h1 : 0 ≤ part a x := Am.hu_nonneg (by omega) (Int.mul_nonneg a0 x0)
  have h2 : a * x ≤ 0 + 10 * a * 1000000 := by
    have := Int.mul_le_mul_of_nonneg_left x1 a0
    omega
  have h3 : part a x ≤ 10 * a := by
    have := Am.hu_mono (d := 1000000) (by omega) h2
    rw [Am.hu_add _ _ _ (by omega), Am.hu_zero _ (by omega)] at this
    unfold part
    omega
  refine ⟨?_, h1, h3⟩
  rw [Am.md_hu a x 1000000 a0 (by omega) x0 (by omega) (by omega) (by omega), if_neg (by unfold part at h3; omega)]
  rfl
theorem part_mono {a b x : Int} (h : a ≤ b) (hx : 0 ≤ x) : part a x ≤ part b x := Am.hu_mono (by omega) (Int.mul_le_mul_of_nonneg_right h hx)
theorem part_mono2 {a x y : Int} (h : x ≤ y) (ha : 0 ≤ a) : part a x ≤ part a y := Am.hu_mono (by omega) (Int.mul_le_mul_of_nonneg_left h ha)

/-- two shares of a premium -/
def bnd (low high p l : Int) : Int := if ¬ (lossP p ∧ lossP l ∧ loadP low ∧ loadP high) then 1 else if high < low then 13 else 0
def swing (low high load p l : Int) : Int × Int := if ¬ loadP load then (0, 1) else if bnd low high p l ≠ 0 then (0, bnd low high p l) else (min (max (part l load) (part p low)) (part p high), 0)
def corr (low high p l : Int) : Int × Int := if bnd low high p l ≠ 0 then (0, bnd low high p l) else (Ex.layer l (part p low) (part p high - part p low), 0)
def ratio (p l : Int) : Int × Int := if ¬ (lossP p ∧ lossP l) then (0, 1) else if l = 0 then (0, 0) else if p = 0 then (100000000, 0) else (min (l * 1000000 / p) 100000000, 0)
theorem bnd_fine {low high p l : Int} (h : bnd low high p l = 0) : lossP p ∧ lossP l ∧ loadP low ∧ loadP high ∧ low ≤ high := by
  unfold bnd at h
  by_cases c : lossP p ∧ lossP l ∧ loadP low ∧ loadP high
  · rw [if_neg (fun x => x c)] at h
    by_cases c2 : high < low
    · rw [if_pos c2] at h; omega
    · exact ⟨c.1, c.2.1, c.2.2.1, c.2.2.2, by omega⟩
  · rw [if_pos c] at h; omega

/-- the floor of a quotient -/
theorem floor_md (a num den : Int) (a0 : 0 ≤ a) (a1 : a ≤ 17592186044416) (n0 : 0 ≤ num) (n1 : num ≤ 17592186044416) (d0 : 1 ≤ den) (d1 : den ≤ 17592186044416) : Am.md a num den 2 = if 17592186044416 < a * num / den then (0, 3) else (a * num / den, 0) := by
  have h2 : Am.validB a = true ∧ Am.factorB num = true ∧ Am.factorB den = true := ⟨(Am.validB_iff a).2 ⟨by omega, a1⟩, (Am.factorB_iff num).2 ⟨n0, n1⟩, (Am.factorB_iff den).2 ⟨by omega, d1⟩⟩
  have hm : Am.mag a num den 2 = a * num / den := by
    have e : Am.absI a = a := by unfold Am.absI; split <;> omega
    have ha : Am.awayB (a * num / den) (a * num % den) den (decide (a < 0)) 2 = false := by
      unfold Am.awayB
      split
      · rfl
      · rw [if_pos rfl]; simp; omega
    rw [Am.mag, e, ha]
    simp
  by_cases h : 17592186044416 < a * num / den
  · rw [if_pos h, Am.md_over (by omega) h2 (by omega) (by rw [hm]; exact h)]
  · rw [if_neg h, Am.md_ok (by omega) h2 (by omega) (by rw [hm]; exact h), if_neg (by omega), hm]
end Go.Proofs.Ytlmgfcgakdanaaa.Co
