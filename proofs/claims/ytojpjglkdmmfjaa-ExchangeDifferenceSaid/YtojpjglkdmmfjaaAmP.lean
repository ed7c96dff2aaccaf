/- MulDiv of package amount returns Am.md. -/
import Derived.Test.YtojpjglkdmmfjaaAmWalks
namespace Go.Proofs.Ytojpjglkdmmfjaa
open Go.RowKit

theorem Am.ediv_mul_emod (x : Int) : x / 18446744073709551616 * 18446744073709551616 + x % 18446744073709551616 = x := by omega

theorem Am.way_of (a num den m : Int) (neg : Bool) (hneg : neg = decide (a < 0)) (hm : ¬ (m < 1 ∨ 5 < m)) (hv : Am.validB a = true ∧ Am.factorB num = true ∧ Am.factorB den = true) (hd : ¬ den = 0) :
    Am.Way (Am.absI a * num / den) (Am.absI a * num % den) (Am.absI a * num / 18446744073709551616) den neg m (Am.md a num den m).1 (Am.md a num den m).2 := by
  have hnum := (Am.factorB_iff num).1 hv.2.1
  have hden := (Am.factorB_iff den).1 hv.2.2
  have hp : 0 ≤ Am.absI a * num := Int.mul_nonneg (Am.absI_nonneg a) hnum.1
  have hmag : Am.mag a num den m = Am.absI a * num / den + (if Am.awayB (Am.absI a * num / den) (Am.absI a * num % den) den neg m then 1 else 0) := by rw [hneg]; rfl
  have hsgn : ∀ x : Int, (if a < 0 then -x else x) = (if neg = true then -x else x) := fun x => by rw [hneg]; by_cases h : a < 0 <;> simp [h]
  generalize Am.absI a * num = p at *
  by_cases c1 : den ≤ p / 18446744073709551616
  · have h1 : den * 18446744073709551616 ≤ p := by omega
    have h2 : 18446744073709551616 ≤ p / den := by
      rw [Int.le_ediv_iff_mul_le (by omega)]; omega
    have h3 : 17592186044416 < Am.mag a num den m := by rw [hmag]; split <;> omega
    rw [Am.md_over hm hv hd h3]
    exact .inl ⟨c1, rfl, rfl⟩
  have c1' : p / 18446744073709551616 < den := by omega
  by_cases c2 : 17592186044416 < p / den
  · have h3 : 17592186044416 < Am.mag a num den m := by rw [hmag]; split <;> omega
    rw [Am.md_over hm hv hd h3]
    exact .inr (.inl ⟨c1', c2, rfl, rfl⟩)
  cases haw : Am.awayB (p / den) (p % den) den neg m
  · rw [haw] at hmag
    simp only [Bool.false_eq_true, if_false, Int.add_zero] at hmag
    rw [Am.md_ok hm hv hd (by omega), hmag, hsgn]
    exact .inr (.inr (.inr (.inr ⟨c1', by omega, Lib.hid haw, rfl, rfl⟩)))
  · rw [haw] at hmag
    simp only [if_true] at hmag
    by_cases c3 : p / den = 17592186044416
    · rw [Am.md_over hm hv hd (by omega)]
      exact .inr (.inr (.inl ⟨c1', ⟨by omega, by omega⟩, Lib.hid haw, rfl, rfl⟩))
    · rw [Am.md_ok hm hv hd (by omega), hmag, hsgn]
      exact .inr (.inr (.inr (.inl ⟨c1', by omega, Lib.hid haw, rfl, rfl⟩)))

theorem muldiv_any (a num den m : Int) (w : World) :
    Calls Try.prog 41 #[.int .i64 a, .int .i64 num, .int .i64 den, .int .i64 m] w fun e w' => e = .returned (.tuple #[.int .i64 (Am.md a num den m).1, .int .i64 (Am.md a num den m).2]) ∧ ∃ n, w' = w.drewN n := by
  by_cases hm : m < 1 ∨ 5 < m
  · rw [Am.md_mode hm]
    exact (muldiv_mode a num den m w hm).mono fun e w' ⟨h1, h2⟩ => ⟨h1, 0, h2.symm⟩
  by_cases hv' : ¬ (Am.validB a = true ∧ Am.factorB num = true ∧ Am.factorB den = true)
  · rw [Am.md_range hm hv']
    exact (muldiv_range a num den m w hm hv').mono fun e w' ⟨h1, h2⟩ => ⟨h1, 0, h2.symm⟩
  have hv := Classical.not_not.1 hv'
  by_cases hd : den = 0
  · rw [Am.md_zero hm hv hd]
    exact (muldiv_zero a num den m w hm hv hd).mono fun e w' ⟨h1, h2⟩ => ⟨h1, 0, h2.symm⟩
  have hA := (Am.validB_iff a).1 hv.1
  have hnum := (Am.factorB_iff num).1 hv.2.1
  have hden := (Am.factorB_iff den).1 hv.2.2
  have hp : 0 ≤ Am.absI a * num := Int.mul_nonneg (Am.absI_nonneg a) hnum.1
  have hb := Am.ediv_mul_emod (Am.absI a * num)
  by_cases hneg : a < 0
  · have hw := Am.way_of a num den m true (by simp [hneg]) hm hv hd
    have e : Am.absI a = -a := by simp [Am.absI, hneg]
    rw [e] at hw hp hb
    exact muldiv_neg a num den m _ _ _ _ _ _ w (by omega) hneg hA.1 hnum.1 hnum.2 (by omega) hden.2 (Lib.hid rfl) (Lib.hid rfl) (by omega) (by omega) (by omega)
      (Lib.hid (by rw [hb])) (Lib.hid (by rw [hb])) (Int.ediv_nonneg hp hden.1) (Int.emod_nonneg _ hd) (Int.emod_lt_of_pos _ (by omega)) hw
  · have hw := Am.way_of a num den m false (by simp [hneg]) hm hv hd
    have e : Am.absI a = a := by simp [Am.absI, hneg]
    rw [e] at hw hp hb
    exact muldiv_pos a num den m _ _ _ _ _ _ w (by omega) (by omega) hA.2 hnum.1 hnum.2 (by omega) hden.2 (Lib.hid rfl) (Lib.hid rfl) (by omega) (by omega) (by omega)
      (Lib.hid (by rw [hb])) (Lib.hid (by rw [hb])) (Int.ediv_nonneg hp hden.1) (Int.emod_nonneg _ hd) (Int.emod_lt_of_pos _ (by omega)) hw

end Go.Proofs.Ytojpjglkdmmfjaa
