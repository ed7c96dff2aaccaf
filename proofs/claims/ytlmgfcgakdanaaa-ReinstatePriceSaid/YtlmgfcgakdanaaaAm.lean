/- MulDiv of package amount and MulDiv of the reference both return Am.md; Share, Clamp and Within besides. -/
import Derived.Test.YtlmgfcgakdanaaaAmWalks
import Derived.Test.YtlmgfcgakdanaaaRefAm
namespace Go.Proofs.Ytlmgfcgakdanaaa
open Go.RowKit

theorem Am.ediv_mul_emod (x : Int) : x / 18446744073709551616 * 18446744073709551616 + x % 18446744073709551616 = x := by omega

theorem Am.way_of (a num den m : Int) (neg : Bool) (hneg : neg = decide (a < 0)) (hm : ¬ (m < 1 ∨ 5 < m)) (hv : Am.validB a = true ∧ Am.factorB num = true ∧ Am.factorB den = true) (hd : ¬ den = 0) :
    Am.Way (Am.absI a * num / den) (Am.absI a * num % den) (Am.absI a * num / 18446744073709551616) den neg m (Am.md a num den m).1 (Am.md a num den m).2 := by
  have hnum := (Am.factorB_iff num).1 hv.2.1
  have hden := (Am.factorB_iff den).1 hv.2.2
  have hp : 0 ≤ Am.absI a * num := Int.mul_nonneg (Am.absI_nonneg a) hnum.1
  have hmag : Am.mag a num den m = Am.absI a * num / den + (if Am.awayB (Am.absI a * num / den) (Am.absI a * num % den) den neg m then 1 else 0) := by rw [hneg]; rfl
  have hsgn : ∀ x : Int, (if a < 0 then -x else x) = (if neg = true then -x else x) := fun x => by rw [hneg]; by_cases h : a < 0 <;> simp [h]
  generalize Am.absI a * num = p at *
  by_cases c1 : den ≤ p / 18446744073709551616
  · have h1 : den * 18446744073709551616 ≤ p := by omega
    have h2 : 18446744073709551616 ≤ p / den := by
      rw [Int.le_ediv_iff_mul_le (by omega)]; omega
    have h3 : 17592186044416 < Am.mag a num den m := by rw [hmag]; split <;> omega
    rw [Am.md_over hm hv hd h3]
    exact .inl ⟨c1, rfl, rfl⟩
  have c1' : p / 18446744073709551616 < den := by omega
  by_cases c2 : 17592186044416 < p / den
  · have h3 : 17592186044416 < Am.mag a num den m := by rw [hmag]; split <;> omega
    rw [Am.md_over hm hv hd h3]
    exact .inr (.inl ⟨c1', c2, rfl, rfl⟩)
  cases haw : Am.awayB (p / den) (p % den) den neg m
  · rw [haw] at hmag
    simp only [Bool.false_eq_true, if_false, Int.add_zero] at hmag
    rw [Am.md_ok hm hv hd (by omega), hmag, hsgn]
    exact .inr (.inr (.inr (.inr ⟨c1', by omega, Lib.hid haw, rfl, rfl⟩)))
  · rw [haw] at hmag
    simp only [if_true] at hmag
    by_cases c3 : p / den = 17592186044416
    · rw [Am.md_over hm hv hd (by omega)]
      exact .inr (.inr (.inl ⟨c1', ⟨by omega, by omega⟩, Lib.hid haw, rfl, rfl⟩))
    · rw [Am.md_ok hm hv hd (by omega), hmag, hsgn]
      exact .inr (.inr (.inr (.inl ⟨c1', by omega, Lib.hid haw, rfl, rfl⟩)))

theorem muldiv_any (a num den m : Int) (w : World) :
    Calls Try.prog 36 #[.int .i64 a, .int .i64 num, .int .i64 den, .int .i64 m] w fun e w' => e = .returned (.tuple #[.int .i64 (Am.md a num den m).1, .int .i64 (Am.md a num den m).2]) ∧ ∃ n, w' = w.drewN n := by
  by_cases hm : m < 1 ∨ 5 < m
  · rw [Am.md_mode hm]
    exact (muldiv_mode a num den m w hm).mono fun e w' ⟨h1, h2⟩ => ⟨h1, 0, h2.symm⟩
  by_cases hv' : ¬ (Am.validB a = true ∧ Am.factorB num = true ∧ Am.factorB den = true)
  · rw [Am.md_range hm hv']
    exact (muldiv_range a num den m w hm hv').mono fun e w' ⟨h1, h2⟩ => ⟨h1, 0, h2.symm⟩
  have hv := Classical.not_not.1 hv'
  by_cases hd : den = 0
  · rw [Am.md_zero hm hv hd]
    exact (muldiv_zero a num den m w hm hv hd).mono fun e w' ⟨h1, h2⟩ => ⟨h1, 0, h2.symm⟩
  have hA := (Am.validB_iff a).1 hv.1
  have hnum := (Am.factorB_iff num).1 hv.2.1
  have hden := (Am.factorB_iff den).1 hv.2.2
  have hp : 0 ≤ Am.absI a * num := Int.mul_nonneg (Am.absI_nonneg a) hnum.1
  have hb := Am.ediv_mul_emod (Am.absI a * num)
  by_cases hneg : a < 0
  · have hw := Am.way_of a num den m true (by simp [hneg]) hm hv hd
    have e : Am.absI a = -a := by simp [Am.absI, hneg]
    rw [e] at hw hp hb
    exact muldiv_neg a num den m _ _ _ _ _ _ w (by omega) hneg hA.1 hnum.1 hnum.2 (by omega) hden.2 (Lib.hid rfl) (Lib.hid rfl) (by omega) (by omega) (by omega)
      (Lib.hid (by rw [hb])) (Lib.hid (by rw [hb])) (Int.ediv_nonneg hp hden.1) (Int.emod_nonneg _ hd) (Int.emod_lt_of_pos _ (by omega)) hw
  · have hw := Am.way_of a num den m false (by simp [hneg]) hm hv hd
    have e : Am.absI a = a := by simp [Am.absI, hneg]
    rw [e] at hw hp hb
    exact muldiv_pos a num den m _ _ _ _ _ _ w (by omega) (by omega) hA.2 hnum.1 hnum.2 (by omega) hden.2 (Lib.hid rfl) (Lib.hid rfl) (by omega) (by omega) (by omega)
      (Lib.hid (by rw [hb])) (Lib.hid (by rw [hb])) (Int.ediv_nonneg hp hden.1) (Int.emod_nonneg _ hd) (Int.emod_lt_of_pos _ (by omega)) hw

set_option maxHeartbeats 400000 in
theorem rmuldiv_mode (a num den m : Int) (w : World) (h : m < 1 ∨ 5 < m) :
    Calls Try.prog 39 #[.int .i64 a, .int .i64 num, .int .i64 den, .int .i64 m] w fun e w' => e = .returned (.tuple #[.int .i64 0, .int .i64 11]) ∧ w = w' := by
  rcases h with h | h
  all_goals
    go_enter Try.func39, Try.ntmps39
    go_wp2
    go_ret2
    exact ⟨rfl, rfl⟩

set_option maxHeartbeats 400000 in
theorem rmuldiv_range (a num den m : Int) (w : World) (hm : ¬ (m < 1 ∨ 5 < m)) (h : ¬ (Am.validB a = true ∧ Am.factorB num = true ∧ Am.factorB den = true)) :
    Calls Try.prog 39 #[.int .i64 a, .int .i64 num, .int .i64 den, .int .i64 m] w fun e w' => e = .returned (.tuple #[.int .i64 0, .int .i64 1]) ∧ w = w' := by
  have m0 : 1 ≤ m := by omega
  have m1 : m ≤ 5 := by omega
  have hc : Am.validB a = false ∨ (Am.validB a = true ∧ num < 0) ∨ (Am.validB a = true ∧ 0 ≤ num ∧ 17592186044416 < num) ∨ (Am.validB a = true ∧ 0 ≤ num ∧ num ≤ 17592186044416 ∧ den < 0) ∨ (Am.validB a = true ∧ 0 ≤ num ∧ num ≤ 17592186044416 ∧ 0 ≤ den ∧ 17592186044416 < den) := by
    rw [Am.factorB_iff, Am.factorB_iff] at h
    cases h1 : Am.validB a <;> simp [h1] at h ⊢
    omega
  clear h hm
  rcases hc with h1 | ⟨h1, h2⟩ | ⟨h1, h2, h3⟩ | ⟨h1, h2, h3, h4⟩ | ⟨h1, h2, h3, h4, h5⟩
  all_goals
    go_enter Try.func39, Try.ntmps39
    go_wp2_with (go_at_call 59; refine (rvalid_any _ _).mono ?_; rintro e w' ⟨rfl, rfl⟩)
    go_ret2
    exact ⟨rfl, rfl⟩

set_option maxHeartbeats 400000 in
theorem rmuldiv_zero (a num den m : Int) (w : World) (hm : ¬ (m < 1 ∨ 5 < m)) (h : Am.validB a = true ∧ Am.factorB num = true ∧ Am.factorB den = true) (hd : den = 0) :
    Calls Try.prog 39 #[.int .i64 a, .int .i64 num, .int .i64 den, .int .i64 m] w fun e w' => e = .returned (.tuple #[.int .i64 0, .int .i64 2]) ∧ w = w' := by
  have m0 : 1 ≤ m := by omega
  have m1 : m ≤ 5 := by omega
  obtain ⟨h1, h2, h3⟩ := h
  obtain ⟨n0, n1⟩ := (Am.factorB_iff num).1 h2
  subst hd
  clear h2 h3 hm
  go_enter Try.func39, Try.ntmps39
  go_wp2_with (go_at_call 59; refine (rvalid_any _ _).mono ?_; rintro e w' ⟨rfl, rfl⟩)
  go_ret2
  exact ⟨rfl, rfl⟩

/-- what the reference's ways come to -/
def Ref.Way (Q R den : Int) (neg : Bool) (m out err : Int) : Prop :=
  (35184372088832 < Q ∧ out = 0 ∧ err = 3) ∨
  (Q ≤ 35184372088832 ∧ Hid (Am.awayB Q R den neg m = true) ∧ 17592186044416 < Q + 1 ∧ out = 0 ∧ err = 3) ∨
  (Hid (Am.awayB Q R den neg m = true) ∧ Q + 1 ≤ 17592186044416 ∧ (if neg then -(Q + 1) else Q + 1) = out ∧ err = 0) ∨
  (Q ≤ 35184372088832 ∧ Hid (Am.awayB Q R den neg m = false) ∧ 17592186044416 < Q ∧ out = 0 ∧ err = 3) ∨
  (Hid (Am.awayB Q R den neg m = false) ∧ Q ≤ 17592186044416 ∧ (if neg then -Q else Q) = out ∧ err = 0)

theorem Ref.up_is (q r d : Int) (neg : Bool) (m : Int) (b : Bool) (w : World) (h : Hid (Am.awayB q r d neg m = b)) (hq : 0 ≤ q) (h0 : 0 ≤ r) (h1 : r ≤ 4503599627370496) (hd : 1 ≤ d) :
    Calls Try.prog 61 #[.int .i64 q, .int .i64 r, .int .i64 d, .int .i64 m, .bool neg] w fun e w' => e = .returned (.bool b) ∧ w = w' := by
  have := up_any q r d neg m w hq h0 h1 hd
  rw [h.out] at this
  exact this

set_option maxHeartbeats 1000000 in
theorem rmuldiv_main (a num den m Q R out err : Int) (neg : Bool) (w : World) (m0 : 1 ≤ m) (m1 : m ≤ 5) (hv : Am.validB a = true) (a0 : -17592186044416 ≤ a) (a1 : a ≤ 17592186044416) (n0 : 0 ≤ num) (n1 : num ≤ 17592186044416) (d0 : 1 ≤ den) (d1 : den ≤ 17592186044416)
    (hneg : decide (a < 0) = neg) (hQ : Hid (Am.absI a * num / den = Q)) (hR : Hid (Am.absI a * num % den = R)) (Q0 : 0 ≤ Q) (R0 : 0 ≤ R) (R1 : R < den) (hw : Hid (Ref.Way Q R den neg m out err)) :
    Calls Try.prog 39 #[.int .i64 a, .int .i64 num, .int .i64 den, .int .i64 m] w fun e w' => e = .returned (.tuple #[.int .i64 out, .int .i64 err]) ∧ ∃ n, w' = w.drewN n := by
  have hd : (den == 0) = false := by rw [beq_eq_false_iff_ne]; omega
  obtain ⟨b, hb, hb0, hb1⟩ : ∃ b, Am.absI a = b ∧ 0 ≤ b ∧ b ≤ 17592186044416 := ⟨_, rfl, Am.absI_nonneg a, Am.absI_le hv⟩
  rw [hb] at hQ hR
  cases neg
  · have hab : a = b := by rw [← hb, Am.absI, if_neg (by simpa using hneg)]
    subst hab
    clear hb
    rcases hw.out with ⟨c1, rfl, rfl⟩ | ⟨c1, c2, c3, rfl, rfl⟩ | ⟨c2, c3, ho, rfl⟩ | ⟨c1, c2, c3, rfl, rfl⟩ | ⟨c2, c3, ho, rfl⟩
    · have c := divide_any a num den Q R 0 0 false w hb0 hb1 n0 n1 d0 (by omega) hQ hR (Lib.hid (.inr ⟨c1, rfl, rfl, rfl⟩))
      have C := Lib.hid c
      clear c hw
      go_enter Try.func39, Try.ntmps39
      go_wp2_with (first | (go_at_call 59; refine (rvalid_any _ _).mono ?_; rintro e w' ⟨rfl, rfl⟩) | (go_at_call 60; refine C.out.mono ?_; rintro e w' ⟨rfl, nq, rfl⟩))
      go_ret2
      exact ⟨rfl, _, rfl⟩
    all_goals
      have c := divide_any a num den Q R Q R true w hb0 hb1 n0 n1 d0 (by omega) hQ hR (Lib.hid (.inl ⟨by omega, rfl, rfl, rfl⟩))
      have C := Lib.hid c
      try have HO := Lib.hid ho
      clear c hw
      try clear ho
      go_enter Try.func39, Try.ntmps39
      go_wp2_with (first | (go_at_call 59; refine (rvalid_any _ _).mono ?_; rintro e w' ⟨rfl, rfl⟩) | (go_at_call 60; refine C.out.mono ?_; rintro e w' ⟨rfl, nq, rfl⟩) | (go_at_call 61; refine (Ref.up_is _ _ _ _ _ _ _ c2 (by omega) (by omega) (by omega) (by omega)).mono ?_; rintro e w' ⟨rfl, rfl⟩))
      go_ret2
      first | exact ⟨rfl, _, rfl⟩ | exact ⟨by rw [← HO.out]; rfl, _, rfl⟩
  · have hab : -a = b := by rw [← hb, Am.absI, if_pos (by simpa using hneg)]
    subst hab
    clear hb
    rcases hw.out with ⟨c1, rfl, rfl⟩ | ⟨c1, c2, c3, rfl, rfl⟩ | ⟨c2, c3, ho, rfl⟩ | ⟨c1, c2, c3, rfl, rfl⟩ | ⟨c2, c3, ho, rfl⟩
    · have c := divide_any (-a) num den Q R 0 0 false w hb0 hb1 n0 n1 d0 (by omega) hQ hR (Lib.hid (.inr ⟨c1, rfl, rfl, rfl⟩))
      have C := Lib.hid c
      clear c hw
      go_enter Try.func39, Try.ntmps39
      go_wp2_with (first | (go_at_call 59; refine (rvalid_any _ _).mono ?_; rintro e w' ⟨rfl, rfl⟩) | (go_at_call 60; refine C.out.mono ?_; rintro e w' ⟨rfl, nq, rfl⟩))
      go_ret2
      exact ⟨rfl, _, rfl⟩
    all_goals
      have c := divide_any (-a) num den Q R Q R true w hb0 hb1 n0 n1 d0 (by omega) hQ hR (Lib.hid (.inl ⟨by omega, rfl, rfl, rfl⟩))
      have C := Lib.hid c
      try have HO := Lib.hid ho
      clear c hw
      try clear ho
      go_enter Try.func39, Try.ntmps39
      go_wp2_with (first | (go_at_call 59; refine (rvalid_any _ _).mono ?_; rintro e w' ⟨rfl, rfl⟩) | (go_at_call 60; refine C.out.mono ?_; rintro e w' ⟨rfl, nq, rfl⟩) | (go_at_call 61; refine (Ref.up_is _ _ _ _ _ _ _ c2 (by omega) (by omega) (by omega) (by omega)).mono ?_; rintro e w' ⟨rfl, rfl⟩))
      go_ret2
      first | exact ⟨rfl, _, rfl⟩ | exact ⟨by rw [← HO.out]; rfl, _, rfl⟩

theorem Ref.way_of (a num den m : Int) (neg : Bool) (hneg : neg = decide (a < 0)) (hm : ¬ (m < 1 ∨ 5 < m)) (hv : Am.validB a = true ∧ Am.factorB num = true ∧ Am.factorB den = true) (hd : ¬ den = 0) :
    Ref.Way (Am.absI a * num / den) (Am.absI a * num % den) den neg m (Am.md a num den m).1 (Am.md a num den m).2 := by
  have hmag : Am.mag a num den m = Am.absI a * num / den + (if Am.awayB (Am.absI a * num / den) (Am.absI a * num % den) den neg m then 1 else 0) := by rw [hneg]; rfl
  have hsgn : ∀ x : Int, (if neg = true then -x else x) = (if a < 0 then -x else x) := fun x => by rw [hneg]; by_cases h : a < 0 <;> simp [h]
  generalize Am.absI a * num = p at *
  by_cases c1 : 35184372088832 < p / den
  · rw [Am.md_over hm hv hd (by rw [hmag]; split <;> omega)]
    exact .inl ⟨c1, rfl, rfl⟩
  cases haw : Am.awayB (p / den) (p % den) den neg m
  · rw [haw] at hmag
    simp only [Bool.false_eq_true, if_false, Int.add_zero] at hmag
    by_cases c2 : 17592186044416 < p / den
    · rw [Am.md_over hm hv hd (by omega)]
      exact .inr (.inr (.inr (.inl ⟨by omega, Lib.hid haw, c2, rfl, rfl⟩)))
    · rw [Am.md_ok hm hv hd (by omega), hmag]
      exact .inr (.inr (.inr (.inr ⟨Lib.hid haw, by omega, hsgn _, rfl⟩)))
  · rw [haw] at hmag
    simp only [if_true] at hmag
    by_cases c2 : 17592186044416 < p / den + 1
    · rw [Am.md_over hm hv hd (by omega)]
      exact .inr (.inl ⟨by omega, Lib.hid haw, c2, rfl, rfl⟩)
    · rw [Am.md_ok hm hv hd (by omega), hmag]
      exact .inr (.inr (.inl ⟨Lib.hid haw, by omega, hsgn _, rfl⟩))

theorem rmuldiv_any (a num den m : Int) (w : World) :
    Calls Try.prog 39 #[.int .i64 a, .int .i64 num, .int .i64 den, .int .i64 m] w fun e w' => e = .returned (.tuple #[.int .i64 (Am.md a num den m).1, .int .i64 (Am.md a num den m).2]) ∧ ∃ n, w' = w.drewN n := by
  by_cases hm : m < 1 ∨ 5 < m
  · rw [Am.md_mode hm]
    exact (rmuldiv_mode a num den m w hm).mono fun e w' ⟨h1, h2⟩ => ⟨h1, 0, h2.symm⟩
  by_cases hv' : ¬ (Am.validB a = true ∧ Am.factorB num = true ∧ Am.factorB den = true)
  · rw [Am.md_range hm hv']
    exact (rmuldiv_range a num den m w hm hv').mono fun e w' ⟨h1, h2⟩ => ⟨h1, 0, h2.symm⟩
  have hv := Classical.not_not.1 hv'
  by_cases hd : den = 0
  · rw [Am.md_zero hm hv hd]
    exact (rmuldiv_zero a num den m w hm hv hd).mono fun e w' ⟨h1, h2⟩ => ⟨h1, 0, h2.symm⟩
  have hA := (Am.validB_iff a).1 hv.1
  have hnum := (Am.factorB_iff num).1 hv.2.1
  have hden := (Am.factorB_iff den).1 hv.2.2
  have hp : 0 ≤ Am.absI a * num := Int.mul_nonneg (Am.absI_nonneg a) hnum.1
  exact rmuldiv_main a num den m _ _ _ _ _ w (by omega) (by omega) hv.1 hA.1 hA.2 hnum.1 hnum.2 (by omega) hden.2 rfl (Lib.hid rfl) (Lib.hid rfl)
    (Int.ediv_nonneg hp hden.1) (Int.emod_nonneg _ hd) (Int.emod_lt_of_pos _ (by omega)) (Lib.hid (Ref.way_of a num den m _ rfl hm hv hd))
#print axioms rmuldiv_any
#print axioms muldiv_any
end Go.Proofs.Ytlmgfcgakdanaaa
