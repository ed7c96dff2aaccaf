/- The contracts of package amount: Valid, factor, away, MulDiv, Share. -/
import Derived.Test.YtbeikfopneeodaaGreatMt10
import Derived.Test.YtbeikfopneeodaaGreatMt03
import Derived.Deep.CutBlock
import Derived.Deep.DeepCutAuto
namespace Go.Proofs.YtbeikfopneeodaaGreat
open Go.RowKit

set_option maxHeartbeats 400000 in
theorem valid_any (a : Int) (w : World) : Calls Tryz.prog 52 #[.int .i64 a] w fun e w' => e = .returned (.bool (Am.validB a)) ∧ w = w' := by
  go_enter Tryz.func52, Tryz.ntmps52
  go_wp2
  · go_ret
    refine ⟨?_, rfl⟩
    have h : -17592186044416 ≤ a := by assumption
    simp [Am.validB, h]
  · go_ret
    refine ⟨?_, rfl⟩
    have h : a < -17592186044416 := by assumption
    have h' : Am.validB a = false := (Am.validB_false a).2 (.inl h)
    rw [h']
    rfl

set_option maxHeartbeats 400000 in
theorem factor_any (a : Int) (w : World) : Calls Tryz.prog 77 #[.int .i64 a] w fun e w' => e = .returned (.bool (Am.factorB a)) ∧ w = w' := by
  go_enter Tryz.func77, Tryz.ntmps77
  go_wp2
  · go_ret
    refine ⟨?_, rfl⟩
    have h : 0 ≤ a := by assumption
    simp [Am.factorB, h]
  · go_ret
    refine ⟨?_, rfl⟩
    have h : a < 0 := by assumption
    have h' : Am.factorB a = false := (Am.factorB_false a).2 (.inl h)
    rw [h']
    rfl

set_option maxHeartbeats 400000 in
theorem away_any (q r d : Int) (neg : Bool) (m : Int) (w : World) (hq : 0 ≤ q) (h0 : 0 ≤ r) (h1 : r ≤ 17592186044416) :
    Calls Tryz.prog 80 #[.int .u64 q, .int .u64 r, .int .u64 d, .bool neg, .int .i64 m] w fun e w' => e = .returned (.bool (Am.awayB q r d neg m)) ∧ w = w' := by
  go_enter Tryz.func80, Tryz.ntmps80
  go_wp2
  all_goals (go_ret; refine ⟨?_, rfl⟩; simp_all [Am.awayB])

namespace Am
theorem mul64 (x y H L : Int) (w : World) (x0 : 0 ≤ x) (x1 : x < 18446744073709551616) (y0 : 0 ≤ y) (y1 : y < 18446744073709551616)
    (hH : Hid (x * y / 18446744073709551616 = H)) (hL : Hid (x * y % 18446744073709551616 = L)) :
    Calls Tryz.prog 78 #[.int .u64 x, .int .u64 y] w fun e w' => e = .returned (.tuple #[.int .u64 H, .int .u64 L]) ∧ w = w' := by
  obtain ⟨x, rfl⟩ := Int.eq_ofNat_of_zero_le x0
  obtain ⟨y, rfl⟩ := Int.eq_ofNat_of_zero_le y0
  refine (Tryz.bits_Mul64 x y (by omega) (by omega) w).mono ?_
  rintro e w' ⟨he, hw⟩
  refine ⟨?_, hw.symm⟩
  rw [he, ← hH.out, ← hL.out, Div.mulN]
  rfl

theorem div64 (hi lo y Q R : Int) (w : World) (h0 : 0 ≤ hi) (h1 : hi < y) (hb : y < 18446744073709551616) (l0 : 0 ≤ lo) (l1 : lo < 18446744073709551616)
    (hQ : Hid ((hi * 18446744073709551616 + lo) / y = Q)) (hR : Hid ((hi * 18446744073709551616 + lo) % y = R)) :
    Calls Tryz.prog 79 #[.int .u64 hi, .int .u64 lo, .int .u64 y] w fun e w' => e = .returned (.tuple #[.int .u64 Q, .int .u64 R]) ∧ ∃ n, w' = w.drewN n := by
  obtain ⟨hi, rfl⟩ := Int.eq_ofNat_of_zero_le h0
  obtain ⟨lo, rfl⟩ := Int.eq_ofNat_of_zero_le l0
  obtain ⟨y, rfl⟩ := Int.eq_ofNat_of_zero_le (show 0 ≤ y by omega)
  refine (div64_any hi lo y (by omega) (by omega) (by omega) w).mono ?_
  rintro e w' ⟨he, hw⟩
  refine ⟨?_, hw⟩
  rw [he, ← hQ.out, ← hR.out]
  rfl
end Am

set_option maxHeartbeats 400000 in
theorem muldiv_mode (a num den m : Int) (w : World) (h : m < 1 ∨ 5 < m) :
    Calls Tryz.prog 53 #[.int .i64 a, .int .i64 num, .int .i64 den, .int .i64 m] w fun e w' => e = .returned (.tuple #[.int .i64 0, .int .i64 11]) ∧ w = w' := by
  have h1 : (m == 1) = false := by rw [beq_eq_false_iff_ne]; omega
  have h2 : (m == 2) = false := by rw [beq_eq_false_iff_ne]; omega
  have h3 : (m == 3) = false := by rw [beq_eq_false_iff_ne]; omega
  have h4 : (m == 4) = false := by rw [beq_eq_false_iff_ne]; omega
  have h5 : (m == 5) = false := by rw [beq_eq_false_iff_ne]; omega
  clear h
  go_enter Tryz.func53, Tryz.ntmps53
  go_wp2
  go_ret2
  exact ⟨rfl, rfl⟩

set_option maxHeartbeats 1000000 in
theorem muldiv_range (a num den m : Int) (w : World) (hm : ¬ (m < 1 ∨ 5 < m)) (h : ¬ (Am.validB a = true ∧ Am.factorB num = true ∧ Am.factorB den = true)) :
    Calls Tryz.prog 53 #[.int .i64 a, .int .i64 num, .int .i64 den, .int .i64 m] w fun e w' => e = .returned (.tuple #[.int .i64 0, .int .i64 1]) ∧ w = w' := by
  have hc : Am.validB a = false ∨ (Am.validB a = true ∧ Am.factorB num = false) ∨ (Am.validB a = true ∧ Am.factorB num = true ∧ Am.factorB den = false) := by
    cases h1 : Am.validB a <;> cases h2 : Am.factorB num <;> cases h3 : Am.factorB den <;> simp_all
  clear h
  obtain rfl | rfl | rfl | rfl | rfl : m = 1 ∨ m = 2 ∨ m = 3 ∨ m = 4 ∨ m = 5 := by omega
  all_goals
    clear hm
    rcases hc with h1 | ⟨h1, h2⟩ | ⟨h1, h2, h3⟩
    all_goals
      go_enter Tryz.func53, Tryz.ntmps53
      go_wp2_with (first | (go_at_call 52; refine (valid_any _ _).mono ?_; rintro e w' ⟨rfl, rfl⟩) | (go_at_call 77; refine (factor_any _ _).mono ?_; rintro e w' ⟨rfl, rfl⟩))
      go_ret2
      exact ⟨rfl, rfl⟩

set_option maxHeartbeats 400000 in
theorem muldiv_zero (a num den m : Int) (w : World) (hm : ¬ (m < 1 ∨ 5 < m)) (h : Am.validB a = true ∧ Am.factorB num = true ∧ Am.factorB den = true) (hd : den = 0) :
    Calls Tryz.prog 53 #[.int .i64 a, .int .i64 num, .int .i64 den, .int .i64 m] w fun e w' => e = .returned (.tuple #[.int .i64 0, .int .i64 2]) ∧ w = w' := by
  subst hd
  obtain ⟨ha0, ha1⟩ := (Am.validB_iff a).1 h.1
  obtain ⟨hn0, hn1⟩ := (Am.factorB_iff num).1 h.2.1
  clear h
  obtain rfl | rfl | rfl | rfl | rfl : m = 1 ∨ m = 2 ∨ m = 3 ∨ m = 4 ∨ m = 5 := by omega
  all_goals
    clear hm
    go_enter Tryz.func53, Tryz.ntmps53
    go_wp2
    go_ret2
    exact ⟨rfl, rfl⟩

/-- what the five ways of the division come to -/
def Am.Way (Q R H den : Int) (neg : Bool) (m out err : Int) : Prop :=
  (den ≤ H ∧ out = 0 ∧ err = 3) ∨ (H < den ∧ 17592186044416 < Q ∧ out = 0 ∧ err = 3) ∨
  (H < den ∧ (17592186044416 ≤ Q ∧ Q ≤ 17592186044416) ∧ Hid (Am.awayB Q R den neg m = true) ∧ out = 0 ∧ err = 3) ∨
  (H < den ∧ Q < 17592186044416 ∧ Hid (Am.awayB Q R den neg m = true) ∧ out = (if neg then -(Q + 1) else Q + 1) ∧ err = 0) ∨
  (H < den ∧ Q ≤ 17592186044416 ∧ Hid (Am.awayB Q R den neg m = false) ∧ out = (if neg then -Q else Q) ∧ err = 0)

theorem Am.away_is (q r d : Int) (neg : Bool) (m : Int) (b : Bool) (w : World) (h : Hid (Am.awayB q r d neg m = b)) (hq : 0 ≤ q) (h0 : 0 ≤ r) (h1 : r ≤ 17592186044416) :
    Calls Tryz.prog 80 #[.int .u64 q, .int .u64 r, .int .u64 d, .bool neg, .int .i64 m] w fun e w' => e = .returned (.bool b) ∧ w = w' := by
  have := away_any q r d neg m w hq h0 h1
  rw [h.out] at this
  exact this

set_option maxHeartbeats 4000000 in
set_option maxRecDepth 100000 in
theorem muldiv_pos (a num den m H L Q R out err : Int) (w : World) (hm : 1 ≤ m ∧ m ≤ 5) (a0 : 0 ≤ a) (a1 : a ≤ 17592186044416) (n0 : 0 ≤ num) (n1 : num ≤ 17592186044416) (d0 : 1 ≤ den) (d1 : den ≤ 17592186044416)
    (hH : Hid (a * num / 18446744073709551616 = H)) (hL : Hid (a * num % 18446744073709551616 = L)) (H0 : 0 ≤ H) (L0 : 0 ≤ L) (L1 : L < 18446744073709551616)
    (hQ : Hid ((H * 18446744073709551616 + L) / den = Q)) (hR : Hid ((H * 18446744073709551616 + L) % den = R)) (Q0 : 0 ≤ Q) (R0 : 0 ≤ R) (R1 : R < den)
    (hw : Am.Way Q R H den false m out err) :
    Calls Tryz.prog 53 #[.int .i64 a, .int .i64 num, .int .i64 den, .int .i64 m] w fun e w' => e = .returned (.tuple #[.int .i64 out, .int .i64 err]) ∧ ∃ n, w' = w.drewN n := by
  have hd : (den == 0) = false := by rw [beq_eq_false_iff_ne]; omega
  have hng : decide (a < 0) = false := by simp; omega
  have HV : Hid (Am.validB a = true) := Lib.hid ((Am.validB_iff a).2 ⟨by omega, by omega⟩)
  have HN : Hid (Am.factorB num = true) := Lib.hid ((Am.factorB_iff num).2 ⟨by omega, by omega⟩)
  have HD : Hid (Am.factorB den = true) := Lib.hid ((Am.factorB_iff den).2 ⟨by omega, by omega⟩)
  have HW := Lib.hid hw
  clear hw
  go_enter Tryz.func53, Tryz.ntmps53
  go_upto_block 0 with (fail)
  go_cut [] (fun wx => w = wx)
  case first =>
    clear HW hH hL hQ hR hd hng HV HN HD H0 L0 L1 Q0 R0 R1
    go_wp2
    all_goals go_meet; rfl
  case rest =>
    subst hcut
    have hw := HW.out
    have hv := HV.out
    have hnn := HN.out
    have hdd := HD.out
    clear HW HV HN HD hm
    rcases hw with ⟨c1, rfl, rfl⟩ | ⟨c1, c2, rfl, rfl⟩ | ⟨c1, ⟨c2, c2'⟩, c3, rfl, rfl⟩ | ⟨c1, c2, c3, rfl, rfl⟩ | ⟨c1, c2, c3, rfl, rfl⟩
    · go_wp2_with (first | (go_at_call 52; refine (valid_any _ _).mono ?_; rintro e w' ⟨rfl, rfl⟩) | (go_at_call 77; refine (factor_any _ _).mono ?_; rintro e w' ⟨rfl, rfl⟩) | (go_at_call 78; refine (Am.mul64 _ _ H L _ (by omega) (by omega) (by omega) (by omega) hH hL).mono ?_; rintro e w' ⟨rfl, rfl⟩))
      go_ret2
      exact ⟨rfl, 0, rfl⟩
    · go_wp2_with (first | (go_at_call 52; refine (valid_any _ _).mono ?_; rintro e w' ⟨rfl, rfl⟩) | (go_at_call 77; refine (factor_any _ _).mono ?_; rintro e w' ⟨rfl, rfl⟩) | (go_at_call 78; refine (Am.mul64 _ _ H L _ (by omega) (by omega) (by omega) (by omega) hH hL).mono ?_; rintro e w' ⟨rfl, rfl⟩) | (go_at_call 79; refine (Am.div64 _ _ _ Q R _ H0 c1 (by omega) L0 L1 hQ hR).mono ?_; rintro e w' ⟨rfl, nq, rfl⟩))
      go_ret2
      exact ⟨rfl, _, rfl⟩
    · have hv2 : Am.validB (Q + 1) = false := (Am.validB_false _).2 (by omega)
      go_wp2_with (first | (go_at_call 52; refine (valid_any _ _).mono ?_; rintro e w' ⟨rfl, rfl⟩) | (go_at_call 77; refine (factor_any _ _).mono ?_; rintro e w' ⟨rfl, rfl⟩) | (go_at_call 78; refine (Am.mul64 _ _ H L _ (by omega) (by omega) (by omega) (by omega) hH hL).mono ?_; rintro e w' ⟨rfl, rfl⟩) | (go_at_call 79; refine (Am.div64 _ _ _ Q R _ H0 c1 (by omega) L0 L1 hQ hR).mono ?_; rintro e w' ⟨rfl, nq, rfl⟩) | (go_at_call 80; refine (Am.away_is _ _ _ _ _ _ _ c3 (by omega) (by omega) (by omega)).mono ?_; rintro e w' ⟨rfl, rfl⟩))
      go_ret2
      exact ⟨rfl, _, rfl⟩
    · have hv2 : Am.validB (Q + 1) = true := (Am.validB_iff _).2 ⟨by omega, by omega⟩
      go_wp2_with (first | (go_at_call 52; refine (valid_any _ _).mono ?_; rintro e w' ⟨rfl, rfl⟩) | (go_at_call 77; refine (factor_any _ _).mono ?_; rintro e w' ⟨rfl, rfl⟩) | (go_at_call 78; refine (Am.mul64 _ _ H L _ (by omega) (by omega) (by omega) (by omega) hH hL).mono ?_; rintro e w' ⟨rfl, rfl⟩) | (go_at_call 79; refine (Am.div64 _ _ _ Q R _ H0 c1 (by omega) L0 L1 hQ hR).mono ?_; rintro e w' ⟨rfl, nq, rfl⟩) | (go_at_call 80; refine (Am.away_is _ _ _ _ _ _ _ c3 (by omega) (by omega) (by omega)).mono ?_; rintro e w' ⟨rfl, rfl⟩))
      go_ret2
      exact ⟨rfl, _, rfl⟩
    · have hv2 : Am.validB out = true := (Am.validB_iff _).2 ⟨by omega, by omega⟩
      go_wp2_with (first | (go_at_call 52; refine (valid_any _ _).mono ?_; rintro e w' ⟨rfl, rfl⟩) | (go_at_call 77; refine (factor_any _ _).mono ?_; rintro e w' ⟨rfl, rfl⟩) | (go_at_call 78; refine (Am.mul64 _ _ H L _ (by omega) (by omega) (by omega) (by omega) hH hL).mono ?_; rintro e w' ⟨rfl, rfl⟩) | (go_at_call 79; refine (Am.div64 _ _ _ out R _ H0 c1 (by omega) L0 L1 hQ hR).mono ?_; rintro e w' ⟨rfl, nq, rfl⟩) | (go_at_call 80; refine (Am.away_is _ _ _ _ _ _ _ c3 (by omega) (by omega) (by omega)).mono ?_; rintro e w' ⟨rfl, rfl⟩))
      go_ret2
      exact ⟨rfl, _, rfl⟩

set_option maxHeartbeats 4000000 in
set_option maxRecDepth 100000 in
theorem muldiv_neg (a num den m H L Q R out err : Int) (w : World) (hm : 1 ≤ m ∧ m ≤ 5) (a0 : a < 0) (a1 : -17592186044416 ≤ a) (n0 : 0 ≤ num) (n1 : num ≤ 17592186044416) (d0 : 1 ≤ den) (d1 : den ≤ 17592186044416)
    (hH : Hid (-a * num / 18446744073709551616 = H)) (hL : Hid (-a * num % 18446744073709551616 = L)) (H0 : 0 ≤ H) (L0 : 0 ≤ L) (L1 : L < 18446744073709551616)
    (hQ : Hid ((H * 18446744073709551616 + L) / den = Q)) (hR : Hid ((H * 18446744073709551616 + L) % den = R)) (Q0 : 0 ≤ Q) (R0 : 0 ≤ R) (R1 : R < den)
    (hw : Am.Way Q R H den true m out err) :
    Calls Tryz.prog 53 #[.int .i64 a, .int .i64 num, .int .i64 den, .int .i64 m] w fun e w' => e = .returned (.tuple #[.int .i64 out, .int .i64 err]) ∧ ∃ n, w' = w.drewN n := by
  have hd : (den == 0) = false := by rw [beq_eq_false_iff_ne]; omega
  have hng : decide (a < 0) = true := by simp; omega
  have HV : Hid (Am.validB a = true) := Lib.hid ((Am.validB_iff a).2 ⟨by omega, by omega⟩)
  have HN : Hid (Am.factorB num = true) := Lib.hid ((Am.factorB_iff num).2 ⟨by omega, by omega⟩)
  have HD : Hid (Am.factorB den = true) := Lib.hid ((Am.factorB_iff den).2 ⟨by omega, by omega⟩)
  have HW := Lib.hid hw
  clear hw
  go_enter Tryz.func53, Tryz.ntmps53
  go_upto_block 0 with (fail)
  go_cut [] (fun wx => w = wx)
  case first =>
    clear HW hH hL hQ hR hd hng HV HN HD H0 L0 L1 Q0 R0 R1
    go_wp2
    all_goals go_meet; rfl
  case rest =>
    subst hcut
    have hw := HW.out
    have hv := HV.out
    have hnn := HN.out
    have hdd := HD.out
    clear HW HV HN HD hm
    rcases hw with ⟨c1, rfl, rfl⟩ | ⟨c1, c2, rfl, rfl⟩ | ⟨c1, ⟨c2, c2'⟩, c3, rfl, rfl⟩ | ⟨c1, c2, c3, rfl, rfl⟩ | ⟨c1, c2, c3, rfl, rfl⟩
    · go_wp2_with (first | (go_at_call 52; refine (valid_any _ _).mono ?_; rintro e w' ⟨rfl, rfl⟩) | (go_at_call 77; refine (factor_any _ _).mono ?_; rintro e w' ⟨rfl, rfl⟩) | (go_at_call 78; refine (Am.mul64 _ _ H L _ (by omega) (by omega) (by omega) (by omega) hH hL).mono ?_; rintro e w' ⟨rfl, rfl⟩))
      go_ret2
      exact ⟨rfl, 0, rfl⟩
    · go_wp2_with (first | (go_at_call 52; refine (valid_any _ _).mono ?_; rintro e w' ⟨rfl, rfl⟩) | (go_at_call 77; refine (factor_any _ _).mono ?_; rintro e w' ⟨rfl, rfl⟩) | (go_at_call 78; refine (Am.mul64 _ _ H L _ (by omega) (by omega) (by omega) (by omega) hH hL).mono ?_; rintro e w' ⟨rfl, rfl⟩) | (go_at_call 79; refine (Am.div64 _ _ _ Q R _ H0 c1 (by omega) L0 L1 hQ hR).mono ?_; rintro e w' ⟨rfl, nq, rfl⟩))
      go_ret2
      exact ⟨rfl, _, rfl⟩
    · have hv2 : Am.validB (-(Q + 1)) = false := (Am.validB_false _).2 (by omega)
      go_wp2_with (first | (go_at_call 52; refine (valid_any _ _).mono ?_; rintro e w' ⟨rfl, rfl⟩) | (go_at_call 77; refine (factor_any _ _).mono ?_; rintro e w' ⟨rfl, rfl⟩) | (go_at_call 78; refine (Am.mul64 _ _ H L _ (by omega) (by omega) (by omega) (by omega) hH hL).mono ?_; rintro e w' ⟨rfl, rfl⟩) | (go_at_call 79; refine (Am.div64 _ _ _ Q R _ H0 c1 (by omega) L0 L1 hQ hR).mono ?_; rintro e w' ⟨rfl, nq, rfl⟩) | (go_at_call 80; refine (Am.away_is _ _ _ _ _ _ _ c3 (by omega) (by omega) (by omega)).mono ?_; rintro e w' ⟨rfl, rfl⟩))
      go_ret2
      exact ⟨rfl, _, rfl⟩
    · have hv2 : Am.validB (-(Q + 1)) = true := (Am.validB_iff _).2 ⟨by omega, by omega⟩
      go_wp2_with (first | (go_at_call 52; refine (valid_any _ _).mono ?_; rintro e w' ⟨rfl, rfl⟩) | (go_at_call 77; refine (factor_any _ _).mono ?_; rintro e w' ⟨rfl, rfl⟩) | (go_at_call 78; refine (Am.mul64 _ _ H L _ (by omega) (by omega) (by omega) (by omega) hH hL).mono ?_; rintro e w' ⟨rfl, rfl⟩) | (go_at_call 79; refine (Am.div64 _ _ _ Q R _ H0 c1 (by omega) L0 L1 hQ hR).mono ?_; rintro e w' ⟨rfl, nq, rfl⟩) | (go_at_call 80; refine (Am.away_is _ _ _ _ _ _ _ c3 (by omega) (by omega) (by omega)).mono ?_; rintro e w' ⟨rfl, rfl⟩))
      go_ret2
      exact ⟨rfl, _, rfl⟩
    · have hv2 : Am.validB (-Q) = true := (Am.validB_iff _).2 ⟨by omega, by omega⟩
      go_wp2_with (first | (go_at_call 52; refine (valid_any _ _).mono ?_; rintro e w' ⟨rfl, rfl⟩) | (go_at_call 77; refine (factor_any _ _).mono ?_; rintro e w' ⟨rfl, rfl⟩) | (go_at_call 78; refine (Am.mul64 _ _ H L _ (by omega) (by omega) (by omega) (by omega) hH hL).mono ?_; rintro e w' ⟨rfl, rfl⟩) | (go_at_call 79; refine (Am.div64 _ _ _ Q R _ H0 c1 (by omega) L0 L1 hQ hR).mono ?_; rintro e w' ⟨rfl, nq, rfl⟩) | (go_at_call 80; refine (Am.away_is _ _ _ _ _ _ _ c3 (by omega) (by omega) (by omega)).mono ?_; rintro e w' ⟨rfl, rfl⟩))
      go_ret2
      exact ⟨rfl, _, rfl⟩

end Go.Proofs.YtbeikfopneeodaaGreat
