/- Days of a valid period, and those that have begun before an hour. -/
import Derived.Test.YtlmgfcgakdanaaaRnA
namespace Go.Proofs.Ytlmgfcgakdanaaa
open Go.RowKit
set_option linter.unusedVariables false

theorem perP_fine {a b : Int} (h0 : 0 ≤ a) (h1 : a < b) (h2 : b ≤ 876600) : Ty.perP a b = true := by
  unfold Ty.perP
  rw [decide_eq_true_iff]
  exact ⟨h0, h1, h2⟩

set_option maxHeartbeats 400000 in
theorem begun_any (x : Int) (w : World) (h0 : 0 ≤ x) (h1 : x ≤ 1000000) : Calls Try.prog 82 #[.int .i64 x] w fun e w' => e = .returned (.int .i64 ((x + 23) / 24)) ∧ w = w' := by
  have e : x + 24 - 1 = x + 23 := by omega
  have HE := Lib.hid e
  clear e
  go_enter Try.func82, Try.ntmps82
  go_wp2
  go_ret
  exact ⟨ret_i64 (by rw [HE.out]), rfl⟩

set_option maxHeartbeats 400000 in
theorem days_any (a b : Int) (w : World) (h0 : 0 ≤ a) (h1 : a < b) (h2 : b ≤ 876600) : Calls Try.prog 81 #[.agg #[.int .i64 a, .int .i64 b]] w (IntPost (Rn.days a b) w) := by
  have C1 : Hid (∀ W, Calls Try.prog 72 #[.agg #[.int .i64 a, .int .i64 b]] W (BoolPost true W)) := Lib.hid fun W => by have := period_any a b W; rw [perP_fine h0 h1 h2] at this; exact this
  have HX := Lib.hid (Has.new w #[.int .i64 a, .int .i64 b] 23)
  have HB := Lib.hid ((Below.refl w.heap.size w).alloc (Nat.le_refl _) (.cells #[.int .i64 a, .int .i64 b] 23))
  go_enter Try.func81, Try.ntmps81
  go_wp2_with fail
  refine (C1.out _).mono ?_
  rintro e w1 ⟨rfl, hb⟩
  replace HX := Lib.hid (HX.out.below hb HX.out.lt)
  replace HB : Hid (Below w.heap.size w w1) := Lib.hid (HB.out.trans (hb.mono HB.out.size))
  clear hb C1
  obtain ⟨c0, c1, c2⟩ := HX.out.rules
  go_wp2_with ((go_at_call 82; refine (begun_any _ _ (by omega) (by omega)).mono ?_; rintro e w' ⟨rfl, rfl⟩))
  go_ret
  exact ⟨rfl, HB.out⟩

set_option maxHeartbeats 1000000 in
theorem elapsed_any (a b h : Int) (w : World) (h0 : 0 ≤ a) (h1 : a < b) (h2 : b ≤ 876600) (g0 : 0 ≤ h) (g1 : h ≤ 876599) :
    Calls Try.prog 66 #[.agg #[.int .i64 a, .int .i64 b], .int .i64 h] w (PairPost (Rn.gone a b h, Rn.days a b) w) := by
  have C1 : Hid (∀ W, Calls Try.prog 72 #[.agg #[.int .i64 a, .int .i64 b]] W (BoolPost true W)) := Lib.hid fun W => by have := period_any a b W; rw [perP_fine h0 h1 h2] at this; exact this
  obtain ⟨D, hD⟩ : ∃ D, Rn.days a b = D := ⟨_, rfl⟩
  obtain ⟨X, hX⟩ : ∃ X, Rn.gone a b h = X := ⟨_, rfl⟩
  have C2 : Hid (∀ W, Calls Try.prog 81 #[.agg #[.int .i64 a, .int .i64 b]] W (IntPost D W)) := Lib.hid fun W => by rw [← hD]; exact days_any a b W h0 h1 h2
  have HF : Hid ((h ≤ a → 0 = X) ∧ (¬ h ≤ a → b ≤ h → D = X) ∧ (¬ h ≤ a → ¬ b ≤ h → (h - a + 23) / 24 = X)) := Lib.hid (by
    rw [← hX, ← hD]
    unfold Rn.gone
    refine ⟨fun c => by rw [if_pos c], fun c d => by rw [if_neg c, if_pos d], fun c d => by rw [if_neg c, if_neg d]⟩)
  have HX := Lib.hid (Has.new w #[.int .i64 a, .int .i64 b] 23)
  have HB := Lib.hid ((Below.refl w.heap.size w).alloc (Nat.le_refl _) (.cells #[.int .i64 a, .int .i64 b] 23))
  rw [hD, hX]
  clear hD hX
  go_enter Try.func66, Try.ntmps66
  go_wp2_with fail
  refine (C2.out _).mono ?_
  rintro e w1 ⟨rfl, hb⟩
  replace HX := Lib.hid (HX.out.below hb HX.out.lt)
  replace HB : Hid (Below w.heap.size w w1) := Lib.hid (HB.out.trans (hb.mono HB.out.size))
  clear hb C2
  obtain ⟨c0, c1, c2⟩ := HX.out.rules
  go_wp2_with fail
  refine (C1.out _).mono ?_
  rintro e w2 ⟨rfl, hb⟩
  replace HX := Lib.hid (HX.out.below hb HX.out.lt)
  replace HB : Hid (Below w.heap.size w w2) := Lib.hid (HB.out.trans (hb.mono HB.out.size))
  clear hb C1 c0 c1 c2
  obtain ⟨c0, c1, c2⟩ := HX.out.rules
  by_cases ha : h ≤ a
  · have HG : Hid ((0, D) = (X, D)) := Lib.hid (by rw [HF.out.1 ha])
    clear HF
    go_wp2_with fail
    go_ret2
    exact ⟨ret_pair HG.out, HB.out⟩
  by_cases hb : b ≤ h
  · have HG : Hid ((D, D) = (X, D)) := Lib.hid (by rw [HF.out.2.1 (by omega) (by omega)])
    clear HF
    go_wp2_with fail
    go_ret2
    exact ⟨ret_pair HG.out, HB.out⟩
  · have HG : Hid (((h - a + 23) / 24, D) = (X, D)) := Lib.hid (by rw [HF.out.2.2 (by omega) (by omega)])
    have h3 : a < h := by omega
    have h4 : h < b := by omega
    clear HF ha hb
    go_wp2_with ((go_at_call 82; refine (begun_any _ _ (by omega) (by omega)).mono ?_; rintro e w' ⟨rfl, rfl⟩))
    go_ret2
    exact ⟨ret_pair HG.out, HB.out⟩

set_option maxHeartbeats 400000 in
theorem rdays_any (a b : Int) (w : World) (h0 : 0 ≤ a) (h1 : a < b) (h2 : b ≤ 876600) : Calls Try.prog 70 #[.agg #[.int .i64 a, .int .i64 b]] w (IntPost (Rn.days a b) w) := by
  have C1 : Hid (∀ W, Calls Try.prog 53 #[.agg #[.int .i64 a, .int .i64 b]] W (BoolPost true W)) := Lib.hid fun W => by have := rperiod_any a b W; rw [perP_fine h0 h1 h2] at this; exact this
  have HX := Lib.hid (Has.new w #[.int .i64 a, .int .i64 b] 23)
  have HB := Lib.hid ((Below.refl w.heap.size w).alloc (Nat.le_refl _) (.cells #[.int .i64 a, .int .i64 b] 23))
  go_enter Try.func70, Try.ntmps70
  go_wp2_with fail
  refine (C1.out _).mono ?_
  rintro e w1 ⟨rfl, hb⟩
  replace HX := Lib.hid (HX.out.below hb HX.out.lt)
  replace HB : Hid (Below w.heap.size w w1) := Lib.hid (HB.out.trans (hb.mono HB.out.size))
  clear hb C1
  obtain ⟨c0, c1, c2⟩ := HX.out.rules
  go_wp2_with fail
  go_ret
  exact ⟨rfl, HB.out⟩

set_option maxHeartbeats 1000000 in
theorem relapsed_any (a b h : Int) (w : World) (h0 : 0 ≤ a) (h1 : a < b) (h2 : b ≤ 876600) (g0 : 0 ≤ h) (g1 : h ≤ 876599) :
    Calls Try.prog 47 #[.agg #[.int .i64 a, .int .i64 b], .int .i64 h] w (PairPost (Rn.gone a b h, Rn.days a b) w) := by
  have hdp := Rn.days_pos h1
  obtain ⟨D, hD⟩ : ∃ D, Rn.days a b = D := ⟨_, rfl⟩
  obtain ⟨X, hX⟩ : ∃ X, Rn.gone a b h = X := ⟨_, rfl⟩
  have C2 : Hid (∀ W, Calls Try.prog 70 #[.agg #[.int .i64 a, .int .i64 b]] W (IntPost D W)) := Lib.hid fun W => by rw [← hD]; exact rdays_any a b W h0 h1 h2
  have HF : Hid ((h ≤ a → 0 = X) ∧ (¬ h ≤ a → b ≤ h → D = X) ∧ (¬ h ≤ a → ¬ b ≤ h → (h - a + 23) / 24 = X)) := Lib.hid (by
    rw [← hX, ← hD]
    unfold Rn.gone
    refine ⟨fun c => by rw [if_pos c], fun c d => by rw [if_neg c, if_pos d], fun c d => by rw [if_neg c, if_neg d]⟩)
  have HX := Lib.hid (Has.new w #[.int .i64 a, .int .i64 b] 23)
  have HB := Lib.hid ((Below.refl w.heap.size w).alloc (Nat.le_refl _) (.cells #[.int .i64 a, .int .i64 b] 23))
  rw [hD] at hdp
  rw [hD, hX]
  clear hD hX
  have hd0 : (D == 0) = false := by rw [beq_eq_false_iff_ne]; omega
  go_enter Try.func47, Try.ntmps47
  go_wp2_with fail
  refine (C2.out _).mono ?_
  rintro e w1 ⟨rfl, hb⟩
  replace HX := Lib.hid (HX.out.below hb HX.out.lt)
  replace HB : Hid (Below w.heap.size w w1) := Lib.hid (HB.out.trans (hb.mono HB.out.size))
  clear hb C2
  obtain ⟨c0, c1, c2⟩ := HX.out.rules
  by_cases ha : h ≤ a
  · have HG : Hid ((0, D) = (X, D)) := Lib.hid (by rw [HF.out.1 ha])
    clear HF
    go_wp2_with fail
    go_ret2
    exact ⟨ret_pair HG.out, HB.out⟩
  by_cases hb : b ≤ h
  · have HG : Hid ((D, D) = (X, D)) := Lib.hid (by rw [HF.out.2.1 (by omega) (by omega)])
    clear HF
    go_wp2_with fail
    go_ret2
    exact ⟨ret_pair HG.out, HB.out⟩
  · have HG : Hid (((h - a + 23) / 24, D) = (X, D)) := Lib.hid (by rw [HF.out.2.2 (by omega) (by omega)])
    have h3 : a < h := by omega
    have h4 : h < b := by omega
    clear HF ha hb
    go_wp2_with fail
    go_ret2
    exact ⟨ret_pair HG.out, HB.out⟩
end Go.Proofs.Ytlmgfcgakdanaaa
