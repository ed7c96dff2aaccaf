/- Parts of contract.Validate and of the reference's: ranges, periods, ascending lists, participations. -/
import Derived.Test.YtlmgfcgakdanaaaTyMath
import Derived.Test.YtlmgfcgakdanaaaExA
import Derived.Deep.QuietTactic
import Derived.BigQuiet
namespace Go.Proofs.Ytlmgfcgakdanaaa
open Go.RowKit
set_option linter.unusedVariables false

set_option maxHeartbeats 400000 in
theorem tywithin_any (n lo hi : Int) (w : World) : Calls Try.prog 71 #[.int .i64 n, .int .i64 lo, .int .i64 hi] w fun e w' => e = .returned (.bool (decide (lo ≤ n ∧ n ≤ hi))) ∧ w = w' := by
  by_cases h0 : lo ≤ n
  · by_cases h1 : n ≤ hi
    · go_enter Try.func71, Try.ntmps71
      go_wp2
      go_ret
      exact ⟨by simp [h0, h1], rfl⟩
    · go_enter Try.func71, Try.ntmps71
      go_wp2
      go_ret
      exact ⟨by simp; omega, rfl⟩
  · go_enter Try.func71, Try.ntmps71
    go_wp2
    go_ret
    exact ⟨by simp; omega, rfl⟩

/-- a truth that is returned; memory is made and nothing else changes -/
def BoolPost (b : Bool) (w : World) (e : Ending) (w' : World) : Prop := e = .returned (.bool b) ∧ Below w.heap.size w w'
theorem ret_bool {a b : Bool} (h : a = b) : Ending.returned (.bool a) = .returned (.bool b) := by rw [h]

theorem Ty.perP_false {a b : Int} (h : ¬ (0 ≤ a ∧ a < b ∧ b ≤ 876600)) : false = Ty.perP a b := (decide_eq_false_iff_not.2 h).symm
theorem Ty.perP_true {a b : Int} (h : 0 ≤ a ∧ a < b ∧ b ≤ 876600) : true = Ty.perP a b := (decide_eq_true h).symm

set_option maxHeartbeats 1000000 in
theorem period_any (a b : Int) (w : World) : Calls Try.prog 72 #[.agg #[.int .i64 a, .int .i64 b]] w (BoolPost (Ty.perP a b) w) := by
  have hf : ¬ (0 ≤ a ∧ a < b ∧ b ≤ 876600) → Hid (false = Ty.perP a b) := fun h => Lib.hid (Ty.perP_false h)
  have ht : (0 ≤ a ∧ a < b ∧ b ≤ 876600) → Hid (true = Ty.perP a b) := fun h => Lib.hid (Ty.perP_true h)
  by_cases h0 : 0 ≤ a
  · by_cases h1 : a < b
    · by_cases h2 : b ≤ 876600
      · have HG := ht ⟨h0, h1, h2⟩
        clear hf ht
        go_enter Try.func72, Try.ntmps72
        go_wp2
        go_ret
        exact ⟨ret_bool HG.out, (Below.refl _ _).alloc (Nat.le_refl _) _⟩
      · have HG := hf (by omega)
        clear hf ht
        go_enter Try.func72, Try.ntmps72
        go_wp2
        go_ret
        exact ⟨ret_bool HG.out, (Below.refl _ _).alloc (Nat.le_refl _) _⟩
    · have HG := hf (by omega)
      clear hf ht
      go_enter Try.func72, Try.ntmps72
      go_wp2
      go_ret
      exact ⟨ret_bool HG.out, (Below.refl _ _).alloc (Nat.le_refl _) _⟩
  · have HG := hf (by omega)
    clear hf ht
    go_enter Try.func72, Try.ntmps72
    go_wp2
    go_ret
    exact ⟨ret_bool HG.out, (Below.refl _ _).alloc (Nat.le_refl _) _⟩

set_option maxHeartbeats 1000000 in
theorem rperiod_any (a b : Int) (w : World) : Calls Try.prog 53 #[.agg #[.int .i64 a, .int .i64 b]] w (BoolPost (Ty.perP a b) w) := by
  have hf : ¬ (0 ≤ a ∧ a < b ∧ b ≤ 876600) → Hid (false = Ty.perP a b) := fun h => Lib.hid (Ty.perP_false h)
  have ht : (0 ≤ a ∧ a < b ∧ b ≤ 876600) → Hid (true = Ty.perP a b) := fun h => Lib.hid (Ty.perP_true h)
  by_cases h0 : 0 ≤ a
  · by_cases h1 : a < b
    · by_cases h2 : b ≤ 876600
      · have HG := ht ⟨h0, h1, h2⟩
        clear hf ht
        go_enter Try.func53, Try.ntmps53
        go_wp2
        go_ret
        exact ⟨ret_bool HG.out, (Below.refl _ _).alloc (Nat.le_refl _) _⟩
      · have HG := hf (by omega)
        clear hf ht
        go_enter Try.func53, Try.ntmps53
        go_wp2
        go_ret
        exact ⟨ret_bool HG.out, (Below.refl _ _).alloc (Nat.le_refl _) _⟩
    · have HG := hf (by omega)
      clear hf ht
      go_enter Try.func53, Try.ntmps53
      go_wp2
      go_ret
      exact ⟨ret_bool HG.out, (Below.refl _ _).alloc (Nat.le_refl _) _⟩
  · have HG := hf (by omega)
    clear hf ht
    go_enter Try.func53, Try.ntmps53
    go_wp2
    go_ret
    exact ⟨ret_bool HG.out, (Below.refl _ _).alloc (Nat.le_refl _) _⟩

set_option maxHeartbeats 1000000 in
theorem asc_any (A : Option Addr) (n c : Nat) (f : Nat → Int) (a z : Int) (w : World) (hn : n ≤ 9223372036854775807) (h : Nums w w.heap.size A n f) :
    Calls Try.prog 73 #[.slice A n c, .int .i64 a, .int .i64 z] w (IntPost (Ty.asc a z n f) w) := by
  obtain ⟨r, hr⟩ : ∃ r, Ty.asc a z n f = r := ⟨_, rfl⟩
  have HR : Hid (scan (Ty.ac a z f) (n - 0) 0 = r) := Lib.hid hr
  rw [hr]
  have H := Lib.hid h
  clear hr h
  go_enter Try.func73, Try.ntmps73
  go_wp2
  go_loop [7, 8, 11] (fun _ _ i => ∃ k : Nat, k ≤ n ∧ i = .int .i64 k ∧ Hid (scan (Ty.ac a z f) (n - k) k = r)) (fun _ _ i => n - (intOf i).toNat)
  case atStart => exact ⟨0, Nat.zero_le _, rfl, HR⟩
  case round =>
    obtain ⟨k, hk, rfl, HS⟩ := hrel
    by_cases hlt : k < n
    · obtain ⟨b, o, rfl, had, hc0⟩ := H.out.get hlt
      obtain ⟨x, hx⟩ : ∃ x, f k = x := ⟨_, rfl⟩
      rw [hx] at hc0
      have HX := Lib.hid hx
      clear hx
      by_cases hh : a ≤ x ∧ x ≤ z
      · obtain ⟨hh0, hh1⟩ := hh
        have hP : a ≤ f k ∧ f k ≤ z := by rw [HX.out]; exact ⟨hh0, hh1⟩
        have HP := Lib.hid hP
        clear hP
        cases k with
        | zero =>
          have HG : Hid (scan (Ty.ac a z f) (n - (0 + 1)) (0 + 1) = r) := Lib.hid (by rw [← scan_go _ hlt (Ty.ac_fine HP.out (by omega))]; exact HS.out)
          clear HP HX HS
          simp only [Nat.add_zero] at hc0
          go_wp2_with (go_at_call 71; refine (tywithin_any _ _ _ _).mono ?_; rintro e w' ⟨rfl, rfl⟩)
          go_round
          case rel => exact ⟨0 + 1, by omega, rfl, HG⟩
          case measure => simp [intOf]; omega
        | succ j =>
          obtain ⟨b', o', e', _, hp0⟩ := H.out.get (j := j) (by omega)
          simp only [Option.some.injEq, Addr.mk.injEq, and_true] at e'
          obtain ⟨rfl, rfl⟩ := e'
          obtain ⟨p, hp⟩ : ∃ p, f j = p := ⟨_, rfl⟩
          rw [hp] at hp0
          have HPP := Lib.hid hp
          have hw : IntKind.i64.wrap (((j + 1 : Nat) : Int) - 1) = j := by rw [IntKind.wrap_i64]; omega
          have hj0 : (0 : Int) ≤ j := by omega
          have hj1 : (j : Int) < n := by omega
          clear hp
          by_cases ho : x ≤ p
          · have HG : Hid (13 = r) := Lib.hid (by rw [← HS.out, scan_stop _ hlt (by rw [Ty.ac_order HP.out ⟨by omega, by rw [HX.out, Nat.add_sub_cancel, HPP.out]; exact ho⟩]; omega), Ty.ac_order HP.out ⟨by omega, by rw [HX.out, Nat.add_sub_cancel, HPP.out]; exact ho⟩])
            clear HP HX HS HPP
            go_wp2_with (go_at_call 71; refine (tywithin_any _ _ _ _).mono ?_; rintro e w' ⟨rfl, rfl⟩)
            go_ret
            exact ⟨ret_i64 HG.out, Below.refl _ _⟩
          · have HG : Hid (scan (Ty.ac a z f) (n - (j + 1 + 1)) (j + 1 + 1) = r) := Lib.hid (by rw [← scan_go _ hlt (Ty.ac_fine HP.out (by rw [HX.out, Nat.add_sub_cancel, HPP.out]; omega))]; exact HS.out)
            clear HP HX HS HPP
            go_wp2_with (go_at_call 71; refine (tywithin_any _ _ _ _).mono ?_; rintro e w' ⟨rfl, rfl⟩)
            go_round
            case rel => exact ⟨j + 1 + 1, by omega, by go_num, HG⟩
            case measure => simp [intOf]; omega
      · have hP : ¬ (a ≤ f k ∧ f k ≤ z) := by rw [HX.out]; exact hh
        have HG : Hid (1 = r) := Lib.hid (by rw [← HS.out, scan_stop _ hlt (by rw [Ty.ac_bad hP]; omega), Ty.ac_bad hP])
        have hd : decide (a ≤ x ∧ x ≤ z) = false := by rw [decide_eq_false_iff_not]; exact hh
        clear hP HX HS hh
        go_wp2_with (go_at_call 71; refine (tywithin_any _ _ _ _).mono ?_; rintro e w' ⟨rfl, rfl⟩)
        go_ret
        exact ⟨ret_i64 HG.out, Below.refl _ _⟩
    · obtain rfl : k = n := by omega
      have HE : Hid (0 = r) := Lib.hid (by rw [← HS.out, scan_end])
      go_wp2
      go_ret
      exact ⟨ret_i64 HE.out, Below.refl _ _⟩

set_option maxHeartbeats 1000000 in
theorem rasc_any (A : Option Addr) (n c : Nat) (f : Nat → Int) (a z : Int) (w : World) (hn : n ≤ 9223372036854775807) (h : Nums w w.heap.size A n f) :
    Calls Try.prog 54 #[.slice A n c, .int .i64 a, .int .i64 z] w (IntPost (Ty.asc a z n f) w) := by
  obtain ⟨r, hr⟩ : ∃ r, Ty.asc a z n f = r := ⟨_, rfl⟩
  have HR : Hid (scan (Ty.ac a z f) (n - 0) 0 = r) := Lib.hid hr
  rw [hr]
  have H := Lib.hid h
  clear hr h
  go_enter Try.func54, Try.ntmps54
  go_wp2
  go_loopw [7] (fun i wr => ∃ k : Nat, k ≤ n ∧ i = .int .i64 k ∧ Hid (scan (Ty.ac a z f) (n - k) k = r) ∧ Hid (Below w.heap.size w wr)) (fun i _ => n - (intOf i).toNat)
  case atStart => exact ⟨0, Nat.zero_le _, rfl, HR, Lib.hid (Below.refl _ _)⟩
  case round =>
    obtain ⟨k, hk, rfl, HS, HB⟩ := hrel
    have hs := HB.out.size
    by_cases hlt : k < n
    · obtain ⟨b, o, rfl, had, hc0⟩ := ((H.out.below HB.out).mono hs).get hlt
      obtain ⟨x, hx⟩ : ∃ x, f k = x := ⟨_, rfl⟩
      rw [hx] at hc0
      have HX := Lib.hid hx
      clear hx
      by_cases hh : a ≤ x ∧ x ≤ z
      · obtain ⟨hh0, hh1⟩ := hh
        have hP : a ≤ f k ∧ f k ≤ z := by rw [HX.out]; exact ⟨hh0, hh1⟩
        have HP := Lib.hid hP
        clear hP
        cases k with
        | zero =>
          have HG : Hid (scan (Ty.ac a z f) (n - (0 + 1)) (0 + 1) = r) := Lib.hid (by rw [← scan_go _ hlt (Ty.ac_fine HP.out (by omega))]; exact HS.out)
          clear HP HX HS
          simp only [Nat.add_zero] at hc0
          go_wp2
          go_quiet (fail)
          go_wp2_with fail
          go_roundw
          case rel => exact ⟨0 + 1, by omega, rfl, HG, Lib.hid (below_drewN HB.out _)⟩
          case measure => simp [intOf]; omega
        | succ j =>
          obtain ⟨b', o', e', _, hp0⟩ := ((H.out.below HB.out).mono hs).get (j := j) (by omega)
          simp only [Option.some.injEq, Addr.mk.injEq, and_true] at e'
          obtain ⟨rfl, rfl⟩ := e'
          obtain ⟨p, hp⟩ : ∃ p, f j = p := ⟨_, rfl⟩
          rw [hp] at hp0
          have HPP := Lib.hid hp
          have hw : IntKind.i64.wrap (((j + 1 : Nat) : Int) - 1) = j := by rw [IntKind.wrap_i64]; omega
          have hj0 : (0 : Int) ≤ j := by omega
          have hj1 : (j : Int) < n := by omega
          have hk1 : ((j : Int) + 1) < n := by omega
          clear hp
          by_cases ho : x ≤ p
          · have HG : Hid (13 = r) := Lib.hid (by rw [← HS.out, scan_stop _ hlt (by rw [Ty.ac_order HP.out ⟨by omega, by rw [HX.out, Nat.add_sub_cancel, HPP.out]; exact ho⟩]; omega), Ty.ac_order HP.out ⟨by omega, by rw [HX.out, Nat.add_sub_cancel, HPP.out]; exact ho⟩])
            clear HP HX HS HPP
            go_wp2
            go_quiet (fail)
            go_wp2_with fail
            go_ret
            exact ⟨ret_i64 HG.out, below_drewN HB.out _⟩
          · have HG : Hid (scan (Ty.ac a z f) (n - (j + 1 + 1)) (j + 1 + 1) = r) := Lib.hid (by rw [← scan_go _ hlt (Ty.ac_fine HP.out (by rw [HX.out, Nat.add_sub_cancel, HPP.out]; omega))]; exact HS.out)
            clear HP HX HS HPP
            go_wp2
            go_quiet (fail)
            go_wp2_with fail
            go_roundw
            case rel => exact ⟨j + 1 + 1, by omega, by go_num, HG, Lib.hid (below_drewN HB.out _)⟩
            case measure => simp [intOf]; omega
      · have hP : ¬ (a ≤ f k ∧ f k ≤ z) := by rw [HX.out]; exact hh
        have HG : Hid (1 = r) := Lib.hid (by rw [← HS.out, scan_stop _ hlt (by rw [Ty.ac_bad hP]; omega), Ty.ac_bad hP])
        have hi' : x < a ∨ a ≤ x ∧ z < x := by omega
        clear hP HX HS hh
        rcases hi' with hi | ⟨hi, hi2⟩
        all_goals
          go_wp2
          go_ret
          exact ⟨ret_i64 HG.out, HB.out⟩
    · obtain rfl : k = n := by omega
      have HE : Hid (0 = r) := Lib.hid (by rw [← HS.out, scan_end])
      go_wp2
      go_ret
      exact ⟨ret_i64 HE.out, HB.out⟩
end Go.Proofs.Ytlmgfcgakdanaaa
