/- excess.Validate and the reference's Indices: the first fault of a table. -/
import Derived.Test.YtigoeaidlgofoaaExA
import Derived.Test.YtigoeaidlgofoaaPairs
import Derived.Deep.QuietTactic
import Derived.BigQuiet
namespace Go.Proofs.Ytigoeaidlgofoaa
open Go.RowKit

theorem Ex.ic_bad {f g : Nat → Int} {i : Nat} (h : ¬ (Ex.hourP (f i) ∧ Ex.idxP (g i))) : Ex.ic f g i = 1 := if_pos h
theorem Ex.ic_order {f g : Nat → Int} {i : Nat} (h : Ex.hourP (f i) ∧ Ex.idxP (g i)) (h2 : 0 < i ∧ f i ≤ f (i - 1)) : Ex.ic f g i = 13 := by rw [Ex.ic, if_neg (fun c => c h), if_pos h2]
theorem Ex.ic_fine {f g : Nat → Int} {i : Nat} (h : Ex.hourP (f i) ∧ Ex.idxP (g i)) (h2 : ¬ (0 < i ∧ f i ≤ f (i - 1))) : Ex.ic f g i = 0 := by rw [Ex.ic, if_neg (fun c => c h), if_neg h2]

set_option maxHeartbeats 1000000 in
theorem exvalidate_any (A : Option Addr) (n c : Nat) (f g : Nat → Int) (w : World) (hn : n ≤ 9223372036854775807) (h : Pairs w w.heap.size A n f g) :
    Calls Try.prog 27 #[.slice A n c] w (IntPost (Ex.ierr n f g) w) := by
  by_cases hl : 100 < n
  · have e : Ex.ierr n f g = 4 := if_pos hl
    rw [e]
    clear h e
    go_enter Try.func27, Try.ntmps27
    go_wp2
    go_ret
    exact ⟨rfl, Below.refl _ _⟩
  have hl' : n ≤ 100 := by omega
  obtain ⟨r, hr⟩ : ∃ r, Ex.ierr n f g = r := ⟨_, rfl⟩
  have HR : Hid (scan (Ex.ic f g) (n - 0) 0 = r) := Lib.hid (by rw [← hr, Ex.ierr, if_neg hl]; rfl)
  rw [hr]
  have H := Lib.hid h
  clear hl hr h hn
  go_enter Try.func27, Try.ntmps27
  go_wp2
  go_loopw [3, 4, 10] (fun _ _ i wr => ∃ k : Nat, k ≤ n ∧ i = .int .i64 k ∧ Hid (scan (Ex.ic f g) (n - k) k = r) ∧ Hid (Below w.heap.size w wr)) (fun _ _ i _ => n - (intOf i).toNat)
  case atStart => exact ⟨0, Nat.zero_le _, rfl, HR, Lib.hid (Below.refl _ _)⟩
  case round =>
    obtain ⟨k, hk, rfl, HS, HB⟩ := hrel
    have hs := HB.out.size
    by_cases hlt : k < n
    · obtain ⟨b, o, rfl, had, hc0, hc1⟩ := ((H.out.below HB.out).mono hs).get hlt
      obtain ⟨x, hx⟩ : ∃ x, f k = x := ⟨_, rfl⟩
      obtain ⟨y, hy⟩ : ∃ y, g k = y := ⟨_, rfl⟩
      rw [hx] at hc0
      rw [hy] at hc1
      have HX := Lib.hid hx
      have HY := Lib.hid hy
      clear hx hy
      by_cases hh : 0 ≤ x ∧ x ≤ 876599
      · obtain ⟨hh0, hh1⟩ := hh
        by_cases hi : 1 ≤ y ∧ y ≤ 1000000000
        · obtain ⟨hi0, hi1⟩ := hi
          have hP : Ex.hourP (f k) ∧ Ex.idxP (g k) := by rw [HX.out, HY.out]; exact ⟨⟨hh0, hh1⟩, hi0, hi1⟩
          have HP := Lib.hid hP
          clear hP
          cases k with
          | zero =>
            have HG : Hid (scan (Ex.ic f g) (n - (0 + 1)) (0 + 1) = r) := Lib.hid (by rw [← scan_go _ hlt (Ex.ic_fine HP.out (by omega))]; exact HS.out)
            clear HP HX HY HS
            simp only [Nat.zero_mul, Nat.add_zero] at hc0 hc1
            go_wp2_with (first | (go_at_call 40; refine (exwithin_any _ _ _ _).mono ?_; rintro e w' ⟨rfl, rfl⟩))
            go_quiet (fail)
            go_wp2_with fail
            go_roundw
            case rel => exact ⟨0 + 1, by omega, rfl, HG, Lib.hid (below_drewN (HB.out.alloc hs _) _)⟩
            case measure => simp [intOf]; omega
          | succ j =>
            obtain ⟨b', o', e', _, hp0, _⟩ := ((H.out.below HB.out).mono hs).get (j := j) (by omega)
            simp only [Option.some.injEq, Addr.mk.injEq, and_true] at e'
            obtain ⟨rfl, rfl⟩ := e'
            obtain ⟨p, hp⟩ : ∃ p, f j = p := ⟨_, rfl⟩
            rw [hp] at hp0
            have HPP := Lib.hid hp
            have hw : IntKind.i64.wrap (((j + 1 : Nat) : Int) - 1) = j := by rw [IntKind.wrap_i64]; omega
            have hj0 : (0 : Int) ≤ j := by omega
            have hj1 : (j : Int) < n := by omega
            clear hp
            by_cases ho : x ≤ p
            · have HG : Hid (13 = r) := Lib.hid (by rw [← HS.out, scan_stop _ hlt (by rw [Ex.ic_order HP.out ⟨by omega, by rw [HX.out, Nat.add_sub_cancel, HPP.out]; exact ho⟩]; omega), Ex.ic_order HP.out ⟨by omega, by rw [HX.out, Nat.add_sub_cancel, HPP.out]; exact ho⟩])
              clear HP HX HY HS HPP
              go_wp2_with (first | (go_at_call 40; refine (exwithin_any _ _ _ _).mono ?_; rintro e w' ⟨rfl, rfl⟩))
              go_quiet (fail)
              go_wp2_with fail
              go_ret
              exact ⟨ret_i64 HG.out, below_drewN (HB.out.alloc hs _) _⟩
            · have HG : Hid (scan (Ex.ic f g) (n - (j + 1 + 1)) (j + 1 + 1) = r) := Lib.hid (by rw [← scan_go _ hlt (Ex.ic_fine HP.out (by rw [HX.out, Nat.add_sub_cancel, HPP.out]; omega))]; exact HS.out)
              clear HP HX HY HS HPP
              go_wp2_with (first | (go_at_call 40; refine (exwithin_any _ _ _ _).mono ?_; rintro e w' ⟨rfl, rfl⟩))
              go_quiet (fail)
              go_wp2_with fail
              go_roundw
              case rel => exact ⟨j + 1 + 1, by omega, by go_num, HG, Lib.hid (below_drewN (HB.out.alloc hs _) _)⟩
              case measure => simp [intOf]; omega
        · have hP : ¬ (Ex.hourP (f k) ∧ Ex.idxP (g k)) := by rw [HX.out, HY.out]; unfold Ex.idxP; omega
          have HG : Hid (1 = r) := Lib.hid (by rw [← HS.out, scan_stop _ hlt (by rw [Ex.ic_bad hP]; omega), Ex.ic_bad hP])
          have hd : decide (1 ≤ y ∧ y ≤ 1000000000) = false := by rw [decide_eq_false_iff_not]; exact hi
          clear hP HX HY HS hi
          go_wp2_with (first | (go_at_call 40; refine (exwithin_any _ _ _ _).mono ?_; rintro e w' ⟨rfl, rfl⟩))
          go_ret
          exact ⟨ret_i64 HG.out, HB.out.alloc hs _⟩
      · have hP : ¬ (Ex.hourP (f k) ∧ Ex.idxP (g k)) := by rw [HX.out, HY.out]; unfold Ex.hourP; omega
        have HG : Hid (1 = r) := Lib.hid (by rw [← HS.out, scan_stop _ hlt (by rw [Ex.ic_bad hP]; omega), Ex.ic_bad hP])
        have hd : decide (0 ≤ x ∧ x ≤ 876599) = false := by rw [decide_eq_false_iff_not]; exact hh
        clear hP HX HY HS hh
        go_wp2_with (first | (go_at_call 40; refine (exwithin_any _ _ _ _).mono ?_; rintro e w' ⟨rfl, rfl⟩))
        go_ret
        exact ⟨ret_i64 HG.out, HB.out.alloc hs _⟩
    · obtain rfl : k = n := by omega
      have HE : Hid (0 = r) := Lib.hid (by rw [← HS.out, scan_end])
      go_wp2
      go_ret
      exact ⟨ret_i64 HE.out, HB.out⟩

set_option maxHeartbeats 1000000 in
theorem rindices_any (A : Option Addr) (n c : Nat) (f g : Nat → Int) (w : World) (hn : n ≤ 9223372036854775807) (h : Pairs w w.heap.size A n f g) :
    Calls Try.prog 28 #[.slice A n c] w (IntPost (Ex.ierr n f g) w) := by
  by_cases hl : 100 < n
  · have e : Ex.ierr n f g = 4 := if_pos hl
    rw [e]
    clear h e
    go_enter Try.func28, Try.ntmps28
    go_wp2
    go_ret
    exact ⟨rfl, Below.refl _ _⟩
  have hl' : n ≤ 100 := by omega
  obtain ⟨r, hr⟩ : ∃ r, Ex.ierr n f g = r := ⟨_, rfl⟩
  have HR : Hid (scan (Ex.ic f g) (n - 0) 0 = r) := Lib.hid (by rw [← hr, Ex.ierr, if_neg hl]; rfl)
  rw [hr]
  have H := Lib.hid h
  clear hl hr h hn
  go_enter Try.func28, Try.ntmps28
  go_wp2
  go_loopw [3] (fun i wr => ∃ k : Nat, k ≤ n ∧ i = .int .i64 k ∧ Hid (scan (Ex.ic f g) (n - k) k = r) ∧ Hid (Below w.heap.size w wr)) (fun i _ => n - (intOf i).toNat)
  case atStart => exact ⟨0, Nat.zero_le _, rfl, HR, Lib.hid (Below.refl _ _)⟩
  case round =>
    obtain ⟨k, hk, rfl, HS, HB⟩ := hrel
    have hs := HB.out.size
    by_cases hlt : k < n
    · obtain ⟨b, o, rfl, had, hc0, hc1⟩ := ((H.out.below HB.out).mono hs).get hlt
      obtain ⟨x, hx⟩ : ∃ x, f k = x := ⟨_, rfl⟩
      obtain ⟨y, hy⟩ : ∃ y, g k = y := ⟨_, rfl⟩
      rw [hx] at hc0
      rw [hy] at hc1
      have HX := Lib.hid hx
      have HY := Lib.hid hy
      clear hx hy
      by_cases hh : 0 ≤ x ∧ x ≤ 876599
      · obtain ⟨hh0, hh1⟩ := hh
        by_cases hi : 1 ≤ y ∧ y ≤ 1000000000
        · obtain ⟨hi0, hi1⟩ := hi
          have hP : Ex.hourP (f k) ∧ Ex.idxP (g k) := by rw [HX.out, HY.out]; exact ⟨⟨hh0, hh1⟩, hi0, hi1⟩
          have HP := Lib.hid hP
          clear hP
          cases k with
          | zero =>
            have HG : Hid (scan (Ex.ic f g) (n - (0 + 1)) (0 + 1) = r) := Lib.hid (by rw [← scan_go _ hlt (Ex.ic_fine HP.out (by omega))]; exact HS.out)
            clear HP HX HY HS
            simp only [Nat.zero_mul, Nat.add_zero] at hc0 hc1
            go_wp2_with (first | (go_at_call 42; refine (inhours_any _ _).mono ?_; rintro e w' ⟨rfl, rfl⟩))
            go_quiet (fail)
            go_wp2_with fail
            go_roundw
            case rel => exact ⟨0 + 1, by omega, rfl, HG, Lib.hid (below_drewN HB.out _)⟩
            case measure => simp [intOf]; omega
          | succ j =>
            obtain ⟨b', o', e', _, hp0, _⟩ := ((H.out.below HB.out).mono hs).get (j := j) (by omega)
            simp only [Option.some.injEq, Addr.mk.injEq, and_true] at e'
            obtain ⟨rfl, rfl⟩ := e'
            obtain ⟨p, hp⟩ : ∃ p, f j = p := ⟨_, rfl⟩
            rw [hp] at hp0
            have HPP := Lib.hid hp
            have hw : IntKind.i64.wrap (((j + 1 : Nat) : Int) - 1) = j := by rw [IntKind.wrap_i64]; omega
            have hj0 : (0 : Int) ≤ j := by omega
            have hj1 : (j : Int) < n := by omega
            clear hp
            by_cases ho : x ≤ p
            · have HG : Hid (13 = r) := Lib.hid (by rw [← HS.out, scan_stop _ hlt (by rw [Ex.ic_order HP.out ⟨by omega, by rw [HX.out, Nat.add_sub_cancel, HPP.out]; exact ho⟩]; omega), Ex.ic_order HP.out ⟨by omega, by rw [HX.out, Nat.add_sub_cancel, HPP.out]; exact ho⟩])
              clear HP HX HY HS HPP
              go_wp2_with (first | (go_at_call 42; refine (inhours_any _ _).mono ?_; rintro e w' ⟨rfl, rfl⟩))
              go_quiet (fail)
              go_wp2_with fail
              go_ret
              exact ⟨ret_i64 HG.out, below_drewN HB.out _⟩
            · have HG : Hid (scan (Ex.ic f g) (n - (j + 1 + 1)) (j + 1 + 1) = r) := Lib.hid (by rw [← scan_go _ hlt (Ex.ic_fine HP.out (by rw [HX.out, Nat.add_sub_cancel, HPP.out]; omega))]; exact HS.out)
              clear HP HX HY HS HPP
              go_wp2_with (first | (go_at_call 42; refine (inhours_any _ _).mono ?_; rintro e w' ⟨rfl, rfl⟩))
              go_quiet (fail)
              go_wp2_with fail
              go_roundw
              case rel => exact ⟨j + 1 + 1, by omega, by go_num, HG, Lib.hid (below_drewN HB.out _)⟩
              case measure => simp [intOf]; omega
        · have hP : ¬ (Ex.hourP (f k) ∧ Ex.idxP (g k)) := by rw [HX.out, HY.out]; unfold Ex.idxP; omega
          have HG : Hid (1 = r) := Lib.hid (by rw [← HS.out, scan_stop _ hlt (by rw [Ex.ic_bad hP]; omega), Ex.ic_bad hP])
          have hi' : y < 1 ∨ 1 ≤ y ∧ 1000000000 < y := by omega
          clear hP HX HY HS hi
          rcases hi' with hi | ⟨hi, hi2⟩
          all_goals
            go_wp2_with (first | (go_at_call 42; refine (inhours_any _ _).mono ?_; rintro e w' ⟨rfl, rfl⟩))
            go_ret
            exact ⟨ret_i64 HG.out, HB.out⟩
      · have hP : ¬ (Ex.hourP (f k) ∧ Ex.idxP (g k)) := by rw [HX.out, HY.out]; unfold Ex.hourP; omega
        have HG : Hid (1 = r) := Lib.hid (by rw [← HS.out, scan_stop _ hlt (by rw [Ex.ic_bad hP]; omega), Ex.ic_bad hP])
        have hd : decide (0 ≤ x ∧ x ≤ 876599) = false := by rw [decide_eq_false_iff_not]; exact hh
        clear hP HX HY HS hh
        go_wp2_with (first | (go_at_call 42; refine (inhours_any _ _).mono ?_; rintro e w' ⟨rfl, rfl⟩))
        go_ret
        exact ⟨ret_i64 HG.out, HB.out⟩
    · obtain rfl : k = n := by omega
      have HE : Hid (0 = r) := Lib.hid (by rw [← HS.out, scan_end])
      go_wp2
      go_ret
      exact ⟨ret_i64 HE.out, HB.out⟩
end Go.Proofs.Ytigoeaidlgofoaa
