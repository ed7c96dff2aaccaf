/- Participations: contract.Parts and the reference's; whether a list holds a number. -/
import Derived.Test.YtlmgfcgakdanaaaTyA
import Derived.Test.YtlmgfcgakdanaaaShelf
namespace Go.Proofs.Ytlmgfcgakdanaaa
open Go.RowKit
set_option linter.unusedVariables false

theorem Ty.perr_bad {n : Nat} {f g : Nat → Int} {r : Int} (hl : ¬ 12 < n) (h : scan (Ty.pc f g) n 0 = r) (hr : r ≠ 0) : Ty.perr n f g = r := by
  unfold Ty.perr Ty.perr0
  rw [if_neg hl, h, if_pos hr]
theorem Ty.perr_end {n : Nat} {f g : Nat → Int} (hl : ¬ 12 < n) (h : scan (Ty.pc f g) n 0 = 0) : Ty.perr n f g = if 1000000 < Ex.psum g n then 14 else 0 := by
  unfold Ty.perr Ty.perr0
  rw [if_neg hl, h, if_neg (fun c => c rfl)]

set_option maxHeartbeats 2000000 in
theorem parts_any (A : Option Addr) (n c : Nat) (f g : Nat → Int) (w : World) (hn : n ≤ 9223372036854775807) (h : Pairs w w.heap.size A n f g) :
    Calls Try.prog 76 #[.slice A n c] w (IntPost (Ty.perr n f g) w) := by
  by_cases hl : 12 < n
  · have e : Ty.perr n f g = 4 := by unfold Ty.perr Ty.perr0; rw [if_pos hl]; rfl
    rw [e]
    clear h e
    go_enter Try.func76, Try.ntmps76
    go_wp2
    go_ret
    exact ⟨rfl, Below.refl _ _⟩
  have hl' : n ≤ 12 := by omega
  obtain ⟨r, hr⟩ : ∃ r, scan (Ty.pc f g) n 0 = r := ⟨_, rfl⟩
  have HR : Hid (scan (Ty.pc f g) (n - 0) 0 = r) := Lib.hid hr
  obtain ⟨R, hR⟩ : ∃ R, Ty.perr n f g = R := ⟨_, rfl⟩
  have HF : Hid (r ≠ 0 → R = r) := Lib.hid fun hz => by rw [← hR]; exact Ty.perr_bad hl hr hz
  have HF0 : Hid (r = 0 → R = if 1000000 < Ex.psum g n then 14 else 0) := Lib.hid fun hz => by rw [← hR]; exact Ty.perr_end hl (hr.trans hz)
  rw [hR]
  have H := Lib.hid h
  clear hl hr hR h hn
  go_enter Try.func76, Try.ntmps76
  go_wp2
  go_loopw [3, 4, 5, 11] (fun s _ _ i wr => ∃ (k : Nat) (z : Int), k ≤ n ∧ i = .int .i64 k ∧ s = .int .i64 z ∧ 0 ≤ z ∧ z ≤ 1000000 * k ∧ Hid (Ex.psum g k = z) ∧ Hid (scan (Ty.pc f g) (n - k) k = r) ∧ Hid (Below w.heap.size w wr)) (fun _ _ _ i _ => n - (intOf i).toNat)
  case atStart => exact ⟨0, 0, Nat.zero_le _, rfl, rfl, by omega, by omega, Lib.hid rfl, HR, Lib.hid (Below.refl _ _)⟩
  case round =>
    obtain ⟨k, z, hk, rfl, rfl, z0, z1, HZ, HS, HB⟩ := hrel
    have hs := HB.out.size
    by_cases hlt : k < n
    · obtain ⟨b, o, rfl, had, hc0, hc1⟩ := ((H.out.below HB.out).mono hs).get hlt
      obtain ⟨x, hx⟩ : ∃ x, f k = x := ⟨_, rfl⟩
      obtain ⟨y, hy⟩ : ∃ y, g k = y := ⟨_, rfl⟩
      rw [hx] at hc0
      rw [hy] at hc1
      have HX := Lib.hid hx
      have HY := Lib.hid hy
      clear hx hy
      by_cases hh : 1 ≤ x ∧ x ≤ 15
      · obtain ⟨hh0, hh1⟩ := hh
        by_cases hi : 1 ≤ y ∧ y ≤ 1000000
        · obtain ⟨hi0, hi1⟩ := hi
          have hP : (1 ≤ f k ∧ f k ≤ 15) ∧ (1 ≤ g k ∧ g k ≤ 1000000) := by rw [HX.out, HY.out]; exact ⟨⟨hh0, hh1⟩, hi0, hi1⟩
          have HP := Lib.hid hP
          have HZ2 : Hid (Ex.psum g (k + 1) = z + y) := Lib.hid (by rw [Ex.psum, HZ.out, HY.out])
          have hw2 : IntKind.i64.wrap (z + y) = z + y := by rw [IntKind.wrap_i64]; omega
          clear hP
          cases k with
          | zero =>
            have HG : Hid (scan (Ty.pc f g) (n - (0 + 1)) (0 + 1) = r) := Lib.hid (by rw [← scan_go _ hlt (Ty.pc_fine HP.out (by omega))]; exact HS.out)
            clear HP HX HY HS
            simp only [Nat.zero_mul, Nat.add_zero] at hc0 hc1
            go_wp2_with (go_at_call 71; refine (tywithin_any _ _ _ _).mono ?_; rintro e w' ⟨rfl, rfl⟩)
            go_quiet (fail)
            go_wp2_with fail
            go_roundw
            case rel => exact ⟨0 + 1, z + y, by omega, rfl, rfl, by omega, by omega, HZ2, HG, Lib.hid (below_drewN (HB.out.alloc hs _) _)⟩
            case measure => simp [intOf]; omega
          | succ j =>
            obtain ⟨b', o', e', _, hp0, _⟩ := ((H.out.below HB.out).mono hs).get (j := j) (by omega)
            simp only [Option.some.injEq, Addr.mk.injEq, and_true] at e'
            obtain ⟨rfl, rfl⟩ := e'
            obtain ⟨p, hp⟩ : ∃ p, f j = p := ⟨_, rfl⟩
            rw [hp] at hp0
            have HPP := Lib.hid hp
            have hw : IntKind.i64.wrap (((j + 1 : Nat) : Int) - 1) = j := by rw [IntKind.wrap_i64]; omega
            have hj0 : (0 : Int) ≤ j := by omega
            have hj1 : (j : Int) < n := by omega
            clear hp
            by_cases ho : x ≤ p
            · have HG : Hid (R = 13) := Lib.hid (by
                have e : 13 = r := by rw [← HS.out, scan_stop _ hlt (by rw [Ty.pc_order HP.out ⟨by omega, by rw [HX.out, Nat.add_sub_cancel, HPP.out]; exact ho⟩]; omega), Ty.pc_order HP.out ⟨by omega, by rw [HX.out, Nat.add_sub_cancel, HPP.out]; exact ho⟩]
                rw [HF.out (by omega), e])
              clear HP HX HY HS HPP HZ2 HZ
              go_wp2_with (go_at_call 71; refine (tywithin_any _ _ _ _).mono ?_; rintro e w' ⟨rfl, rfl⟩)
              go_quiet (fail)
              go_wp2_with fail
              go_ret
              exact ⟨ret_i64 HG.out.symm, below_drewN (HB.out.alloc hs _) _⟩
            · have HG : Hid (scan (Ty.pc f g) (n - (j + 1 + 1)) (j + 1 + 1) = r) := Lib.hid (by rw [← scan_go _ hlt (Ty.pc_fine HP.out (by rw [HX.out, Nat.add_sub_cancel, HPP.out]; omega))]; exact HS.out)
              clear HP HX HY HS HPP
              go_wp2_with (go_at_call 71; refine (tywithin_any _ _ _ _).mono ?_; rintro e w' ⟨rfl, rfl⟩)
              go_quiet (fail)
              go_wp2_with fail
              go_roundw
              case rel => exact ⟨j + 1 + 1, z + y, by omega, by go_num, rfl, by omega, by omega, HZ2, HG, Lib.hid (below_drewN (HB.out.alloc hs _) _)⟩
              case measure => simp [intOf]; omega
        · have HG : Hid (R = 1) := Lib.hid (by
            have hP : ¬ ((1 ≤ f k ∧ f k ≤ 15) ∧ (1 ≤ g k ∧ g k ≤ 1000000)) := by rw [HX.out, HY.out]; omega
            have e : 1 = r := by rw [← HS.out, scan_stop _ hlt (by rw [Ty.pc_bad hP]; omega), Ty.pc_bad hP]
            rw [HF.out (by omega), e])
          have hd : decide (1 ≤ y ∧ y ≤ 1000000) = false := by rw [decide_eq_false_iff_not]; exact hi
          clear HX HY HS hi HZ
          go_wp2_with (go_at_call 71; refine (tywithin_any _ _ _ _).mono ?_; rintro e w' ⟨rfl, rfl⟩)
          go_ret
          exact ⟨ret_i64 HG.out.symm, HB.out.alloc hs _⟩
      · have HG : Hid (R = 1) := Lib.hid (by
          have hP : ¬ ((1 ≤ f k ∧ f k ≤ 15) ∧ (1 ≤ g k ∧ g k ≤ 1000000)) := by rw [HX.out, HY.out]; omega
          have e : 1 = r := by rw [← HS.out, scan_stop _ hlt (by rw [Ty.pc_bad hP]; omega), Ty.pc_bad hP]
          rw [HF.out (by omega), e])
        have hd : decide (1 ≤ x ∧ x ≤ 15) = false := by rw [decide_eq_false_iff_not]; exact hh
        clear HX HY HS hh HZ
        go_wp2_with (go_at_call 71; refine (tywithin_any _ _ _ _).mono ?_; rintro e w' ⟨rfl, rfl⟩)
        go_ret
        exact ⟨ret_i64 HG.out.symm, HB.out.alloc hs _⟩
    · obtain rfl : k = n := by omega
      have HE : Hid (R = if 1000000 < z then 14 else 0) := Lib.hid (by rw [HF0.out (by rw [← HS.out, scan_end]), HZ.out])
      clear HF HF0 HS HZ
      by_cases hz : 1000000 < z
      · go_wp2
        go_ret
        exact ⟨ret_i64 (by rw [HE.out, if_pos hz]), HB.out⟩
      · go_wp2
        go_ret
        exact ⟨ret_i64 (by rw [HE.out, if_neg (by omega)]), HB.out⟩

/-- what the reference's parts returns: a sum and an error -/
def PartsPost (n : Nat) (f g : Nat → Int) (w : World) (e : Ending) (w' : World) : Prop :=
  e = .returned (.tuple #[.int .i64 (if Ty.perr0 n f g = 0 then Ex.psum g n else 0), .int .i64 (Ty.perr0 n f g)]) ∧ Below w.heap.size w w'

def PartsPost2 (r z : Int) (w : World) (e : Ending) (w' : World) : Prop := ∃ s : Int, e = .returned (.tuple #[.int .i64 s, .int .i64 r]) ∧ Hid (s = if r = 0 then z else 0) ∧ Below w.heap.size w w'
theorem ret_two {a b c d : Int} (h : a = b) (k : c = d) : Ending.returned (.tuple #[.int .i64 a, .int .i64 c]) = .returned (.tuple #[.int .i64 b, .int .i64 d]) := by rw [h, k]

set_option maxHeartbeats 2000000 in
theorem rparts0_any (A : Option Addr) (n c : Nat) (f g : Nat → Int) (w : World) (hn : n ≤ 9223372036854775807) (h : Pairs w w.heap.size A n f g) :
    Calls Try.prog 78 #[.slice A n c] w (PartsPost n f g w) := by
  by_cases hl : 12 < n
  · have e : Ty.perr0 n f g = 4 := if_pos hl
    unfold PartsPost
    rw [e]
    clear h e
    go_enter Try.func78, Try.ntmps78
    go_wp2
    go_ret2
    exact ⟨rfl, Below.refl _ _⟩
  have hl' : n ≤ 12 := by omega
  obtain ⟨r, hr⟩ : ∃ r, scan (Ty.pc f g) n 0 = r := ⟨_, rfl⟩
  have HR : Hid (scan (Ty.pc f g) (n - 0) 0 = r) := Lib.hid hr
  have HF : Hid (Ty.perr0 n f g = r) := Lib.hid (by unfold Ty.perr0; rw [if_neg hl, hr])
  have H := Lib.hid h
  clear hl hr h hn
  suffices hh : Calls Try.prog 78 #[.slice A n c] w (PartsPost2 r (Ex.psum g n) w) from
    hh.mono fun e w' ⟨s, h1, h2, h3⟩ => ⟨by rw [h1, h2.out, HF.out], h3⟩
  clear HF
  go_enter Try.func78, Try.ntmps78
  go_wp2
  go_loopw [4, 5] (fun s i wr => ∃ (k : Nat) (z : Int), k ≤ n ∧ i = .int .i64 k ∧ s = .int .i64 z ∧ 0 ≤ z ∧ z ≤ 1000000 * k ∧ Hid (Ex.psum g k = z) ∧ Hid (scan (Ty.pc f g) (n - k) k = r) ∧ Hid (Below w.heap.size w wr)) (fun _ i _ => n - (intOf i).toNat)
  case atStart => exact ⟨0, 0, Nat.zero_le _, rfl, rfl, by omega, by omega, Lib.hid rfl, HR, Lib.hid (Below.refl _ _)⟩
  case round =>
    obtain ⟨k, z, hk, rfl, rfl, z0, z1, HZ, HS, HB⟩ := hrel
    have hs := HB.out.size
    by_cases hlt : k < n
    · obtain ⟨b, o, rfl, had, hc0, hc1⟩ := ((H.out.below HB.out).mono hs).get hlt
      obtain ⟨x, hx⟩ : ∃ x, f k = x := ⟨_, rfl⟩
      obtain ⟨y, hy⟩ : ∃ y, g k = y := ⟨_, rfl⟩
      rw [hx] at hc0
      rw [hy] at hc1
      have HX := Lib.hid hx
      have HY := Lib.hid hy
      clear hx hy
      by_cases hh : (1 ≤ x ∧ x ≤ 15) ∧ (1 ≤ y ∧ y ≤ 1000000)
      · obtain ⟨⟨hh0, hh1⟩, hi0, hi1⟩ := hh
        have hP : (1 ≤ f k ∧ f k ≤ 15) ∧ (1 ≤ g k ∧ g k ≤ 1000000) := by rw [HX.out, HY.out]; exact ⟨⟨hh0, hh1⟩, hi0, hi1⟩
        have HP := Lib.hid hP
        have HZ2 : Hid (Ex.psum g (k + 1) = z + y) := Lib.hid (by rw [Ex.psum, HZ.out, HY.out])
        have hw2 : IntKind.i64.wrap (z + y) = z + y := by rw [IntKind.wrap_i64]; omega
        clear hP
        cases k with
        | zero =>
          have HG : Hid (scan (Ty.pc f g) (n - (0 + 1)) (0 + 1) = r) := Lib.hid (by rw [← scan_go _ hlt (Ty.pc_fine HP.out (by omega))]; exact HS.out)
          clear HP HX HY HS
          simp only [Nat.zero_mul, Nat.add_zero] at hc0 hc1
          go_wp2
          go_quiet (fail)
          go_wp2_with fail
          go_roundw
          case rel => exact ⟨0 + 1, z + y, by omega, rfl, rfl, by omega, by omega, HZ2, HG, Lib.hid (below_drewN HB.out _)⟩
          case measure => simp [intOf]; omega
        | succ j =>
          obtain ⟨b', o', e', _, hp0, _⟩ := ((H.out.below HB.out).mono hs).get (j := j) (by omega)
          simp only [Option.some.injEq, Addr.mk.injEq, and_true] at e'
          obtain ⟨rfl, rfl⟩ := e'
          obtain ⟨p, hp⟩ : ∃ p, f j = p := ⟨_, rfl⟩
          rw [hp] at hp0
          have HPP := Lib.hid hp
          have hw : IntKind.i64.wrap (((j + 1 : Nat) : Int) - 1) = j := by rw [IntKind.wrap_i64]; omega
          have hj0 : (0 : Int) ≤ j := by omega
          have hj1 : (j : Int) < n := by omega
          have hk1 : ((j : Int) + 1) < n := by omega
          clear hp
          by_cases ho : x ≤ p
          · have HG : Hid (13 = r) := Lib.hid (by rw [← HS.out, scan_stop _ hlt (by rw [Ty.pc_order HP.out ⟨by omega, by rw [HX.out, Nat.add_sub_cancel, HPP.out]; exact ho⟩]; omega), Ty.pc_order HP.out ⟨by omega, by rw [HX.out, Nat.add_sub_cancel, HPP.out]; exact ho⟩])
            clear HP HX HY HS HPP HZ2 HZ
            go_wp2
            go_quiet (fail)
            go_wp2_with fail
            go_ret2
            exact ⟨0, ret_two rfl HG.out, Lib.hid (by rw [if_neg (by have := HG.out; omega)]), below_drewN HB.out _⟩
          · have HG : Hid (scan (Ty.pc f g) (n - (j + 1 + 1)) (j + 1 + 1) = r) := Lib.hid (by rw [← scan_go _ hlt (Ty.pc_fine HP.out (by rw [HX.out, Nat.add_sub_cancel, HPP.out]; omega))]; exact HS.out)
            clear HP HX HY HS HPP
            go_wp2
            go_quiet (fail)
            go_wp2_with fail
            go_roundw
            case rel => exact ⟨j + 1 + 1, z + y, by omega, by go_num, rfl, by omega, by omega, HZ2, HG, Lib.hid (below_drewN HB.out _)⟩
            case measure => simp [intOf]; omega
      · have HG : Hid (1 = r) := Lib.hid (by
          have hP : ¬ ((1 ≤ f k ∧ f k ≤ 15) ∧ (1 ≤ g k ∧ g k ≤ 1000000)) := by rw [HX.out, HY.out]; exact hh
          rw [← HS.out, scan_stop _ hlt (by rw [Ty.pc_bad hP]; omega), Ty.pc_bad hP])
        have hi' : x < 1 ∨ (1 ≤ x ∧ 15 < x) ∨ ((1 ≤ x ∧ x ≤ 15) ∧ y < 1) ∨ ((1 ≤ x ∧ x ≤ 15) ∧ 1 ≤ y ∧ 1000000 < y) := by omega
        clear HX HY HS hh HZ
        rcases hi' with hi | ⟨hi, hi2⟩ | ⟨⟨hi, hi2⟩, hi3⟩ | ⟨⟨hi, hi2⟩, hi3, hi4⟩
        all_goals
          go_wp2
          go_ret2
          exact ⟨0, ret_two rfl HG.out, Lib.hid (by rw [if_neg (by have := HG.out; omega)]), HB.out⟩
    · obtain rfl : k = n := by omega
      have HE : Hid (0 = r) := Lib.hid (by rw [← HS.out, scan_end])
      go_wp2
      go_ret2
      exact ⟨z, ret_two rfl HE.out, Lib.hid (by rw [if_pos HE.out.symm, HZ.out]), HB.out⟩

theorem Ty.perr_ref (n : Nat) (f g : Nat → Int) : Ty.perr n f g = if Ty.perr0 n f g = 0 ∧ 1000000 < (if Ty.perr0 n f g = 0 then Ex.psum g n else 0) then 14 else Ty.perr0 n f g := by
  unfold Ty.perr
  by_cases h : Ty.perr0 n f g = 0
  · rw [if_neg (fun c => c h), if_pos h, h]
    by_cases c : 1000000 < Ex.psum g n
    · rw [if_pos c, if_pos ⟨rfl, c⟩]
    · rw [if_neg c, if_neg (fun k => c k.2)]
  · rw [if_pos h, if_neg (fun k => h k.1)]

set_option maxHeartbeats 1000000 in
theorem rparts_any (A : Option Addr) (n c : Nat) (f g : Nat → Int) (w : World) (hn : n ≤ 9223372036854775807) (h : Pairs w w.heap.size A n f g) :
    Calls Try.prog 58 #[.slice A n c] w (IntPost (Ty.perr n f g) w) := by
  obtain ⟨R, hR⟩ : ∃ R, Ty.perr n f g = R := ⟨_, rfl⟩
  obtain ⟨r, hr⟩ : ∃ r, Ty.perr0 n f g = r := ⟨_, rfl⟩
  obtain ⟨s, hs⟩ : ∃ s, (if r = 0 then Ex.psum g n else 0) = s := ⟨_, rfl⟩
  have HF : Hid (R = if r = 0 ∧ 1000000 < s then 14 else r) := Lib.hid (by rw [← hR, Ty.perr_ref, hr, hs])
  have C := Lib.hid (rparts0_any A n c f g w hn h)
  unfold PartsPost at C
  rw [hr, hs] at C
  rw [hR]
  clear h hR hr hs
  go_enter Try.func58, Try.ntmps58
  go_wp2_with fail
  refine C.out.mono ?_
  rintro e w1 ⟨rfl, hb⟩
  have HB := Lib.hid hb
  clear hb C
  by_cases hz : r = 0
  · subst hz
    by_cases h1 : 1000000 < s
    · go_wp2_with fail
      go_ret
      exact ⟨ret_i64 (by have := HF.out; simp [h1] at this; omega), HB.out⟩
    · go_wp2_with fail
      go_ret
      exact ⟨ret_i64 (by have := HF.out; rw [if_neg (fun k => by have := k.2; omega)] at this; omega), HB.out⟩
  · go_wp2_with fail
    go_ret
    exact ⟨ret_i64 (by rw [HF.out, if_neg (fun k => hz k.1)]), HB.out⟩

set_option maxHeartbeats 1000000 in
theorem rholds_any (A : Option Addr) (n c : Nat) (f : Nat → Int) (x : Int) (w : World) (hn : n ≤ 9223372036854775807) (h : Nums w w.heap.size A n f) :
    Calls Try.prog 57 #[.slice A n c, .int .i64 x] w (BoolPost (Ty.hasB f n x) w) := by
  obtain ⟨R, hR⟩ : ∃ R, Ty.hasB f n x = R := ⟨_, rfl⟩
  have HT : Hid (∀ k, k < n → f k = x → true = R) := Lib.hid fun k hk e => by rw [← hR]; exact (decide_eq_true ⟨k, hk, e⟩).symm
  have HF : Hid ((∀ k, k < n → f k ≠ x) → false = R) := Lib.hid fun e => by rw [← hR]; exact (decide_eq_false fun ⟨k, hk, c⟩ => e k hk c).symm
  rw [hR]
  have H := Lib.hid h
  clear hR h
  go_enter Try.func57, Try.ntmps57
  go_wp2
  go_loop [5] (fun i => ∃ k : Nat, k ≤ n ∧ i = .int .i64 k ∧ Hid (∀ j, j < k → f j ≠ x)) (fun i => n - (intOf i).toNat)
  case atStart => exact ⟨0, Nat.zero_le _, rfl, Lib.hid fun j hj => absurd hj (by omega)⟩
  case round =>
    obtain ⟨k, hk, rfl, HS⟩ := hrel
    by_cases hlt : k < n
    · obtain ⟨b, o, rfl, had, hc0⟩ := H.out.get hlt
      obtain ⟨y, hy⟩ : ∃ y, f k = y := ⟨_, rfl⟩
      rw [hy] at hc0
      have HY := Lib.hid hy
      clear hy
      by_cases e : y = x
      · have HG := Lib.hid (HT.out k hlt (HY.out.trans e))
        subst e
        go_wp2
        go_ret
        exact ⟨ret_bool HG.out, Below.refl _ _⟩
      · have HG : Hid (∀ j, j < k + 1 → f j ≠ x) := Lib.hid fun j hj => by
          by_cases c : j = k
          · subst c; rw [HY.out]; exact e
          · exact HS.out j (by omega)
        have e2 : (y == x) = false := by rw [beq_eq_false_iff_ne]; exact e
        clear HS HY
        go_wp2
        go_round
        case rel => exact ⟨k + 1, by omega, by go_num, HG⟩
        case measure => simp [intOf]; omega
    · obtain rfl : k = n := by omega
      have HE := Lib.hid (HF.out HS.out)
      go_wp2
      go_ret
      exact ⟨ret_bool HE.out, Below.refl _ _⟩
end Go.Proofs.Ytlmgfcgakdanaaa
