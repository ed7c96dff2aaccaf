/- commission.Rate: the rate of a sliding scale. -/
import Derived.Test.YtedkdflecdggpaaCoMath2
import Derived.Test.YtedkdflecdggpaaCoA
import Derived.Test.YtedkdflecdggpaaPairsOwn
namespace Go.Proofs.Ytedkdflecdggpaa
open Go.RowKit
set_option linter.unusedVariables false

namespace Co
theorem rc_bad {f g : Nat → Int} {i : Nat} (h : ¬ stepP (f i) (g i)) : rc f g i = 1 := if_pos h
theorem rc_order {f g : Nat → Int} {i : Nat} (h : stepP (f i) (g i)) (h2 : 0 < i ∧ f i ≤ f (i - 1)) : rc f g i = 13 := by rw [rc, if_neg (fun c => c h), if_pos h2]
theorem rc_fine {f g : Nat → Int} {i : Nat} (h : stepP (f i) (g i)) (h2 : ¬ (0 < i ∧ f i ≤ f (i - 1))) : rc f g i = 0 := by rw [rc, if_neg (fun c => c h), if_neg h2]
end Co

/-- two numbers are returned; memory is made and nothing else changes -/
def PairPost (a : Int × Int) (w : World) (e : Ending) (w' : World) : Prop := e = .returned (.tuple #[.int .i64 a.1, .int .i64 a.2]) ∧ Below w.heap.size w w'
theorem ret_pair {a : Int × Int} {x y : Int} (h : a = (x, y)) : Ending.returned (.tuple #[.int .i64 x, .int .i64 y]) = .returned (.tuple #[.int .i64 a.1, .int .i64 a.2]) := by rw [h]

set_option maxHeartbeats 2000000 in
theorem crate_any (A : Option Addr) (n c : Nat) (f g : Nat → Int) (r : Int) (w : World) (hn : n ≤ 9223372036854775807) (hnc : n ≤ c) (hp : Pairs w w.heap.size A n f g) :
    Calls Try.prog 12 #[.slice A n c, .int .i64 r] w (PairPost (Co.rate n f g r) w) := by
  obtain ⟨T, hT⟩ : ∃ T, Co.rate n f g r = T := ⟨_, rfl⟩
  have HT := Lib.hid hT
  rw [hT]
  by_cases h0 : n = 0
  · have e : T = (0, 19) := by
      have : Co.rerr n f g = 19 := if_pos h0
      rw [← hT, Co.rate, this, if_pos (by omega)]
    subst h0
    rw [e]
    clear hp hT HT e
    go_enter Try.func12, Try.ntmps12
    go_wp2
    go_ret2
    exact ⟨rfl, Below.refl _ _⟩
  have hz : ((n : Int) == 0) = false := by rw [beq_eq_false_iff_ne]; omega
  by_cases h8 : 8 < n
  · have e : T = (0, 4) := by
      have : Co.rerr n f g = 4 := by rw [Co.rerr, if_neg h0, if_pos h8]
      rw [← hT, Co.rate, this, if_pos (by omega)]
    rw [e]
    clear hp hT HT e h0
    go_enter Try.func12, Try.ntmps12
    go_wp2
    go_ret2
    exact ⟨rfl, Below.refl _ _⟩
  have h8' : n ≤ 8 := by omega
  have h1' : 1 ≤ n := by omega
  obtain ⟨S, hS⟩ : ∃ S, scan (Co.rc f g) (n - 0) 0 = S := ⟨_, rfl⟩
  have HE : Hid (Co.rerr n f g = S) := Lib.hid (by rw [Co.rerr, if_neg h0, if_neg h8]; exact hS)
  have HS1 := Lib.hid hS
  have H := Lib.hid hp
  clear hp hT hS h0 h8 hn
  go_enter Try.func12, Try.ntmps12
  go_wp2
  go_loopw [6, 7, 21] (fun _ _ i wr => ∃ k : Nat, k ≤ n ∧ i = .int .i64 k ∧ Hid (scan (Co.rc f g) (n - k) k = S) ∧ Hid (Below w.heap.size w wr)) (fun _ _ i _ => n - (intOf i).toNat)
  case atStart => exact ⟨0, Nat.zero_le _, rfl, HS1, Lib.hid (Below.refl _ _)⟩
  case round =>
    obtain ⟨k, hk, rfl, HS, HB⟩ := hrel
    have hs := HB.out.size
    by_cases hlt : k < n
    · obtain ⟨b, o, rfl, had, hc0, hc1⟩ := ((H.out.below HB.out).mono hs).get hlt
      obtain ⟨x, hx⟩ : ∃ x, f k = x := ⟨_, rfl⟩
      obtain ⟨y, hy⟩ : ∃ y, g k = y := ⟨_, rfl⟩
      rw [hx] at hc0
      rw [hy] at hc1
      have HX := Lib.hid hx
      have HY := Lib.hid hy
      clear hx hy
      by_cases hh : 0 ≤ x ∧ x ≤ 100000000
      · have HHH := Lib.hid hh
        by_cases hi : 0 ≤ y ∧ y ≤ 1000000
        · have HII := Lib.hid hi
          have HP : Hid (Co.stepP (f k) (g k)) := Lib.hid (by rw [HX.out, HY.out]; exact ⟨hh, hi⟩)
          clear hh hi
          cases k with
          | zero =>
            have HG : Hid (scan (Co.rc f g) (n - (0 + 1)) (0 + 1) = S) := Lib.hid (by rw [← scan_go _ hlt (Co.rc_fine HP.out (by omega))]; exact HS.out)
            clear HP HX HY HS
            simp only [Nat.zero_mul, Nat.add_zero] at hc0 hc1
            go_wp2_with fail
            refine (cyes HHH.out _).mono ?_
            rintro e w' ⟨rfl, rfl⟩
            go_wp2_with fail
            refine (cyes HII.out _).mono ?_
            rintro e w' ⟨rfl, rfl⟩
            go_wp2_with fail
            go_quiet (fail)
            go_wp2_with fail
            go_roundw
            case rel => exact ⟨0 + 1, by omega, rfl, HG, Lib.hid (below_drewN (HB.out.alloc hs _) _)⟩
            case measure => simp [intOf]; omega
          | succ j =>
            obtain ⟨b', o', e', _, hp0, _⟩ := ((H.out.below HB.out).mono hs).get (j := j) (by omega)
            simp only [Option.some.injEq, Addr.mk.injEq, and_true] at e'
            obtain ⟨rfl, rfl⟩ := e'
            obtain ⟨p, hp⟩ : ∃ p, f j = p := ⟨_, rfl⟩
            rw [hp] at hp0
            have HPP := Lib.hid hp
            have hw : IntKind.i64.wrap (((j + 1 : Nat) : Int) - 1) = j := by rw [IntKind.wrap_i64]; omega
            have hj0 : (0 : Int) ≤ j := by omega
            have hj1 : (j : Int) < n := by omega
            clear hp
            by_cases ho : x ≤ p
            · have hcc := Co.rc_order HP.out ⟨by omega, by rw [HX.out, Nat.add_sub_cancel, HPP.out]; exact ho⟩
              have HG : Hid (13 = S) := Lib.hid (by rw [← HS.out, scan_stop _ hlt (by rw [hcc]; omega), hcc])
              clear HP HX HY HS HPP hcc
              go_wp2_with fail
              refine (cyes HHH.out _).mono ?_
              rintro e w' ⟨rfl, rfl⟩
              go_wp2_with fail
              refine (cyes HII.out _).mono ?_
              rintro e w' ⟨rfl, rfl⟩
              go_wp2_with fail
              go_quiet (fail)
              go_wp2_with fail
              go_ret2
              exact ⟨ret_pair (by rw [← HT.out, Co.rate, HE.out, ← HG.out, if_pos (by omega)]), below_drewN (HB.out.alloc hs _) _⟩
            · have HG : Hid (scan (Co.rc f g) (n - (j + 1 + 1)) (j + 1 + 1) = S) := Lib.hid (by rw [← scan_go _ hlt (Co.rc_fine HP.out (by rw [HX.out, Nat.add_sub_cancel, HPP.out]; omega))]; exact HS.out)
              clear HP HX HY HS HPP
              go_wp2_with fail
              refine (cyes HHH.out _).mono ?_
              rintro e w' ⟨rfl, rfl⟩
              go_wp2_with fail
              refine (cyes HII.out _).mono ?_
              rintro e w' ⟨rfl, rfl⟩
              go_wp2_with fail
              go_quiet (fail)
              go_wp2_with fail
              go_roundw
              case rel => exact ⟨j + 1 + 1, by omega, by go_num, HG, Lib.hid (below_drewN (HB.out.alloc hs _) _)⟩
              case measure => simp [intOf]; omega
        · have HII := Lib.hid hi
          have hcc := Co.rc_bad (f := f) (g := g) (i := k) (by rw [HX.out, HY.out]; exact fun c => hi c.2)
          have HG : Hid (1 = S) := Lib.hid (by rw [← HS.out, scan_stop _ hlt (by rw [hcc]; omega), hcc])
          clear hcc HX HY HS hi hh
          go_wp2_with fail
          refine (cyes HHH.out _).mono ?_
          rintro e w' ⟨rfl, rfl⟩
          go_wp2_with fail
          refine (cno HII.out _).mono ?_
          rintro e w' ⟨rfl, rfl⟩
          go_wp2_with fail
          go_ret2
          exact ⟨ret_pair (by rw [← HT.out, Co.rate, HE.out, ← HG.out, if_pos (by omega)]), HB.out.alloc hs _⟩
      · have HHH := Lib.hid hh
        have hcc := Co.rc_bad (f := f) (g := g) (i := k) (by rw [HX.out, HY.out]; exact fun c => hh c.1)
        have HG : Hid (1 = S) := Lib.hid (by rw [← HS.out, scan_stop _ hlt (by rw [hcc]; omega), hcc])
        clear hcc HX HY HS hh
        go_wp2_with fail
        refine (cno HHH.out _).mono ?_
        rintro e w' ⟨rfl, rfl⟩
        go_wp2_with fail
        go_ret2
        exact ⟨ret_pair (by rw [← HT.out, Co.rate, HE.out, ← HG.out, if_pos (by omega)]), HB.out.alloc hs _⟩
    · have hkn : k = n := by omega
      have hS0 : S = 0 := by rw [← HS.out, hkn, scan_end]
      rw [hS0] at HE
      obtain ⟨f1, f2, f3, f4⟩ := Co.rerr_fine HE.out
      have HF3 := Lib.hid f3
      have HF4 := Lib.hid f4
      clear hS0 HS HS1 hkn f3 f4
      obtain ⟨b, o, hA, had, hc0, hc1⟩ := ((H.out.below HB.out).mono hs).get (j := 0) (by omega)
      subst hA
      simp only [Nat.zero_mul, Nat.add_zero] at hc0 hc1
      obtain ⟨x0, hx0⟩ : ∃ x, f 0 = x := ⟨_, rfl⟩
      obtain ⟨y0, hy0⟩ : ∃ y, g 0 = y := ⟨_, rfl⟩
      rw [hx0] at hc0
      rw [hy0] at hc1
      by_cases hr : 0 ≤ r ∧ r ≤ 100000000
      · have HRR := Lib.hid hr
        by_cases hle : r ≤ x0
        · have HG : Hid (T = (y0, 0)) := Lib.hid (by rw [← HT.out, Co.rate, HE.out, if_neg (by simp), if_neg (fun c => c hr), hx0, if_pos hle, hy0])
          clear hr hx0 hy0
          go_wp2_with fail
          refine (cyes HRR.out _).mono ?_
          rintro e w' ⟨rfl, rfl⟩
          go_wp2_with fail
          go_ret2
          exact ⟨ret_pair HG.out, HB.out⟩
        · obtain ⟨L, hL⟩ : ∃ L, Co.look f g r (n - (0 + 1)) (0 + 1) = L := ⟨_, rfl⟩
          have HG : Hid (T = (L, 0)) := Lib.hid (by rw [← HT.out, Co.rate, HE.out, if_neg (by simp), if_neg (fun c => c hr), hx0, if_neg hle, ← hL])
          have HL := Lib.hid hL
          obtain ⟨r0, r1⟩ := hr
          have hnle : x0 < r := by omega
          obtain ⟨m, rfl⟩ : ∃ m, n = m + 1 := ⟨n - 1, by omega⟩
          have HY0 := Lib.hid hy0
          have HFR0 : Hid (f 0 ≤ r) := Lib.hid (by rw [hx0]; omega)
          clear hx0 hy0 hL hle
          go_wp2_with fail
          refine (cyes HRR.out _).mono ?_
          rintro e w' ⟨rfl, rfl⟩
          have HSC : Hid (∀ j, j < m → Co.stepP (f (j + 1)) (g (j + 1)) ∧ Co.stepP (f j) (g j) ∧ f j < f (j + 1)) := Lib.hid fun j hj => ⟨HF3.out _ (by omega), HF3.out _ (by omega), by have := HF4.out (j + 1) (by omega) (by omega); rwa [Nat.add_sub_cancel] at this⟩
          obtain ⟨_, _, e3, _, _, hcl⟩ := ((H.out.below HB.out).mono hs).get (j := m) (by omega)
          simp only [Option.some.injEq, Addr.mk.injEq, and_true] at e3
          obtain ⟨rfl, rfl⟩ := e3
          have hwm : IntKind.i64.wrap (((m + 1 : Nat) : Int) - 1) = m := by rw [IntKind.wrap_i64]; omega
          have hm0 : (0 : Int) ≤ m := by omega
          have hm1 : (m : Int) < (m : Int) + 1 := by omega
          by_cases hc1c : c = 1
          · subst hc1c
            obtain rfl : m = 0 := by omega
            have HEND : Hid (g 0 = L) := Lib.hid (by rw [← HL.out]; rfl)
            simp only [Nat.zero_mul, Nat.add_zero] at hcl
            rw [HEND.out] at hcl
            go_wp2_with fail
            go_loopw [8, 9, 10, 11, 12, 66] (fun _ _ _ _ _ i wx => i = .int .i64 0 ∧ wx = wr) (fun _ _ _ _ _ _ _ => 0)
            case atStart => exact ⟨rfl, rfl⟩
            case round =>
              obtain ⟨rfl, rfl⟩ := hrel
              go_wp2_with fail
              go_ret2
              exact ⟨ret_pair (by rw [HG.out, ← HEND.out, HY0.out]), HB.out⟩
          · have hcz : ¬ c - 1 = 0 := by omega
            go_wp2_with fail
            go_loopw [8, 9, 10, 11, 12, 66] (fun _ _ _ _ _ i wx => ∃ k : Nat, k ≤ m ∧ i = .int .i64 k ∧ Hid (Co.look f g r (m + 1 - (k + 1)) (k + 1) = L) ∧ Hid (f k ≤ r) ∧ Hid (Below w.heap.size w wx)) (fun _ _ _ _ _ i _ => m - (intOf i).toNat)
            case atStart => exact ⟨0, Nat.zero_le _, rfl, HL, HFR0, HB⟩
            case round =>
              clear HFR0 hc0 hc1 hcl HB HL hs had
              obtain ⟨k, hk, rfl, HL, HFR, HB⟩ := hrel
              have hs := HB.out.size
              by_cases hlt2 : k < m
              · obtain ⟨_, _, e3, had, hc0, hc1⟩ := ((H.out.below HB.out).mono hs).get (j := k) (by omega)
                simp only [Option.some.injEq, Addr.mk.injEq, and_true] at e3
                obtain ⟨rfl, rfl⟩ := e3
                obtain ⟨_, _, e3, _, hd0, hd1⟩ := ((H.out.below HB.out).mono hs).get (j := k + 1) (by omega)
                simp only [Option.some.injEq, Addr.mk.injEq, and_true] at e3
                obtain ⟨rfl, rfl⟩ := e3
                rw [show o + (k + 1) * 2 = o + 2 + k * 2 by omega] at hd0 hd1
                obtain ⟨⟨⟨a0, a1⟩, a2, a3⟩, ⟨⟨b0, b1⟩, b2, b3⟩, hff⟩ := HSC.out k hlt2
                obtain ⟨x1, hx1⟩ : ∃ x, f k = x := ⟨_, rfl⟩
                obtain ⟨y1, hy1⟩ : ∃ x, g k = x := ⟨_, rfl⟩
                obtain ⟨x2, hx2⟩ : ∃ x, f (k + 1) = x := ⟨_, rfl⟩
                obtain ⟨y2, hy2⟩ : ∃ x, g (k + 1) = x := ⟨_, rfl⟩
                rw [hx1] at hc0 b0 b1 hff
                rw [hy1] at hc1 b2 b3
                rw [hx2] at hd0 a0 a1 hff
                rw [hy2] at hd1 a2 a3
                have hk0 : (0 : Int) ≤ k := by omega
                have hk1 : (k : Int) < m := by omega
                have hk2 : (k : Int) < (m : Int) + 1 := by omega
                by_cases hge : x2 ≤ r
                · have HL2 : Hid (Co.look f g r (m + 1 - (k + 1 + 1)) (k + 1 + 1) = L) := Lib.hid (by rw [← Co.look_go (by omega) (by rw [hx2]; omega)]; exact HL.out)
                  have HFR2 : Hid (f (k + 1) ≤ r) := Lib.hid (by rw [hx2]; exact hge)
                  clear hx1 hy1 hx2 hy2
                  go_wp2_with fail
                  go_roundw
                  case rel => exact ⟨k + 1, by omega, by go_num, HL2, HFR2, Lib.hid (HB.out.alloc hs _)⟩
                  case measure => simp [intOf]; omega
                · have hfr := HFR.out
                  rw [hx1] at hfr
                  have hseg : L = y1 + (Am.md (y2 - y1) (r - x1) (x2 - x1) 4).1 := by rw [← HL.out, Co.look_stop (by omega) (by rw [hx2]; omega), Co.seg, Nat.add_sub_cancel, hx1, hy1, hx2, hy2]
                  obtain ⟨hm2, hmp, hmn⟩ := Co.md_part (y2 - y1) (r - x1) (x2 - x1) (by omega) (by omega) (by omega) (by omega) (by omega) (by omega)
                  have CM := Lib.hid (muldiv_any (y2 - y1) (r - x1) (x2 - x1) 4)
                  obtain ⟨q, hq⟩ : ∃ q, (Am.md (y2 - y1) (r - x1) (x2 - x1) 4).1 = q := ⟨_, rfl⟩
                  rw [hq, hm2] at CM
                  rw [hq] at hseg hmp hmn
                  have hqb : -1000000 ≤ q ∧ q ≤ 1000000 := by
                    rcases Int.le_total 0 (y2 - y1) with h | h
                    · have := hmp h; omega
                    · have := hmn h; omega
                  obtain ⟨q0, q1⟩ := hqb
                  have hw1 : IntKind.i64.wrap (y2 - y1) = y2 - y1 := by rw [IntKind.wrap_i64]; omega
                  have hw2 : IntKind.i64.wrap (r - x1) = r - x1 := by rw [IntKind.wrap_i64]; omega
                  have hw3 : IntKind.i64.wrap (x2 - x1) = x2 - x1 := by rw [IntKind.wrap_i64]; omega
                  have hw4 : IntKind.i64.wrap (y1 + q) = y1 + q := by rw [IntKind.wrap_i64]; omega
                  have HSEG := Lib.hid hseg
                  have hlt3 : r < x2 := by omega
                  clear hx1 hy1 hx2 hy2 hseg hq hm2 hmp hmn hge
                  go_wp2_with fail
                  refine (CM.out _).mono ?_
                  rintro e w1 ⟨rfl, n1, rfl⟩
                  go_wp2_with fail
                  go_ret2
                  exact ⟨ret_pair (by rw [HG.out, HSEG.out]), below_drewN ((HB.out.alloc hs _).alloc (by simp; omega) _) _⟩
              · have hkm : k = m := by omega
                subst hkm
                obtain ⟨_, _, e3, had, _, hc1⟩ := ((H.out.below HB.out).mono hs).get (j := k) (by omega)
                simp only [Option.some.injEq, Addr.mk.injEq, and_true] at e3
                obtain ⟨rfl, rfl⟩ := e3
                have HEND : Hid (g k = L) := Lib.hid (by rw [← HL.out, Co.look_end, Nat.add_sub_cancel])
                rw [HEND.out] at hc1
                go_wp2_with fail
                go_ret2
                exact ⟨ret_pair HG.out, HB.out⟩
      · have HRR := Lib.hid hr
        have HG : Hid (T = (0, 1)) := Lib.hid (by rw [← HT.out, Co.rate, HE.out, if_neg (by simp), if_pos hr])
        clear hr hx0 hy0
        go_wp2_with fail
        refine (cno HRR.out _).mono ?_
        rintro e w' ⟨rfl, rfl⟩
        go_wp2_with fail
        go_ret2
        exact ⟨ret_pair HG.out, HB.out⟩
end Go.Proofs.Ytedkdflecdggpaa
