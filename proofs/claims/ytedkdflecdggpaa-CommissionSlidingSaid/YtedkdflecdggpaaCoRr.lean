/- The reference's Rate. -/
import Derived.Test.YtedkdflecdggpaaCoRt
import Derived.Deep.CutBlock
namespace Go.Proofs.Ytedkdflecdggpaa
open Go.RowKit
set_option linter.unusedVariables false

set_option maxRecDepth 100000 in
set_option maxHeartbeats 2000000 in
theorem rrate_any (A : Option Addr) (n c : Nat) (f g : Nat → Int) (r : Int) (w : World) (hn : n ≤ 9223372036854775807) (hp : Pairs w w.heap.size A n f g) :
    Calls Try.prog 13 #[.slice A n c, .int .i64 r] w (PairPost (Co.rate n f g r) w) := by
  obtain ⟨T, hT⟩ : ∃ T, Co.rate n f g r = T := ⟨_, rfl⟩
  have HT := Lib.hid hT
  rw [hT]
  by_cases h0 : n = 0
  · have e : T = (0, 19) := by
      have : Co.rerr n f g = 19 := if_pos h0
      rw [← hT, Co.rate, this, if_pos (by omega)]
    subst h0
    rw [e]
    clear hp hT HT e
    go_enter Try.func13, Try.ntmps13
    go_wp2
    go_ret2
    exact ⟨rfl, Below.refl _ _⟩
  have hz : ((n : Int) == 0) = false := by rw [beq_eq_false_iff_ne]; omega
  by_cases h8 : 8 < n
  · have e : T = (0, 4) := by
      have : Co.rerr n f g = 4 := by rw [Co.rerr, if_neg h0, if_pos h8]
      rw [← hT, Co.rate, this, if_pos (by omega)]
    rw [e]
    clear hp hT HT e h0
    go_enter Try.func13, Try.ntmps13
    go_wp2
    go_ret2
    exact ⟨rfl, Below.refl _ _⟩
  have h8' : n ≤ 8 := by omega
  have h1' : 1 ≤ n := by omega
  obtain ⟨S, hS⟩ : ∃ S, scan (Co.rc f g) (n - 0) 0 = S := ⟨_, rfl⟩
  have HE : Hid (Co.rerr n f g = S) := Lib.hid (by rw [Co.rerr, if_neg h0, if_neg h8]; exact hS)
  have HS1 := Lib.hid hS
  have H := Lib.hid hp
  clear hp hT hS h0 h8 hn
  go_enter Try.func13, Try.ntmps13
  go_wp2
  go_loopw [6] (fun i wr => ∃ k : Nat, k ≤ n ∧ i = .int .i64 k ∧ Hid (scan (Co.rc f g) (n - k) k = S) ∧ Hid (Below w.heap.size w wr)) (fun i _ => n - (intOf i).toNat)
  case atStart => exact ⟨0, Nat.zero_le _, rfl, HS1, Lib.hid (Below.refl _ _)⟩
  case round =>
    obtain ⟨k, hk, rfl, HS, HB⟩ := hrel
    have hs := HB.out.size
    by_cases hlt : k < n
    · obtain ⟨b, o, rfl, had, hc0, hc1⟩ := ((H.out.below HB.out).mono hs).get hlt
      obtain ⟨x, hx⟩ : ∃ x, f k = x := ⟨_, rfl⟩
      obtain ⟨y, hy⟩ : ∃ y, g k = y := ⟨_, rfl⟩
      rw [hx] at hc0
      rw [hy] at hc1
      have HX := Lib.hid hx
      have HY := Lib.hid hy
      clear hx hy
      by_cases hh : (0 ≤ x ∧ x ≤ 100000000) ∧ 0 ≤ y ∧ y ≤ 1000000
      · have HP : Hid (Co.stepP (f k) (g k)) := Lib.hid (by rw [HX.out, HY.out]; exact hh)
        obtain ⟨⟨h1, h2⟩, h3, h4⟩ := hh
        cases k with
        | zero =>
          have HG : Hid (scan (Co.rc f g) (n - (0 + 1)) (0 + 1) = S) := Lib.hid (by rw [← scan_go _ hlt (Co.rc_fine HP.out (by omega))]; exact HS.out)
          clear HP HX HY HS
          simp only [Nat.zero_mul, Nat.add_zero] at hc0 hc1
          go_wp2_with fail
          go_quiet (fail)
          go_wp2_with fail
          go_roundw
          case rel => exact ⟨0 + 1, by omega, rfl, HG, Lib.hid (below_drewN HB.out _)⟩
          case measure => simp [intOf]; omega
        | succ j =>
          obtain ⟨b', o', e', _, hp0, _⟩ := ((H.out.below HB.out).mono hs).get (j := j) (by omega)
          simp only [Option.some.injEq, Addr.mk.injEq, and_true] at e'
          obtain ⟨rfl, rfl⟩ := e'
          obtain ⟨p, hp⟩ : ∃ p, f j = p := ⟨_, rfl⟩
          rw [hp] at hp0
          have HPP := Lib.hid hp
          have hw : IntKind.i64.wrap (((j + 1 : Nat) : Int) - 1) = j := by rw [IntKind.wrap_i64]; omega
          have hj0 : (0 : Int) ≤ j := by omega
          have hj1 : (j : Int) < n := by omega
          clear hp
          by_cases ho : x ≤ p
          · have hcc := Co.rc_order HP.out ⟨by omega, by rw [HX.out, Nat.add_sub_cancel, HPP.out]; exact ho⟩
            have HG : Hid (13 = S) := Lib.hid (by rw [← HS.out, scan_stop _ hlt (by rw [hcc]; omega), hcc])
            clear HP HX HY HS HPP hcc
            go_wp2_with fail
            go_quiet (fail)
            go_wp2_with fail
            go_ret2
            exact ⟨ret_pair (by rw [← HT.out, Co.rate, HE.out, ← HG.out, if_pos (by omega)]), below_drewN HB.out _⟩
          · have HG : Hid (scan (Co.rc f g) (n - (j + 1 + 1)) (j + 1 + 1) = S) := Lib.hid (by rw [← scan_go _ hlt (Co.rc_fine HP.out (by rw [HX.out, Nat.add_sub_cancel, HPP.out]; omega))]; exact HS.out)
            clear HP HX HY HS HPP
            go_wp2_with fail
            go_quiet (fail)
            go_wp2_with fail
            go_roundw
            case rel => exact ⟨j + 1 + 1, by omega, by go_num, HG, Lib.hid (below_drewN HB.out _)⟩
            case measure => simp [intOf]; omega
      · have hcc := Co.rc_bad (f := f) (g := g) (i := k) (by rw [HX.out, HY.out]; exact hh)
        have HG : Hid (1 = S) := Lib.hid (by rw [← HS.out, scan_stop _ hlt (by rw [hcc]; omega), hcc])
        have hh' : x < 0 ∨ (0 ≤ x ∧ 100000000 < x) ∨ (0 ≤ x ∧ x ≤ 100000000 ∧ y < 0) ∨ (0 ≤ x ∧ x ≤ 100000000 ∧ 0 ≤ y ∧ 1000000 < y) := by omega
        clear hcc HX HY HS hh
        rcases hh' with h1 | ⟨h1, h2⟩ | ⟨h1, h2, h3⟩ | ⟨h1, h2, h3, h4⟩
        all_goals
          go_wp2_with fail
          go_ret2
          exact ⟨ret_pair (by rw [← HT.out, Co.rate, HE.out, ← HG.out, if_pos (by omega)]), HB.out⟩
    · have hkn : k = n := by omega
      have hS0 : S = 0 := by rw [← HS.out, hkn, scan_end]
      rw [hS0] at HE
      obtain ⟨f1, f2, f3, f4⟩ := Co.rerr_fine HE.out
      have HF3 := Lib.hid f3
      have HF4 := Lib.hid f4
      clear hS0 HS HS1 hkn f3 f4
      obtain ⟨b, o, hA, had, hc0, hc1⟩ := ((H.out.below HB.out).mono hs).get (j := 0) (by omega)
      subst hA
      simp only [Nat.zero_mul, Nat.add_zero] at hc0 hc1
      obtain ⟨x0, hx0⟩ : ∃ x, f 0 = x := ⟨_, rfl⟩
      obtain ⟨y0, hy0⟩ : ∃ y, g 0 = y := ⟨_, rfl⟩
      rw [hx0] at hc0
      rw [hy0] at hc1
      by_cases hr : 0 ≤ r ∧ r ≤ 100000000
      · by_cases hle : r ≤ x0
        · have HG : Hid (T = (y0, 0)) := Lib.hid (by rw [← HT.out, Co.rate, HE.out, if_neg (by simp), if_neg (fun c => c hr), hx0, if_pos hle, hy0])
          obtain ⟨r0, r1⟩ := hr
          clear hx0 hy0
          go_wp2_with fail
          go_ret2
          exact ⟨ret_pair HG.out, HB.out⟩
        · obtain ⟨L, hL⟩ : ∃ L, Co.look f g r (n - (0 + 1)) (0 + 1) = L := ⟨_, rfl⟩
          have HG : Hid (T = (L, 0)) := Lib.hid (by rw [← HT.out, Co.rate, HE.out, if_neg (by simp), if_neg (fun c => c hr), hx0, if_neg hle, ← hL])
          have HL := Lib.hid hL
          have HFR0 : Hid (f 0 ≤ r) := Lib.hid (by rw [hx0]; omega)
          obtain ⟨r0, r1⟩ := hr
          have hnle : x0 < r := by omega
          have HSC : Hid (∀ j, j + 1 < n → Co.stepP (f (j + 1)) (g (j + 1)) ∧ Co.stepP (f j) (g j) ∧ f j < f (j + 1)) := Lib.hid fun j hj => ⟨HF3.out _ (by omega), HF3.out _ (by omega), by have := HF4.out (j + 1) (by omega) (by omega); rwa [Nat.add_sub_cancel] at this⟩
          clear hx0 hy0 hL hle
          go_wp2_with fail
          go_loopw [7, 8, 9, 10, 11] (fun i _ _ _ _ wx => ∃ k : Nat, k + 1 ≤ n ∧ i = .int .i64 ((k + 1 : Nat) : Int) ∧ Hid (Co.look f g r (n - (k + 1)) (k + 1) = L) ∧ Hid (f k ≤ r) ∧ Hid (Below w.heap.size w wx)) (fun i _ _ _ _ _ => n - (intOf i).toNat)
          case atStart => exact ⟨0, by omega, rfl, HL, HFR0, HB⟩
          case round =>
            clear HFR0 hc0 hc1 HB HL hs had
            obtain ⟨k, hk, rfl, HL, HFR, HB⟩ := hrel
            have hs := HB.out.size
            by_cases hlt2 : k + 1 < n
            · obtain ⟨_, _, e3, had, hc0, hc1⟩ := ((H.out.below HB.out).mono hs).get (j := k) (by omega)
              simp only [Option.some.injEq, Addr.mk.injEq, and_true] at e3
              obtain ⟨rfl, rfl⟩ := e3
              obtain ⟨_, _, e3, _, hd0, hd1⟩ := ((H.out.below HB.out).mono hs).get (j := k + 1) hlt2
              simp only [Option.some.injEq, Addr.mk.injEq, and_true] at e3
              obtain ⟨rfl, rfl⟩ := e3
              obtain ⟨⟨⟨a0, a1⟩, a2, a3⟩, ⟨⟨b0, b1⟩, b2, b3⟩, hff⟩ := HSC.out k hlt2
              obtain ⟨x1, hx1⟩ : ∃ x, f k = x := ⟨_, rfl⟩
              obtain ⟨y1, hy1⟩ : ∃ x, g k = x := ⟨_, rfl⟩
              obtain ⟨x2, hx2⟩ : ∃ x, f (k + 1) = x := ⟨_, rfl⟩
              obtain ⟨y2, hy2⟩ : ∃ x, g (k + 1) = x := ⟨_, rfl⟩
              rw [hx1] at hc0 b0 b1 hff
              rw [hy1] at hc1 b2 b3
              rw [hx2] at hd0 a0 a1 hff
              rw [hy2] at hd1 a2 a3
              have HX1 := Lib.hid hx1
              have HY1 := Lib.hid hy1
              have HX2 := Lib.hid hx2
              have HY2 := Lib.hid hy2
              clear hx1 hy1 hx2 hy2
              have hwk : IntKind.i64.wrap (((k + 1 : Nat) : Int) - 1) = k := by rw [IntKind.wrap_i64]; omega
              have hk0 : (0 : Int) ≤ k := by omega
              have hk1 : (k : Int) < n := by omega
              have hk2 : ((k + 1 : Nat) : Int) < n := by omega
              have hk3 : (0 : Int) ≤ ((k + 1 : Nat) : Int) := by omega
              go_wp2_with fail
              go_cut [8, 9] (fun u v wx => ∃ p q, u = .pointer (some ⟨p, 0, none⟩) ∧ v = .pointer (some ⟨q, 0, none⟩) ∧ Has wx p #[.int .i64 x1, .int .i64 y1] 25 ∧ Has wx q #[.int .i64 x2, .int .i64 y2] 25 ∧ Below w.heap.size w wx)
              case first =>
                go_region
                all_goals
                  go_wp2_with fail
                  go_meet
                  case rel =>
                    first
                    | exact ⟨_, _, rfl, rfl, Has.drew ((Has.new wr _ _).alloc _), Has.drew (Has.new' (wr.alloc _) _ _ _ (by simp)), ((HB.out.alloc hs _).alloc (by simp; omega) _).drew⟩
                    | exact ⟨_, _, rfl, rfl, Has.drew (Has.new' (wr.alloc _) _ _ _ (by simp)), Has.drew ((Has.new wr _ _).alloc _), ((HB.out.alloc hs _).alloc (by simp; omega) _).drew⟩
              case rest =>
                obtain ⟨p, q, rfl, rfl, hp, hq, hb⟩ := hcut
                clear HB hc0 hc1 hd0 hd1
                have HB := Lib.hid hb
                obtain ⟨p0, p1, p2⟩ := hp.rules
                obtain ⟨q0, q1, q2⟩ := hq.rules
                clear hb hp hq
                by_cases hge : r < x2
                · have hfr := HFR.out
                  rw [HX1.out] at hfr
                  have hseg : L = y1 + (Am.md (y2 - y1) (r - x1) (x2 - x1) 4).1 := by rw [← HL.out, Co.look_stop hlt2 (by rw [HX2.out]; exact hge), Co.seg, Nat.add_sub_cancel, HX1.out, HY1.out, HX2.out, HY2.out]
                  obtain ⟨hm2, hmp, hmn⟩ := Co.md_part (y2 - y1) (r - x1) (x2 - x1) (by omega) (by omega) (by omega) (by omega) (by omega) (by omega)
                  have CM := Lib.hid (rmuldiv_any (y2 - y1) (r - x1) (x2 - x1) 4)
                  obtain ⟨z, hz'⟩ : ∃ q, (Am.md (y2 - y1) (r - x1) (x2 - x1) 4).1 = q := ⟨_, rfl⟩
                  rw [hz', hm2] at CM
                  rw [hz'] at hseg hmp hmn
                  have hqb : -1000000 ≤ z ∧ z ≤ 1000000 := by
                    rcases Int.le_total 0 (y2 - y1) with h | h
                    · have := hmp h; omega
                    · have := hmn h; omega
                  obtain ⟨z0, z1⟩ := hqb
                  have hw1 : IntKind.i64.wrap (y2 - y1) = y2 - y1 := by rw [IntKind.wrap_i64]; omega
                  have hw2 : IntKind.i64.wrap (r - x1) = r - x1 := by rw [IntKind.wrap_i64]; omega
                  have hw3 : IntKind.i64.wrap (x2 - x1) = x2 - x1 := by rw [IntKind.wrap_i64]; omega
                  have hw4 : IntKind.i64.wrap (y1 + z) = y1 + z := by rw [IntKind.wrap_i64]; omega
                  have HSEG := Lib.hid hseg
                  clear hseg hz' hm2 hmp hmn
                  go_wp2_with fail
                  refine (CM.out _).mono ?_
                  rintro e w1 ⟨rfl, n1, rfl⟩
                  go_wp2_with fail
                  go_ret2
                  exact ⟨ret_pair (by rw [HG.out, HSEG.out]), below_drewN HB.out _⟩
                · have HL2 : Hid (Co.look f g r (n - (k + 1 + 1)) (k + 1 + 1) = L) := Lib.hid (by rw [← Co.look_go hlt2 (by rw [HX2.out]; exact hge)]; exact HL.out)
                  have HFR2 : Hid (f (k + 1) ≤ r) := Lib.hid (by rw [HX2.out]; omega)
                  go_wp2_with fail
                  go_roundw
                  case rel => exact ⟨k + 1, by omega, by go_num, HL2, HFR2, HB⟩
                  case measure => simp [intOf]; omega
            · obtain ⟨_, _, e3, had, _, hc1⟩ := ((H.out.below HB.out).mono hs).get (j := k) (by omega)
              simp only [Option.some.injEq, Addr.mk.injEq, and_true] at e3
              obtain ⟨rfl, rfl⟩ := e3
              obtain rfl : n = k + 1 := by omega
              have HEND : Hid (g k = L) := Lib.hid (by rw [← HL.out, Co.look_end, Nat.add_sub_cancel])
              rw [HEND.out] at hc1
              have hwm : IntKind.i64.wrap (((k + 1 : Nat) : Int) - 1) = k := by rw [IntKind.wrap_i64]; omega
              have hm0 : (0 : Int) ≤ k := by omega
              have hm1 : (k : Int) < (k : Int) + 1 := by omega
              go_wp2_with fail
              go_ret2
              exact ⟨ret_pair HG.out, HB.out⟩
      · have HG : Hid (T = (0, 1)) := Lib.hid (by rw [← HT.out, Co.rate, HE.out, if_neg (by simp), if_pos hr])
        have hr' : r < 0 ∨ 0 ≤ r ∧ 100000000 < r := by omega
        clear hr hx0 hy0
        rcases hr' with h1 | ⟨h1, h2⟩
        all_goals
          go_wp2_with fail
          go_ret2
          exact ⟨ret_pair HG.out, HB.out⟩
end Go.Proofs.Ytedkdflecdggpaa
