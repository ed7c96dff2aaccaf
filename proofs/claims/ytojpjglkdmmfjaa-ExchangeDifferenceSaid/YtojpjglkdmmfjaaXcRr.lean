/- The reference's Rates. -/
import Derived.Test.YtojpjglkdmmfjaaXcA
namespace Go.Proofs.Ytojpjglkdmmfjaa
open Go.RowKit
set_option linter.unusedVariables false

theorem Xc.aft_ways (p q : T3) : (q.a < p.a ∧ ¬ Xc.aft p q) ∨ (p.a < q.a ∧ Xc.aft p q) ∨ (p.a = q.a ∧ q.b ≤ p.b ∧ ¬ Xc.aft p q) ∨ (p.a = q.a ∧ p.b < q.b ∧ Xc.aft p q) := by
  unfold Xc.aft
  by_cases h : q.a = p.a
  · simp only [if_pos h]; omega
  · simp only [if_neg h]; omega
set_option maxRecDepth 100000 in
set_option maxHeartbeats 4000000 in
theorem rrates_any (A : Option Addr) (n c : Nat) (f : Nat → T3) (w : World) (hn : n ≤ 9223372036854775807) (hp : Trips w w.heap.size A n f) :
    Calls Try.prog 13 #[.slice A n c] w (IntPost (Xc.verr n f) w) := by
  have hn0 : (0 : Int) ≤ n := by omega
  by_cases h2 : 200 < n
  · rw [show Xc.verr n f = 4 from if_pos h2]
    have h1 : (200 : Int) < n := by omega
    clear hp
    go_enter Try.func13, Try.ntmps13
    go_wp2
    go_ret
    exact ⟨rfl, Below.refl _ _⟩
  have h1 : (n : Int) ≤ 200 := by omega
  obtain ⟨S, hS⟩ : ∃ S, scan (Xc.rc f) (n - 0) 0 = S := ⟨_, rfl⟩
  rw [show Xc.verr n f = S from by rw [Xc.verr, if_neg h2]; exact hS]
  have HS1 := Lib.hid hS
  have HP := Lib.hid hp
  clear hp hS h2
  go_enter Try.func13, Try.ntmps13
  go_wp2_with fail
  go_loopw [3, 4] (fun i _ wr => ∃ k : Nat, k ≤ n ∧ i = .int .i64 k ∧ Hid (scan (Xc.rc f) (n - k) k = S) ∧ Hid (Below w.heap.size w wr)) (fun i _ _ => n - (intOf i).toNat)
  case atStart => exact ⟨0, Nat.zero_le _, rfl, HS1, Lib.hid (Below.refl _ _)⟩
  case round =>
    clear HS1
    obtain ⟨k, hk, rfl, HS, HB⟩ := hrel
    have hs := HB.out.size
    by_cases hlt : k < n
    · obtain ⟨b, o, rfl, had, hc0, hc1, hc2⟩ := ((HP.out.below HB.out).mono hs).get hlt
      have hk0 : (0 : Int) ≤ k := by omega
      have hk1 : (k : Int) < n := by omega
      obtain ⟨⟨x, y, z⟩, hx⟩ : ∃ x, f k = x := ⟨_, rfl⟩
      rw [hx] at hc0 hc1 hc2
      simp only at hc0 hc1 hc2
      have HX := Lib.hid hx
      clear hx
      by_cases g1 : 1 ≤ x ∧ x ≤ 15
      · obtain ⟨g10, g11⟩ := g1
        have HG1 : Hid (Xc.cuP (f k)) := Lib.hid (by rw [HX.out]; exact ⟨g10, g11⟩)
        by_cases g2 : Xc.hourP y
        · have HG2 := Lib.hid g2
          by_cases g3 : 1 ≤ z ∧ z ≤ 1000000000
          · have HG3 : Hid (Xc.puP (f k)) := Lib.hid (by rw [HX.out]; exact ⟨g2, g3⟩)
            obtain ⟨g30, g31⟩ := g3
            clear g2
            go_wp2_with fail
            refine (rh_yes HG2.out _).mono ?_
            rintro e w' ⟨rfl, rfl⟩
            go_upto_region 11 with (fail)
            obtain ⟨W, hW⟩ : ∃ W, wr.alloc (.cells #[.int .i64 x, .int .i64 y, .int .i64 z] 24) = W := ⟨_, rfl⟩
            have HBX : Hid (Has W wr.heap.size #[.int .i64 x, .int .i64 y, .int .i64 z] 24) := Lib.hid (by rw [← hW]; exact Has.new wr _ _)
            replace HB : Hid (Below w.heap.size w W) := Lib.hid (by rw [← hW]; exact HB.out.alloc hs _)
            rw [hW]
            clear hW hc0 hc1 hc2 had
            obtain ⟨bx, hbx⟩ : ∃ b, wr.heap.size = b := ⟨_, rfl⟩
            rw [hbx] at HBX ⊢
            clear hbx hs
            have hs := HB.out.size
            cases k with
            | zero =>
              have HG : Hid (scan (Xc.rc f) (n - (0 + 1)) (0 + 1) = S) := Lib.hid (by rw [← scan_go _ hlt (Xc.rc_fine HG1.out HG3.out (fun c => by omega))]; exact HS.out)
              have hd : decide ((0 : Int) < ((0 : Nat) : Int)) = false := by decide
              go_quiet (fail)
              go_wp2_with fail
              go_roundw
              case rel => exact ⟨0 + 1, by omega, by first | rfl | go_num, HG, Lib.hid (below_drewN HB.out _)⟩
              case measure => simp [intOf]; omega
            | succ j =>
              obtain ⟨b', o', e', had, hd0, hd1, hd2⟩ := ((HP.out.below HB.out).mono hs).get (j := j) (by omega)
              simp only [Option.some.injEq, Addr.mk.injEq, and_true] at e'
              obtain ⟨rfl, rfl⟩ := e'
              obtain ⟨⟨p, q, r⟩, hx'⟩ : ∃ x, f j = x := ⟨_, rfl⟩
              rw [hx'] at hd0 hd1 hd2
              simp only at hd0 hd1 hd2
              have hways := Xc.aft_ways ⟨p, q, r⟩ ⟨x, y, z⟩
              have HFJ : Hid (f (j + 1 - 1) = ⟨p, q, r⟩) := Lib.hid (by rw [Nat.add_sub_cancel]; exact hx')
              clear hx'
              obtain ⟨u0, u1, u2⟩ := HBX.out.rules
              have v0 := u0 0
              have v1 := u0 1
              simp only [List.getElem?_toArray, List.getElem?_cons_zero, List.getElem?_cons_succ] at v0 v1
              have hw : IntKind.i64.wrap (((j + 1 : Nat) : Int) - 1) = j := by rw [IntKind.wrap_i64]; omega
              have hw' : IntKind.i64.wrap (j : Int) = j := by rw [IntKind.wrap_i64]; omega
              have hj0 : (0 : Int) ≤ j := by omega
              have hj1 : (j : Int) < n := by omega
              have hj2 : (0 : Int) < ((j + 1 : Nat) : Int) := by omega
              have hj3 : decide ((0 : Int) < ((j + 1 : Nat) : Int)) = true := decide_eq_true hj2
              clear u0 u1
              rcases hways with ⟨a1, ha⟩ | ⟨a1, ha⟩ | ⟨a1, a2, ha⟩ | ⟨a1, a2, ha⟩
              · have he := Xc.rc_order HG1.out HG3.out ⟨by omega, by rw [HFJ.out, HX.out]; exact ha⟩
                have HG : Hid ((13 : Int) = S) := Lib.hid (by rw [← HS.out, scan_stop _ hlt (by rw [he]; omega), he])
                clear he ha
                simp only at a1
                have t1 : decide (x < p) = true := decide_eq_true a1
                go_quiet (fail)
                go_wp2_with fail
                go_ret
                exact ⟨ret_i64 HG.out, below_drewN HB.out _⟩
              · have HG : Hid (scan (Xc.rc f) (n - (j + 1 + 1)) (j + 1 + 1) = S) := Lib.hid (by rw [← scan_go _ hlt (Xc.rc_fine HG1.out HG3.out (fun c => c.2 (by rw [HFJ.out, HX.out]; exact ha)))]; exact HS.out)
                clear ha
                simp only at a1
                have t1 : decide (x < p) = false := decide_eq_false (by omega)
                have t2 : (p == x) = false := by rw [beq_eq_false_iff_ne]; omega
                go_quiet (fail)
                go_wp2_with fail
                go_roundw
                case rel => exact ⟨j + 1 + 1, by omega, by first | rfl | go_num, HG, Lib.hid (below_drewN HB.out _)⟩
                case measure => simp [intOf]; omega
              · have he := Xc.rc_order HG1.out HG3.out ⟨by omega, by rw [HFJ.out, HX.out]; exact ha⟩
                have HG : Hid ((13 : Int) = S) := Lib.hid (by rw [← HS.out, scan_stop _ hlt (by rw [he]; omega), he])
                clear he ha
                simp only at a1 a2
                have t1 : decide (x < p) = false := decide_eq_false (by omega)
                have t2 : (p == x) = true := by rw [beq_iff_eq]; exact a1
                have t3 : decide (y ≤ q) = true := decide_eq_true a2
                clear a1
                go_quiet (fail)
                go_wp2_with fail
                go_ret
                exact ⟨ret_i64 HG.out, below_drewN HB.out _⟩
              · have HG : Hid (scan (Xc.rc f) (n - (j + 1 + 1)) (j + 1 + 1) = S) := Lib.hid (by rw [← scan_go _ hlt (Xc.rc_fine HG1.out HG3.out (fun c => c.2 (by rw [HFJ.out, HX.out]; exact ha)))]; exact HS.out)
                clear ha
                simp only at a1 a2
                have t1 : decide (x < p) = false := decide_eq_false (by omega)
                have t2 : (p == x) = true := by rw [beq_iff_eq]; exact a1
                have t3 : decide (y ≤ q) = false := decide_eq_false (by omega)
                clear a1
                go_quiet (fail)
                go_wp2_with fail
                go_roundw
                case rel => exact ⟨j + 1 + 1, by omega, by first | rfl | go_num, HG, Lib.hid (below_drewN HB.out _)⟩
                case measure => simp [intOf]; omega
          · have he : Xc.rc f k = 1 := Xc.rc_range HG1.out (by rw [HX.out]; exact fun c => g3 c.2)
            have HG : Hid ((1 : Int) = S) := Lib.hid (by rw [← HS.out, scan_stop _ hlt (by rw [he]; omega), he])
            have hh : z < 1 ∨ 1 ≤ z ∧ 1000000000 < z := by omega
            clear he HS g3 g2
            rcases hh with hh | ⟨hh, hh2⟩
            all_goals
              go_wp2_with fail
              refine (rh_yes HG2.out _).mono ?_
              rintro e w' ⟨rfl, rfl⟩
              go_wp2_with fail
              go_ret
              exact ⟨ret_i64 HG.out, HB.out.alloc hs _⟩
        · have HG2 := Lib.hid g2
          have he : Xc.rc f k = 1 := Xc.rc_range HG1.out (by rw [HX.out]; exact fun c => g2 c.1)
          have HG : Hid ((1 : Int) = S) := Lib.hid (by rw [← HS.out, scan_stop _ hlt (by rw [he]; omega), he])
          clear he HS g2
          go_wp2_with fail
          refine (rh_no HG2.out _).mono ?_
          rintro e w' ⟨rfl, rfl⟩
          go_wp2_with fail
          go_ret
          exact ⟨ret_i64 HG.out, HB.out.alloc hs _⟩
      · have he : Xc.rc f k = 15 := Xc.rc_cur (by rw [HX.out]; exact g1)
        have HG : Hid ((15 : Int) = S) := Lib.hid (by rw [← HS.out, scan_stop _ hlt (by rw [he]; omega), he])
        have hh : x < 1 ∨ 1 ≤ x ∧ 15 < x := by omega
        clear he HS g1
        rcases hh with hh | ⟨hh, hh2⟩
        all_goals
          go_wp2_with fail
          go_ret
          exact ⟨ret_i64 HG.out, HB.out.alloc hs _⟩
    · have hkn : k = n := by omega
      have HG : Hid ((0 : Int) = S) := Lib.hid (by rw [← HS.out, hkn, scan_end])
      go_wp2_with fail
      go_ret
      exact ⟨ret_i64 HG.out, HB.out⟩
end Go.Proofs.Ytojpjglkdmmfjaa
