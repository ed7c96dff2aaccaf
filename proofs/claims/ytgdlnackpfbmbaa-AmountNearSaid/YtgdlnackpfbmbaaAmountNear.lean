/- The law AmountNear: a rounded quotient differs from the exact one by less than 1, in the direction of the mode, and by at most a half with HalfUp and HalfEven, for every input. No condition. -/
import Derived.Test.YtgdlnackpfbmbaaRows
import Derived.Test.YtgdlnackpfbmbaaAwake1
import Derived.Test.YtgdlnackpfbmbaaAmLaws
import Derived.Test.YtgdlnackpfbmbaaMode1
import Derived.WalkKit
import Derived.ProofKit
import Derived.OpenShut
namespace Go.Proofs.Ytgdlnackpfbmbaa.amountNear
open Go.ChangeShapes Go.WideShapes Go.ChangeAt Go.RowKit
set_option linter.unusedVariables false      -- a walk need not use every 'w<i>' (that an integer argument fits its kind)

theorem own : ownKnob Try.prog.godebug = none := by kernel_rfl



/-! ### STEP 1: THE WALK: the Go text returns true. 'Grown w w'': the world has at most new blocks (Derived/RowKit3.lean). Part the cases AHEAD of 'go_enter' where a test parts the walk; take each callee by a contract of your own. -/
set_option maxHeartbeats 4000000 in
set_option maxRecDepth 100000 in
theorem walk (a0 : Int) (a1 : Int) (a2 : Int) (a3 : Int) (w0 : (Lit.int .i32 a0).wf = true) (w1 : (Lit.int .u16 a1).wf = true) (w2 : (Lit.int .u16 a2).wf = true) (w3 : (Lit.int .u8 a3).wf = true) (w : World) :
    Calls Try.prog 4 #[.int .i32 a0, .int .u16 a1, .int .u16 a2, .int .u8 a3] w fun e w' => e = .returned (.bool true) ∧ Grown w w' := by
  obtain ⟨p0, p1⟩ := bounds_i32 w0
  obtain ⟨n0, n1⟩ := bounds_u16 w1
  obtain ⟨d0, d1⟩ := bounds_u16 w2
  obtain ⟨k0, k1⟩ := bounds_u8 w3
  clear w0 w1 w2 w3
  by_cases hz : a2 = 0
  · subst hz
    go_enter Try.func4, Try.ntmps4
    go_wp2_with (go_at_call 14; refine (awake1_any _).mono ?_; rintro e w' ⟨rfl, nq3, rfl⟩)
    go_ret
    exact ⟨rfl, by repeat (first | exact Grown.refl _ | apply Grown.drewN | apply Grown.drew | apply Grown.alloc)⟩
  · have hz1 : (a2 == 0) = false := by rw [beq_eq_false_iff_ne]; omega
    obtain ⟨m, hm⟩ : ∃ m, 1 + a3 % 5 = m := ⟨_, rfl⟩
    have m0 : 1 ≤ m := by omega
    have m1 : m ≤ 5 := by omega
    obtain ⟨x, hx, hx0, hx1⟩ : ∃ x, a0.tdiv 16 = x ∧ -134217728 ≤ x ∧ x ≤ 134217728 := by
      exact ⟨_, rfl, Am.tdiv16 a0 p0 p1⟩
    obtain ⟨n, d, e1, e2, ⟨e3, e3'⟩, ⟨e4, e4'⟩, c1, c2, c3, c4, c5⟩ := Am.md_near x a1 a2 m m0 m1 hx0 hx1 n0 n1 (by omega) d1
    have cm := muldiv_any x a1 a2 m
    rw [e1] at cm
    have CM := Lib.hid cm
    have HM := Lib.hid hm
    have hxa0 : -8796093022208 ≤ x * a1 := by
      have := Int.mul_le_mul_of_nonneg_right hx0 n0
      omega
    have hxa1 : x * a1 ≤ 8796093022208 := by
      have := Int.mul_le_mul_of_nonneg_right hx1 n0
      omega
    have hnb0 : -576460752303488000 ≤ n * a2 := by
      have := Int.mul_le_mul_of_nonneg_right e4 d0
      omega
    have hnb1 : n * a2 ≤ 576460752303488000 := by
      have := Int.mul_le_mul_of_nonneg_right e4' d0
      omega
    clear cm hm e1
    obtain rfl | rfl | rfl | rfl | rfl : m = 1 ∨ m = 2 ∨ m = 3 ∨ m = 4 ∨ m = 5 := by omega
    · have c1 := c1 rfl
      clear c2 c3 c4 c5
      rcases c1 with ⟨f1, f2⟩ | ⟨f1, f2⟩
      · go_enter Try.func4, Try.ntmps4
        go_wp2_with (first | (go_at_call 14; refine (awake1_any _).mono ?_; rintro e w' ⟨rfl, nq3, rfl⟩) | (go_at_call 15; refine (mode1_is _ _ _ k0 k1 HM).mono ?_; rintro e w' ⟨rfl, rfl⟩) | (go_at_call 12; refine (CM.out _).mono ?_; rintro e w' ⟨rfl, nq, rfl⟩))
        go_ret
        exact ⟨rfl, by repeat (first | exact Grown.refl _ | apply Grown.drewN | apply Grown.drew | apply Grown.alloc)⟩
      · go_enter Try.func4, Try.ntmps4
        go_wp2_with (first | (go_at_call 14; refine (awake1_any _).mono ?_; rintro e w' ⟨rfl, nq3, rfl⟩) | (go_at_call 15; refine (mode1_is _ _ _ k0 k1 HM).mono ?_; rintro e w' ⟨rfl, rfl⟩) | (go_at_call 12; refine (CM.out _).mono ?_; rintro e w' ⟨rfl, nq, rfl⟩))
        go_ret
        exact ⟨rfl, by repeat (first | exact Grown.refl _ | apply Grown.drewN | apply Grown.drew | apply Grown.alloc)⟩
    · have c2 := c2 rfl
      clear c1 c3 c4 c5
      go_enter Try.func4, Try.ntmps4
      go_wp2_with (first | (go_at_call 14; refine (awake1_any _).mono ?_; rintro e w' ⟨rfl, nq3, rfl⟩) | (go_at_call 15; refine (mode1_is _ _ _ k0 k1 HM).mono ?_; rintro e w' ⟨rfl, rfl⟩) | (go_at_call 12; refine (CM.out _).mono ?_; rintro e w' ⟨rfl, nq, rfl⟩))
      go_ret
      exact ⟨rfl, by repeat (first | exact Grown.refl _ | apply Grown.drewN | apply Grown.drew | apply Grown.alloc)⟩
    · have c3 := c3 rfl
      clear c1 c2 c4 c5
      go_enter Try.func4, Try.ntmps4
      go_wp2_with (first | (go_at_call 14; refine (awake1_any _).mono ?_; rintro e w' ⟨rfl, nq3, rfl⟩) | (go_at_call 15; refine (mode1_is _ _ _ k0 k1 HM).mono ?_; rintro e w' ⟨rfl, rfl⟩) | (go_at_call 12; refine (CM.out _).mono ?_; rintro e w' ⟨rfl, nq, rfl⟩))
      go_ret
      exact ⟨rfl, by repeat (first | exact Grown.refl _ | apply Grown.drewN | apply Grown.drew | apply Grown.alloc)⟩
    · obtain ⟨c4, c4'⟩ := c4 rfl
      clear c1 c2 c3 c5
      go_enter Try.func4, Try.ntmps4
      go_wp2_with (first | (go_at_call 14; refine (awake1_any _).mono ?_; rintro e w' ⟨rfl, nq3, rfl⟩) | (go_at_call 15; refine (mode1_is _ _ _ k0 k1 HM).mono ?_; rintro e w' ⟨rfl, rfl⟩) | (go_at_call 12; refine (CM.out _).mono ?_; rintro e w' ⟨rfl, nq, rfl⟩))
      go_ret
      exact ⟨rfl, by repeat (first | exact Grown.refl _ | apply Grown.drewN | apply Grown.drew | apply Grown.alloc)⟩
    · obtain ⟨⟨c5, c5'⟩, c6⟩ := c5 rfl
      clear c1 c2 c3 c4
      have c6 : ((2 * d != a2) = true ∧ (-2 * d != a2) = true) ∨ ((2 * d != a2) = false ∧ (n.tmod 2 == 0) = true) ∨ ((2 * d != a2) = true ∧ (-2 * d != a2) = false ∧ (n.tmod 2 == 0) = true) := by
        simp only [bne_iff_ne, bne_eq_false_iff_eq, beq_iff_eq]
        have ht := Am.tmod2 n
        generalize n.tmod 2 = t at *
        omega
      rcases c6 with ⟨f1, f2⟩ | ⟨f1, f2⟩ | ⟨f1, f2, f3⟩
      · go_enter Try.func4, Try.ntmps4
        go_wp2_with (first | (go_at_call 14; refine (awake1_any _).mono ?_; rintro e w' ⟨rfl, nq3, rfl⟩) | (go_at_call 15; refine (mode1_is _ _ _ k0 k1 HM).mono ?_; rintro e w' ⟨rfl, rfl⟩) | (go_at_call 12; refine (CM.out _).mono ?_; rintro e w' ⟨rfl, nq, rfl⟩))
        go_ret
        exact ⟨rfl, by repeat (first | exact Grown.refl _ | apply Grown.drewN | apply Grown.drew | apply Grown.alloc)⟩
      · go_enter Try.func4, Try.ntmps4
        go_wp2_with (first | (go_at_call 14; refine (awake1_any _).mono ?_; rintro e w' ⟨rfl, nq3, rfl⟩) | (go_at_call 15; refine (mode1_is _ _ _ k0 k1 HM).mono ?_; rintro e w' ⟨rfl, rfl⟩) | (go_at_call 12; refine (CM.out _).mono ?_; rintro e w' ⟨rfl, nq, rfl⟩))
        go_ret
        exact ⟨rfl, by repeat (first | exact Grown.refl _ | apply Grown.drewN | apply Grown.drew | apply Grown.alloc)⟩
      · go_enter Try.func4, Try.ntmps4
        go_wp2_with (first | (go_at_call 14; refine (awake1_any _).mono ?_; rintro e w' ⟨rfl, nq3, rfl⟩) | (go_at_call 15; refine (mode1_is _ _ _ k0 k1 HM).mono ?_; rintro e w' ⟨rfl, rfl⟩) | (go_at_call 12; refine (CM.out _).mono ?_; rintro e w' ⟨rfl, nq, rfl⟩))
        go_ret
        exact ⟨rfl, by repeat (first | exact Grown.refl _ | apply Grown.drewN | apply Grown.drew | apply Grown.alloc)⟩

/-! ### THE ROW's STEP: WRITTEN OUT: LEAVE IT -/
set_option maxRecDepth 100000 in
theorem lifted (os : Os) (started : os.Started) (H : Type) (enc : TypeId × Value → H) :
    ReturnsInHanded {} Try.checked os 4 .any (Rows.amountNearSpec.pre6 enc Try.prog Try.f4 Rows.amountNearRow.domain false) (Rows.amountNearSpec.post enc Try.prog Try.f4 false true false false) := by
  refine returnsInHanded_of_change (C := Try.checked) own started (by kernel_rfl) Try.func4
    (ChangeSpec.witness6 (enc := enc) (C := Try.checked) false ⟨#[], #[.int .i32 0, .int .u16 0, .int .u16 0, .int .u8 0], []⟩ 8 (by kernel_rfl) (by kernel_rfl) (by kernel_rfl) (by kernel_rfl)) ?_
  intro W base args ds gs before hval0 hW hcnd _
  have hval : ∀ (j : Nat) t v, Try.f4.params[j]? = some t → args[j]? = some v → Value.okWide Try.prog W .any base t v := hval0
  have hW' := hW
  obtain ⟨p, q, hA0, hV, rfl, hfz, hnd⟩ := hW
  have hA : DataW.TrodAll enc Try.prog W 0 (fun _ => true) true Try.f4.params.toList args.toList ds p := hA0
  rw [Try.params4] at hA hval
  obtain ⟨v0, vs0, d0, ds0, p0, q0, hargs, rfl, rfl, h0, r0⟩ := trodAll_cons hA
  obtain ⟨v1, vs1, d1, ds1, p1, q1, rfl, rfl, rfl, h1, r1⟩ := trodAll_cons r0
  obtain ⟨v2, vs2, d2, ds2, p2, q2, rfl, rfl, rfl, h2, r2⟩ := trodAll_cons r1
  obtain ⟨v3, vs3, d3, ds3, p3, q3, rfl, rfl, rfl, h3, r3⟩ := trodAll_cons r2
  obtain ⟨rfl, rfl, rfl⟩ := trodAll_nil r3
  obtain rfl : args = #[v0, v1, v2, v3] := by cases args; simp_all
  obtain ⟨rfl, rfl⟩ := trodVars_none hV
  obtain ⟨a0, rfl, rfl, rfl, w0⟩ := open_int Try.underlying21 (hval 0 21 v0 rfl rfl) h0
  obtain ⟨a1, rfl, rfl, rfl, w1⟩ := open_int Try.underlying29 (hval 1 29 v1 rfl rfl) h1
  obtain ⟨a2, rfl, rfl, rfl, w2⟩ := open_int Try.underlying29 (hval 2 29 v2 rfl rfl) h2
  obtain ⟨a3, rfl, rfl, rfl, w3⟩ := open_int Try.underlying5 (hval 3 5 v3 rfl rfl) h3
  clear hA0 hval0
  simp only [List.append_nil] at hW'
  refine (walk a0 a1 a2 a3 w0 w1 w2 w3 W).mono fun e W' ⟨he, hg⟩ => ?_
  subst he
  exact ⟨_, rfl, post_of_same (pa := []) (pv := []) hW' (fun _ _ _ => (trodAll_cons_mk (shut_bool Try.underlying4 _) trodAll_mk0)) (fun sp _ => (trodAll_cons_mk (shut_int Try.underlying21 w0) (trodAll_cons_mk (shut_int Try.underlying29 w1) (trodAll_cons_mk (shut_int Try.underlying29 w2) (trodAll_cons_mk (shut_int Try.underlying5 w3) trodAll_mk0))))) (fun _ _ => rfl) rfl
    (hg.frame _) hg.2.1 (ok_one (by kernel_rfl) rfl (okWide_bool_mk Try.underlying4 _))⟩

theorem over : Rows.amountNearRow.holds Try.pinned (OpenSpec.ofChange Rows.amountNearSpec) :=
  OpenClaim.holds_of_wide 4 Try.f4 rfl rfl rfl rfl rfl rfl rfl ⟨rfl, rfl, rfl, rfl, rfl⟩ rfl rfl rfl rfl rfl (by kernel_rfl) Try.func4 (by kernel_rfl)
    (of_decide_eq_true (by kernel_rfl)) (by unfold Func.isWrapper; first | (rw [if_pos (by decide +kernel)]; kernel_rfl) | (rw [if_neg (by decide +kernel)]; exact ⟨rfl, rfl⟩))
    (fun os started H enc _ => lifted os started H enc)

/-- ████ THE STATEMENT ████ -/
theorem proved : Rows.AmountNearSaid :=
  over
#print axioms proved
end Go.Proofs.Ytgdlnackpfbmbaa.amountNear
