/- The law AmountWhole: an amount that is multiplied and divided by the same number stays the same, and a multiple is divided exactly, for every input. No condition. -/
import Derived.Test.YtgdlnackpfbmbaaRows
import Derived.Test.YtgdlnackpfbmbaaAwake1
import Derived.Test.YtgdlnackpfbmbaaAmLaws2
import Derived.Test.YtgdlnackpfbmbaaMode1
import Derived.WalkKit
import Derived.ProofKit
import Derived.OpenShut
namespace Go.Proofs.Ytgdlnackpfbmbaa.amountWhole
open Go.ChangeShapes Go.WideShapes Go.ChangeAt Go.RowKit
set_option linter.unusedVariables false      -- a walk need not use every 'w<i>' (that an integer argument fits its kind)

theorem own : ownKnob Try.prog.godebug = none := by kernel_rfl

theorem whole1 (a n m : Int) (m0 : 1 ≤ m) (m1 : m ≤ 5) (a0 : -17592186044416 ≤ a) (a1 : a ≤ 17592186044416) (n0 : 1 ≤ n) (n1 : n ≤ 17592186044416) : Am.md a n n m = (a, 0) := by
  have hv : Am.validB a = true := (Am.validB_iff a).2 ⟨a0, a1⟩
  have hf : Am.factorB n = true := (Am.factorB_iff n).2 ⟨by omega, n1⟩
  rw [Am.md_exact a n n m (Am.absI a) (by omega) ⟨hv, hf, hf⟩ n0 rfl (Am.absI_le hv)]
  unfold Am.absI
  by_cases h : a < 0
  · simp [h]
  · simp [h]

theorem whole2 (b t m : Int) (m0 : 1 ≤ m) (m1 : m ≤ 5) (b0 : -2147483648 ≤ b) (b1 : b ≤ 2147483647) (t0 : 1 ≤ t) (t1 : t ≤ 8192) : Am.md (b * t) 8 (8 * t) m = (b, 0) := by
  have h1 : -2147483648 * t ≤ b * t := Int.mul_le_mul_of_nonneg_right b0 (by omega)
  have h2 : b * t ≤ 2147483647 * t := Int.mul_le_mul_of_nonneg_right b1 (by omega)
  have hv : Am.validB (b * t) = true := (Am.validB_iff _).2 ⟨by omega, by omega⟩
  have hf : Am.factorB 8 = true := (Am.factorB_iff _).2 ⟨by omega, by omega⟩
  have hg : Am.factorB (8 * t) = true := (Am.factorB_iff _).2 ⟨by omega, by omega⟩
  have hs : b * t < 0 ↔ b < 0 := by
    constructor
    · intro h
      by_cases hb : b < 0
      · exact hb
      · have := Int.mul_nonneg (show 0 ≤ b by omega) (show 0 ≤ t by omega); omega
    · intro h
      exact Int.mul_neg_of_neg_of_pos h (by omega)
  have ha : Am.absI (b * t) = Am.absI b * t := by
    unfold Am.absI
    by_cases h : b < 0
    · rw [if_pos (hs.2 h), if_pos h, Int.neg_mul]
    · rw [if_neg (fun c => h (hs.1 c)), if_neg h]
  rw [Am.md_exact (b * t) 8 (8 * t) m (Am.absI b) (by omega) ⟨hv, hf, hg⟩ (by omega) (by rw [ha, Int.mul_assoc, Int.mul_comm t 8]) (by unfold Am.absI; split <;> omega)]
  unfold Am.absI
  by_cases h : b < 0
  · rw [if_pos (hs.2 h), if_pos h, Int.neg_neg]
  · rw [if_neg (fun c => h (hs.1 c)), if_neg h]

/-! ### STEP 1: THE WALK: the Go text returns true. 'Grown w w'': the world has at most new blocks (Derived/RowKit3.lean). Part the cases AHEAD of 'go_enter' where a test parts the walk; take each callee by a contract of your own. -/
set_option maxHeartbeats 4000000 in
set_option maxRecDepth 100000 in
theorem walk (a0 : Int) (a1 : Int) (a2 : Int) (a3 : Int) (a4 : Int) (w0 : (Lit.int .i64 a0).wf = true) (w1 : (Lit.int .i64 a1).wf = true) (w2 : (Lit.int .i32 a2).wf = true) (w3 : (Lit.int .u16 a3).wf = true) (w4 : (Lit.int .u8 a4).wf = true) (w : World) :
    Calls Try.prog 7 #[.int .i64 a0, .int .i64 a1, .int .i32 a2, .int .u16 a3, .int .u8 a4] w fun e w' => e = .returned (.bool true) ∧ Grown w w' := by
  obtain ⟨k0, k1⟩ := bounds_u8 w4
  obtain ⟨p0, p1⟩ := bounds_i32 w2
  obtain ⟨q0, q1⟩ := bounds_u16 w3
  clear w0 w1 w2 w3 w4
  obtain ⟨m, hm⟩ : ∃ m, 1 + a4 % 5 = m := ⟨_, rfl⟩
  have m0 : 1 ≤ m := by omega
  have m1 : m ≤ 5 := by omega
  have HM := Lib.hid hm
  clear hm
  obtain ⟨a, ha⟩ : ∃ a, Am.clamp a0 = a := ⟨_, rfl⟩
  obtain ⟨b0, b1⟩ := Am.clamp_bound a0
  obtain ⟨n, hn⟩ : ∃ n, Am.within a1 17592186044416 = n := ⟨_, rfl⟩
  obtain ⟨n0, n1⟩ := Am.within_bound a1 17592186044416 (by omega)
  rw [ha] at b0 b1
  rw [hn] at n0 n1
  obtain ⟨t, ht⟩ : ∃ t, a3 / 8 = t := ⟨_, rfl⟩
  have t0 : 0 ≤ t := by omega
  have t1 : t ≤ 8191 := by omega
  have c1 := muldiv_any a (1 + n) (1 + n) m
  rw [whole1 a (1 + n) m m0 m1 b0 b1 (by omega) (by omega)] at c1
  have c2 := muldiv_any (a2 * (1 + t)) 8 (8 * (1 + t)) m
  rw [whole2 a2 (1 + t) m m0 m1 p0 p1 (by omega) (by omega)] at c2
  have h1 : -2147483648 * (1 + t) ≤ a2 * (1 + t) := Int.mul_le_mul_of_nonneg_right p0 (by omega)
  have h2 : a2 * (1 + t) ≤ 2147483647 * (1 + t) := Int.mul_le_mul_of_nonneg_right p1 (by omega)
  obtain ⟨pr, hpr⟩ : ∃ pr, a2 * (1 + t) = pr := ⟨_, rfl⟩
  rw [hpr] at c2 h1 h2
  have C1 := Lib.hid c1
  have C2 := Lib.hid c2
  have hpw : wrap64 (a2 * (1 + t)) = pr := by rw [hpr]; exact IntWalk.wrap64_in _ ⟨by omega, by omega⟩
  clear c1 c2
  go_enter Try.func7, Try.ntmps7
  go_wp2_with (first | (go_at_call 14; refine (awake1_any _).mono ?_; rintro e w' ⟨rfl, nq3, rfl⟩) | (go_at_call 10; refine (rclamp_any _ _).mono ?_; rintro e w' ⟨rfl, rfl⟩) | (go_at_call 11; refine (within_any _ _ _ (by omega) (by omega)).mono ?_; rintro e w' ⟨rfl, rfl⟩) | (go_at_call 15; refine (mode1_is _ _ _ k0 k1 HM).mono ?_; rintro e w' ⟨rfl, rfl⟩) | (go_at_call_of 12 (Value.int IntKind.i64 a); refine (C1.out _).mono ?_; rintro e w' ⟨rfl, nq, rfl⟩) | (go_at_call_of 12 (Value.int IntKind.i64 pr); refine (C2.out _).mono ?_; rintro e w' ⟨rfl, nq5, rfl⟩))
  go_ret
  exact ⟨rfl, by repeat (first | exact Grown.refl _ | apply Grown.drewN | apply Grown.drew | apply Grown.alloc)⟩

/-! ### THE ROW's STEP: WRITTEN OUT: LEAVE IT -/
set_option maxRecDepth 100000 in
theorem lifted (os : Os) (started : os.Started) (H : Type) (enc : TypeId × Value → H) :
    ReturnsInHanded {} Try.checked os 7 .any (Rows.amountWholeSpec.pre6 enc Try.prog Try.f7 Rows.amountWholeRow.domain false) (Rows.amountWholeSpec.post enc Try.prog Try.f7 false true false false) := by
  refine returnsInHanded_of_change (C := Try.checked) own started (by kernel_rfl) Try.func7
    (ChangeSpec.witness6 (enc := enc) (C := Try.checked) false ⟨#[], #[.int .i64 0, .int .i64 0, .int .i32 0, .int .u16 0, .int .u8 0], []⟩ 8 (by kernel_rfl) (by kernel_rfl) (by kernel_rfl) (by kernel_rfl)) ?_
  intro W base args ds gs before hval0 hW hcnd _
  have hval : ∀ (j : Nat) t v, Try.f7.params[j]? = some t → args[j]? = some v → Value.okWide Try.prog W .any base t v := hval0
  have hW' := hW
  obtain ⟨p, q, hA0, hV, rfl, hfz, hnd⟩ := hW
  have hA : DataW.TrodAll enc Try.prog W 0 (fun _ => true) true Try.f7.params.toList args.toList ds p := hA0
  rw [Try.params7] at hA hval
  obtain ⟨v0, vs0, d0, ds0, p0, q0, hargs, rfl, rfl, h0, r0⟩ := trodAll_cons hA
  obtain ⟨v1, vs1, d1, ds1, p1, q1, rfl, rfl, rfl, h1, r1⟩ := trodAll_cons r0
  obtain ⟨v2, vs2, d2, ds2, p2, q2, rfl, rfl, rfl, h2, r2⟩ := trodAll_cons r1
  obtain ⟨v3, vs3, d3, ds3, p3, q3, rfl, rfl, rfl, h3, r3⟩ := trodAll_cons r2
  obtain ⟨v4, vs4, d4, ds4, p4, q4, rfl, rfl, rfl, h4, r4⟩ := trodAll_cons r3
  obtain ⟨rfl, rfl, rfl⟩ := trodAll_nil r4
  obtain rfl : args = #[v0, v1, v2, v3, v4] := by cases args; simp_all
  obtain ⟨rfl, rfl⟩ := trodVars_none hV
  obtain ⟨a0, rfl, rfl, rfl, w0⟩ := open_int Try.underlying3 (hval 0 3 v0 rfl rfl) h0
  obtain ⟨a1, rfl, rfl, rfl, w1⟩ := open_int Try.underlying3 (hval 1 3 v1 rfl rfl) h1
  obtain ⟨a2, rfl, rfl, rfl, w2⟩ := open_int Try.underlying21 (hval 2 21 v2 rfl rfl) h2
  obtain ⟨a3, rfl, rfl, rfl, w3⟩ := open_int Try.underlying29 (hval 3 29 v3 rfl rfl) h3
  obtain ⟨a4, rfl, rfl, rfl, w4⟩ := open_int Try.underlying5 (hval 4 5 v4 rfl rfl) h4
  clear hA0 hval0
  simp only [List.append_nil] at hW'
  refine (walk a0 a1 a2 a3 a4 w0 w1 w2 w3 w4 W).mono fun e W' ⟨he, hg⟩ => ?_
  subst he
  exact ⟨_, rfl, post_of_same (pa := []) (pv := []) hW' (fun _ _ _ => (trodAll_cons_mk (shut_bool Try.underlying4 _) trodAll_mk0)) (fun sp _ => (trodAll_cons_mk (shut_int Try.underlying3 w0) (trodAll_cons_mk (shut_int Try.underlying3 w1) (trodAll_cons_mk (shut_int Try.underlying21 w2) (trodAll_cons_mk (shut_int Try.underlying29 w3) (trodAll_cons_mk (shut_int Try.underlying5 w4) trodAll_mk0)))))) (fun _ _ => rfl) rfl
    (hg.frame _) hg.2.1 (ok_one (by kernel_rfl) rfl (okWide_bool_mk Try.underlying4 _))⟩

theorem over : Rows.amountWholeRow.holds Try.pinned (OpenSpec.ofChange Rows.amountWholeSpec) :=
  OpenClaim.holds_of_wide 7 Try.f7 rfl rfl rfl rfl rfl rfl rfl ⟨rfl, rfl, rfl, rfl, rfl⟩ rfl rfl rfl rfl rfl (by kernel_rfl) Try.func7 (by kernel_rfl)
    (of_decide_eq_true (by kernel_rfl)) (by unfold Func.isWrapper; first | (rw [if_pos (by decide +kernel)]; kernel_rfl) | (rw [if_neg (by decide +kernel)]; exact ⟨rfl, rfl⟩))
    (fun os started H enc _ => lifted os started H enc)

/-- ████ THE STATEMENT ████ -/
theorem proved : Rows.AmountWholeSaid :=
  over
#print axioms proved
end Go.Proofs.Ytgdlnackpfbmbaa.amountWhole
