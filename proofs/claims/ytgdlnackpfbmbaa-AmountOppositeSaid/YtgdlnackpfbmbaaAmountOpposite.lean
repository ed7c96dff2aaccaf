/- The law AmountOpposite: the quotient of the opposite amount is the opposite of the quotient, where Floor and Ceiling change places, for every input. No condition. -/
import Derived.Test.YtgdlnackpfbmbaaRows
import Derived.Test.YtgdlnackpfbmbaaAwake1
import Derived.Test.YtgdlnackpfbmbaaAmLaws2
import Derived.Test.YtgdlnackpfbmbaaMode1
import Derived.WalkKit
import Derived.ProofKit
import Derived.OpenShut
namespace Go.Proofs.Ytgdlnackpfbmbaa.amountOpposite
open Go.ChangeShapes Go.WideShapes Go.ChangeAt Go.RowKit
set_option linter.unusedVariables false      -- a walk need not use every 'w<i>' (that an integer argument fits its kind)

theorem own : ownKnob Try.prog.godebug = none := by kernel_rfl



/-! ### STEP 1: THE WALK: the Go text returns true. 'Grown w w'': the world has at most new blocks (Derived/RowKit3.lean). Part the cases AHEAD of 'go_enter' where a test parts the walk; take each callee by a contract of your own. -/
set_option maxHeartbeats 4000000 in
set_option maxRecDepth 100000 in
theorem walk (a0 : Int) (a1 : Int) (a2 : Int) (a3 : Int) (w0 : (Lit.int .i64 a0).wf = true) (w1 : (Lit.int .i64 a1).wf = true) (w2 : (Lit.int .i64 a2).wf = true) (w3 : (Lit.int .u8 a3).wf = true) (w : World) :
    Calls Try.prog 5 #[.int .i64 a0, .int .i64 a1, .int .i64 a2, .int .u8 a3] w fun e w' => e = .returned (.bool true) ∧ Grown w w' := by
  obtain ⟨k0, k1⟩ := bounds_u8 w3
  clear w0 w1 w2 w3
  obtain ⟨m, hm⟩ : ∃ m, 1 + a3 % 5 = m := ⟨_, rfl⟩
  have m0 : 1 ≤ m := by omega
  have m1 : m ≤ 5 := by omega
  have HM := Lib.hid hm
  clear hm
  obtain ⟨a, ha⟩ : ∃ a, Am.clamp a0 = a := ⟨_, rfl⟩
  obtain ⟨b0, b1⟩ := Am.clamp_bound a0
  obtain ⟨num, hnum⟩ : ∃ n, Am.within a1 17592186044417 = n := ⟨_, rfl⟩
  obtain ⟨den, hden⟩ : ∃ n, Am.within a2 17592186044417 = n := ⟨_, rfl⟩
  rw [ha] at b0 b1
  have ho := Am.md_opp a num den m
  obtain ⟨n, hn⟩ : ∃ n, (Am.md a num den m).1 = n := ⟨_, rfl⟩
  obtain ⟨e, he⟩ : ∃ n, (Am.md a num den m).2 = n := ⟨_, rfl⟩
  have hnv := Am.md_valid a num den m
  rw [hn, he] at hnv ho
  obtain ⟨v1, v2, v3, v4⟩ := hnv
  have c1 := muldiv_any a num den m
  rw [hn, he] at c1
  have c2 := muldiv_any (-a) num den (Am.opp m)
  rw [ho] at c2
  have C1 := Lib.hid c1
  have C2 := Lib.hid c2
  clear c1 c2 ho hn he
  obtain rfl | rfl | rfl | rfl | rfl : m = 1 ∨ m = 2 ∨ m = 3 ∨ m = 4 ∨ m = 5 := by omega
  all_goals
    simp only [Am.opp] at C2
    go_enter Try.func5, Try.ntmps5
    go_wp2_with (first | (go_at_call 14; refine (awake1_any _).mono ?_; rintro e w' ⟨rfl, nq3, rfl⟩) | (go_at_call 10; refine (rclamp_any _ _).mono ?_; rintro e w' ⟨rfl, rfl⟩) | (go_at_call 11; refine (within_any _ _ _ (by omega) (by omega)).mono ?_; rintro e w' ⟨rfl, rfl⟩) | (go_at_call 15; refine (mode1_is _ _ _ k0 k1 HM).mono ?_; rintro e w' ⟨rfl, rfl⟩) | (go_at_call_of 12 (Value.int IntKind.i64 a); refine (C1.out _).mono ?_; rintro e w' ⟨rfl, nq, rfl⟩) | (go_at_call_of 12 (Value.int IntKind.i64 (-a)); refine (C2.out _).mono ?_; rintro e w' ⟨rfl, nq5, rfl⟩))
    go_ret
    exact ⟨rfl, by repeat (first | exact Grown.refl _ | apply Grown.drewN | apply Grown.drew | apply Grown.alloc)⟩

/-! ### THE ROW's STEP: WRITTEN OUT: LEAVE IT -/
set_option maxRecDepth 100000 in
theorem lifted (os : Os) (started : os.Started) (H : Type) (enc : TypeId × Value → H) :
    ReturnsInHanded {} Try.checked os 5 .any (Rows.amountOppositeSpec.pre6 enc Try.prog Try.f5 Rows.amountOppositeRow.domain false) (Rows.amountOppositeSpec.post enc Try.prog Try.f5 false true false false) := by
  refine returnsInHanded_of_change (C := Try.checked) own started (by kernel_rfl) Try.func5
    (ChangeSpec.witness6 (enc := enc) (C := Try.checked) false ⟨#[], #[.int .i64 0, .int .i64 0, .int .i64 0, .int .u8 0], []⟩ 8 (by kernel_rfl) (by kernel_rfl) (by kernel_rfl) (by kernel_rfl)) ?_
  intro W base args ds gs before hval0 hW hcnd _
  have hval : ∀ (j : Nat) t v, Try.f5.params[j]? = some t → args[j]? = some v → Value.okWide Try.prog W .any base t v := hval0
  have hW' := hW
  obtain ⟨p, q, hA0, hV, rfl, hfz, hnd⟩ := hW
  have hA : DataW.TrodAll enc Try.prog W 0 (fun _ => true) true Try.f5.params.toList args.toList ds p := hA0
  rw [Try.params5] at hA hval
  obtain ⟨v0, vs0, d0, ds0, p0, q0, hargs, rfl, rfl, h0, r0⟩ := trodAll_cons hA
  obtain ⟨v1, vs1, d1, ds1, p1, q1, rfl, rfl, rfl, h1, r1⟩ := trodAll_cons r0
  obtain ⟨v2, vs2, d2, ds2, p2, q2, rfl, rfl, rfl, h2, r2⟩ := trodAll_cons r1
  obtain ⟨v3, vs3, d3, ds3, p3, q3, rfl, rfl, rfl, h3, r3⟩ := trodAll_cons r2
  obtain ⟨rfl, rfl, rfl⟩ := trodAll_nil r3
  obtain rfl : args = #[v0, v1, v2, v3] := by cases args; simp_all
  obtain ⟨rfl, rfl⟩ := trodVars_none hV
  obtain ⟨a0, rfl, rfl, rfl, w0⟩ := open_int Try.underlying3 (hval 0 3 v0 rfl rfl) h0
  obtain ⟨a1, rfl, rfl, rfl, w1⟩ := open_int Try.underlying3 (hval 1 3 v1 rfl rfl) h1
  obtain ⟨a2, rfl, rfl, rfl, w2⟩ := open_int Try.underlying3 (hval 2 3 v2 rfl rfl) h2
  obtain ⟨a3, rfl, rfl, rfl, w3⟩ := open_int Try.underlying5 (hval 3 5 v3 rfl rfl) h3
  clear hA0 hval0
  simp only [List.append_nil] at hW'
  refine (walk a0 a1 a2 a3 w0 w1 w2 w3 W).mono fun e W' ⟨he, hg⟩ => ?_
  subst he
  exact ⟨_, rfl, post_of_same (pa := []) (pv := []) hW' (fun _ _ _ => (trodAll_cons_mk (shut_bool Try.underlying4 _) trodAll_mk0)) (fun sp _ => (trodAll_cons_mk (shut_int Try.underlying3 w0) (trodAll_cons_mk (shut_int Try.underlying3 w1) (trodAll_cons_mk (shut_int Try.underlying3 w2) (trodAll_cons_mk (shut_int Try.underlying5 w3) trodAll_mk0))))) (fun _ _ => rfl) rfl
    (hg.frame _) hg.2.1 (ok_one (by kernel_rfl) rfl (okWide_bool_mk Try.underlying4 _))⟩

theorem over : Rows.amountOppositeRow.holds Try.pinned (OpenSpec.ofChange Rows.amountOppositeSpec) :=
  OpenClaim.holds_of_wide 5 Try.f5 rfl rfl rfl rfl rfl rfl rfl ⟨rfl, rfl, rfl, rfl, rfl⟩ rfl rfl rfl rfl rfl (by kernel_rfl) Try.func5 (by kernel_rfl)
    (of_decide_eq_true (by kernel_rfl)) (by unfold Func.isWrapper; first | (rw [if_pos (by decide +kernel)]; kernel_rfl) | (rw [if_neg (by decide +kernel)]; exact ⟨rfl, rfl⟩))
    (fun os started H enc _ => lifted os started H enc)

/-- ████ THE STATEMENT ████ -/
theorem proved : Rows.AmountOppositeSaid :=
  over
#print axioms proved
end Go.Proofs.Ytgdlnackpfbmbaa.amountOpposite
