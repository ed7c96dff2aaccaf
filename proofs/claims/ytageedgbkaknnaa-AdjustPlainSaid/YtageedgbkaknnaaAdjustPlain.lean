/- The law AdjustPlain: without terms the whole gross amount is paid, an item that is insured for its full value does not suffer average, and one with nothing insured is not paid at all under average, for every input. No condition.
-- BELOW -/
import Derived.Test.YtageedgbkaknnaaRows
import Derived.Test.YtageedgbkaknnaaAwake16
import Derived.Test.YtageedgbkaknnaaKit
import Derived.WalkKit
import Derived.ProofKit
import Derived.OpenShut
import Derived.ChangeOld
import Derived.Below
namespace Go.Proofs.Ytageedgbkaknnaa.adjustPlain
open Go.ChangeShapes Go.WideShapes Go.ChangeAt Go.RowKit
set_option linter.unusedVariables false      -- a walk need not use every 'w<i>' (that an integer argument fits its kind)

theorem own : ownKnob Try.prog.godebug = none := by kernel_rfl

theorem plain_err (av : Bool) (va su gr : Int) (h1 : 0 ≤ va) (h2 : va ≤ 1073741824) (h3 : 0 ≤ su) (h4 : su ≤ 1073741824) (h5 : 0 ≤ gr) (h6 : gr ≤ 1073741824) : Ad.err ⟨4, -1, 0, 0, 0, av⟩ ⟨va, su, gr⟩ = 0 := by
  simp [Ad.err, Ad.itemErr, Ad.money, h1, h2, h3, h4, h5, h6]

theorem md_zero_share (r : Int) (h0 : 0 ≤ r) (h1 : r ≤ 1073741824) : (Am.md r 0 1000000 4).1 = 0 := by
  have hv : Am.validB r = true := (Am.validB_iff r).2 ⟨by omega, by omega⟩
  rw [Am.md_exact r 0 1000000 4 0 (by omega) ⟨hv, by decide, by decide⟩ (by omega) (by simp) (by omega)]
  simp

/-- without terms: what is not average is paid -/
theorem plain_net (av : Bool) (va su gr : Int) (h : 0 ≤ Ad.r1 ⟨4, -1, 0, 0, 0, av⟩ ⟨va, su, gr⟩) (h' : Ad.r1 ⟨4, -1, 0, 0, 0, av⟩ ⟨va, su, gr⟩ ≤ 1073741824) :
    Ad.net ⟨4, -1, 0, 0, 0, av⟩ ⟨va, su, gr⟩ = Ad.r1 ⟨4, -1, 0, 0, 0, av⟩ ⟨va, su, gr⟩ := by
  have e1 : Ad.fran ⟨4, -1, 0, 0, 0, av⟩ ⟨va, su, gr⟩ = 0 := if_pos h
  have e2 : Ad.r2 ⟨4, -1, 0, 0, 0, av⟩ ⟨va, su, gr⟩ = Ad.r1 ⟨4, -1, 0, 0, 0, av⟩ ⟨va, su, gr⟩ := by rw [Ad.r2, e1, Int.sub_zero]
  have e3 : Ad.ded ⟨4, -1, 0, 0, 0, av⟩ ⟨va, su, gr⟩ = 0 := by rw [Ad.ded, e2]; simp only; omega
  have e4 : Ad.r3 ⟨4, -1, 0, 0, 0, av⟩ ⟨va, su, gr⟩ = Ad.r1 ⟨4, -1, 0, 0, 0, av⟩ ⟨va, su, gr⟩ := by rw [Ad.r3, e3, e2, Int.sub_zero]
  have e5 : Ad.coin ⟨4, -1, 0, 0, 0, av⟩ ⟨va, su, gr⟩ = 0 := by rw [Ad.coin, e4]; exact md_zero_share _ h h'
  have e6 : Ad.over ⟨4, -1, 0, 0, 0, av⟩ ⟨va, su, gr⟩ = 0 := if_pos rfl
  rw [Ad.net, Ad.r4, e6, e5, e4, Int.sub_zero, Int.sub_zero]
theorem plain_false (va su gr : Int) : Ad.r1 ⟨4, -1, 0, 0, 0, false⟩ ⟨va, su, gr⟩ = gr := by
  simp [Ad.r1, Ad.aver]

theorem plain_full (va su gr : Int) (h : va ≤ su) : Ad.r1 ⟨4, -1, 0, 0, 0, true⟩ ⟨va, su, gr⟩ = gr := by
  simp [Ad.r1, Ad.aver, h]

theorem plain_none (va gr : Int) (h : 0 < va) (h1 : va ≤ 1073741824) (g0 : 0 ≤ gr) (g1 : gr ≤ 1073741824) : Ad.r1 ⟨4, -1, 0, 0, 0, true⟩ ⟨va, 0, gr⟩ = 0 ∧ Ad.aver ⟨4, -1, 0, 0, 0, true⟩ ⟨va, 0, gr⟩ = gr := by
  have hv : Am.validB gr = true := (Am.validB_iff gr).2 ⟨by omega, by omega⟩
  have hd : Am.factorB va = true := (Am.factorB_iff va).2 ⟨by omega, by omega⟩
  have e : (Am.md gr 0 va 4).1 = 0 := by
    rw [Am.md_exact gr 0 va 4 0 (by omega) ⟨hv, by decide, hd⟩ (by omega) (by simp) (by omega)]
    simp
  have ea : Ad.aver ⟨4, -1, 0, 0, 0, true⟩ ⟨va, 0, gr⟩ = gr := by
    rw [Ad.aver, if_neg (by simp; omega)]
    simp only [e]; omega
  exact ⟨by rw [Ad.r1, ea]; simp, ea⟩

/-- the adjustment without terms -/
theorem plain_call (av : Bool) (va su gr : Int) (h1 : 0 ≤ va) (h2 : va ≤ 1073741824) (h3 : 0 ≤ su) (h4 : su ≤ 1073741824) (h5 : 0 ≤ gr) (h6 : gr ≤ 1073741824) (t u : Int)
    (hr : Ad.r1 ⟨4, -1, 0, 0, 0, av⟩ ⟨va, su, gr⟩ = t) (hu : Ad.aver ⟨4, -1, 0, 0, 0, av⟩ ⟨va, su, gr⟩ = u) (ht0 : 0 ≤ t) (ht1 : t ≤ 1073741824) (W : World) :
    Calls Try.prog 9 #[.agg #[.int .i64 4, .int .i64 (-1), .int .i64 0, .int .i64 0, .int .i64 0, .bool av], .agg #[.slice none 0 0, .int .i64 va, .int .i64 su, .int .i64 gr]] W
      fun r w' => ∃ q1 q2 q3 q4 : Int, r = .returned (.tuple #[.agg #[.int .i64 gr, .int .i64 0, .int .i64 u, .int .i64 q1, .int .i64 q2, .int .i64 q3, .int .i64 q4, .int .i64 0, .int .i64 t], .int .i64 0]) ∧ Below W.heap.size W w' := by
  have c := adjust_any ⟨4, -1, 0, 0, 0, av⟩ ⟨va, su, gr⟩ none 0 0 W
  have he := plain_err av va su gr h1 h2 h3 h4 h5 h6
  have hn := plain_net av va su gr (by rw [hr]; exact ht0) (by rw [hr]; exact ht1)
  rw [hr] at hn
  rw [Ad.res, if_pos he, if_pos rfl, Ad.paid, hn, he, hu] at c
  exact c.mono fun e w' h => ⟨_, _, _, _, h⟩

/-! ### STEP 1: THE WALK: the Go text returns true. 'Grown w w'': the world has at most new blocks (Derived/RowKit3.lean). Part the cases AHEAD of 'go_enter' where a test parts the walk; take each callee by a contract of your own. -/
set_option maxHeartbeats 4000000 in
set_option maxRecDepth 100000 in
theorem walk (a0 : Int) (a1 : Int) (a2 : Int) (w0 : (Lit.int .i64 a0).wf = true) (w1 : (Lit.int .i64 a1).wf = true) (w2 : (Lit.int .i64 a2).wf = true) (w : World) :
    Calls Try.prog 6 #[.int .i64 a0, .int .i64 a1, .int .i64 a2] w fun e w' => e = .returned (.bool true) ∧ Below w.heap.size w w' := by
  clear w0 w1 w2
  obtain ⟨v0, v1⟩ := Am.within_bound a0 1073741825 (by omega)
  obtain ⟨s0, s1⟩ := Am.within_bound a1 1073741825 (by omega)
  obtain ⟨g0, g1⟩ := Am.within_bound a2 1073741825 (by omega)
  obtain ⟨va, hva⟩ : ∃ x, Am.within a0 1073741825 = x := ⟨_, rfl⟩
  obtain ⟨su, hsu⟩ : ∃ x, Am.within a1 1073741825 = x := ⟨_, rfl⟩
  obtain ⟨gr, hgr⟩ : ∃ x, Am.within a2 1073741825 = x := ⟨_, rfl⟩
  rw [hva] at v0 v1
  rw [hsu] at s0 s1
  rw [hgr] at g0 g1
  obtain ⟨mx, hmx, m0, m1, m2⟩ : ∃ mx, max su va = mx ∧ 0 ≤ mx ∧ mx ≤ 1073741824 ∧ va ≤ mx := ⟨_, rfl, by omega, by omega, by omega⟩
  have C1 := Lib.hid (plain_call false va su gr v0 (by omega) s0 (by omega) g0 (by omega) gr 0 (plain_false va su gr) (by simp [Ad.aver]) g0 (by omega))
  have C2 := Lib.hid (plain_call true va mx gr v0 (by omega) m0 m1 g0 (by omega) gr 0 (plain_full va mx gr m2) (by simp [Ad.aver, m2]) g0 (by omega))
  obtain ⟨cu, ct, C3, hcc⟩ : ∃ cu ct : Int, Hid (∀ W : World, Calls Try.prog 9 #[.agg #[.int .i64 4, .int .i64 (-1), .int .i64 0, .int .i64 0, .int .i64 0, .bool true], .agg #[.slice none 0 0, .int .i64 va, .int .i64 0, .int .i64 gr]] W
      fun r w' => ∃ q1 q2 q3 q4 : Int, r = .returned (.tuple #[.agg #[.int .i64 gr, .int .i64 0, .int .i64 cu, .int .i64 q1, .int .i64 q2, .int .i64 q3, .int .i64 q4, .int .i64 0, .int .i64 ct], .int .i64 0]) ∧ Below W.heap.size W w') ∧
      (va = 0 ∨ va ≠ 0 ∧ cu = gr ∧ ct = 0) := by
    by_cases hv : va = 0
    · exact ⟨_, _, Lib.hid (plain_call true va 0 gr v0 (by omega) (by omega) (by omega) g0 (by omega) gr _ (plain_full va 0 gr (by omega)) rfl g0 (by omega)), .inl hv⟩
    · obtain ⟨p1, p2⟩ := plain_none va gr (by omega) (by omega) g0 (by omega)
      exact ⟨_, _, Lib.hid (plain_call true va 0 gr v0 (by omega) (by omega) (by omega) g0 (by omega) 0 _ p1 p2 (by omega) (by omega)), .inr ⟨hv, rfl, rfl⟩⟩
  have HCC := Lib.hid hcc
  clear hcc
  go_enter Try.func6, Try.ntmps6
  go_wp2_with (first | (go_at_call 13; refine (within_any _ _ _ (by omega) (by omega)).mono ?_; rintro e w' ⟨rfl, rfl⟩))
  refine (C1.out _).mono ?_
  rintro e w1 ⟨q1, q2, q3, q4, rfl, hb1⟩
  have HB1 : Hid (Below w.heap.size w w1) := Lib.hid (((Below.refl _ _).alloc (Nat.le_refl _) _).trans (hb1.mono (by simp)))
  have HX := Lib.hid ((Has.new w _ _).below hb1 (by simp))
  obtain ⟨xc, xf, xl⟩ := HX.out.rules
  clear hb1
  go_wp2_with (first | (go_at_call 13; refine (within_any _ _ _ (by omega) (by omega)).mono ?_; rintro e w' ⟨rfl, rfl⟩))
  refine (C2.out _).mono ?_
  rintro e w2 ⟨q1', q2', q3', q4', rfl, hb2⟩
  have HB2 : Hid (Below w.heap.size w w2) := Lib.hid (((HB1.out.alloc (by omega) _).alloc (by simp; omega) _).trans (hb2.mono (by simp; omega)))
  have HA := Lib.hid (((Has.new w1 _ _).alloc _).below hb2 (by simp; omega))
  have HX2 := Lib.hid (((HX.out.alloc _).alloc _).below hb2 (by simp; omega))
  clear hb2 HX xc xf xl HB1
  obtain ⟨xc, xf, xl⟩ := HX2.out.rules
  obtain ⟨ac, af, al⟩ := HA.out.rules
  go_wp2_with (first | (go_at_call 13; refine (within_any _ _ _ (by omega) (by omega)).mono ?_; rintro e w' ⟨rfl, rfl⟩))
  refine (C3.out _).mono ?_
  rintro e w3 ⟨q1'', q2'', q3'', q4'', rfl, hb3⟩
  have HB3 : Hid (Below w.heap.size w w3) := Lib.hid (((HB2.out.alloc (by omega) _).alloc (by simp; omega) _).trans (hb3.mono (by simp; omega)))
  have HA3 := Lib.hid (((HA.out.alloc _).alloc _).below hb3 (by simp; omega))
  have HX3 := Lib.hid (((HX2.out.alloc _).alloc _).below hb3 (by simp; omega))
  have HBB := Lib.hid (((Has.new w2 _ _).alloc _).below hb3 (by simp; omega))
  have HZ := Lib.hid ((Has.new' (w2.alloc _) (w2.heap.size + 1) _ _ (by simp)).below hb3 (by simp))
  clear hb3 HX2 HA HB2 xc xf xl ac af al
  obtain ⟨xc, xf, xl⟩ := HX3.out.rules
  obtain ⟨ac, af, al⟩ := HA3.out.rules
  obtain ⟨bc, bf, bl⟩ := HBB.out.rules
  obtain ⟨zc, zf, zl⟩ := HZ.out.rules
  rcases HCC.out with h | ⟨h, rfl, rfl⟩
  · subst h
    go_wp2_with (first | (go_at_call 12; refine (awake16_any _).mono ?_; rintro e w4 ⟨rfl, hb4⟩))
    go_ret
    exact ⟨rfl, (HB3.out.alloc HB3.out.size _).trans (hb4.mono (by simp; omega))⟩
  · have h' : (va == 0) = false := by rw [beq_eq_false_iff_ne]; exact h
    go_wp2_with (first | (go_at_call 12; refine (awake16_any _).mono ?_; rintro e w4 ⟨rfl, hb4⟩))
    go_ret
    exact ⟨rfl, (HB3.out.alloc HB3.out.size _).trans (hb4.mono (by simp; omega))⟩

/-! ### THE ROW's STEP: WRITTEN OUT: LEAVE IT -/
set_option maxRecDepth 100000 in
theorem lifted (os : Os) (started : os.Started) (H : Type) (enc : TypeId × Value → H) :
    ReturnsInHanded {} Try.checked os 6 .any (Rows.adjustPlainSpec.pre6 enc Try.prog Try.f6 Rows.adjustPlainRow.domain false) (Rows.adjustPlainSpec.post enc Try.prog Try.f6 false true false false) := by
  refine returnsInHanded_of_change (C := Try.checked) own started (by kernel_rfl) Try.func6
    (ChangeSpec.witness6 (enc := enc) (C := Try.checked) false ⟨#[], #[.int .i64 0, .int .i64 0, .int .i64 0], []⟩ 8 (by kernel_rfl) (by kernel_rfl) (by kernel_rfl) (by kernel_rfl)) ?_
  intro W base args ds gs before hval0 hW hcnd _
  have hval : ∀ (j : Nat) t v, Try.f6.params[j]? = some t → args[j]? = some v → Value.okWide Try.prog W .any base t v := hval0
  have hW' := hW
  obtain ⟨p, q, hA0, hV, rfl, hfz, hnd⟩ := hW
  have hA : DataW.TrodAll enc Try.prog W 0 (fun _ => true) true Try.f6.params.toList args.toList ds p := hA0
  rw [Try.params6] at hA hval
  obtain ⟨v0, vs0, d0, ds0, p0, q0, hargs, rfl, rfl, h0, r0⟩ := trodAll_cons hA
  obtain ⟨v1, vs1, d1, ds1, p1, q1, rfl, rfl, rfl, h1, r1⟩ := trodAll_cons r0
  obtain ⟨v2, vs2, d2, ds2, p2, q2, rfl, rfl, rfl, h2, r2⟩ := trodAll_cons r1
  obtain ⟨rfl, rfl, rfl⟩ := trodAll_nil r2
  obtain rfl : args = #[v0, v1, v2] := by cases args; simp_all
  obtain ⟨rfl, rfl⟩ := trodVars_none hV
  obtain ⟨a0, rfl, rfl, rfl, w0⟩ := open_int Try.underlying3 (hval 0 3 v0 rfl rfl) h0
  obtain ⟨a1, rfl, rfl, rfl, w1⟩ := open_int Try.underlying3 (hval 1 3 v1 rfl rfl) h1
  obtain ⟨a2, rfl, rfl, rfl, w2⟩ := open_int Try.underlying3 (hval 2 3 v2 rfl rfl) h2
  clear hA0 hval0
  simp only [List.append_nil] at hW'
  refine (walk a0 a1 a2 w0 w1 w2 W).mono fun e W' ⟨he, hg⟩ => ?_
  subst he
  exact ⟨_, rfl, _, _, _, [], [], [], hW', (trodAll_cons_mk (shut_bool Try.underlying4 _) trodAll_mk0), (trodAll_cons_mk (shut_int Try.underlying3 w0) (trodAll_cons_mk (shut_int Try.underlying3 w1) (trodAll_cons_mk (shut_int Try.underlying3 w2) trodAll_mk0))), rfl, hg.frame _, fun h => by cases h⟩

theorem over : Rows.adjustPlainRow.holds Try.pinned (OpenSpec.ofChange Rows.adjustPlainSpec) :=
  OpenClaim.holds_of_wide 6 Try.f6 rfl rfl rfl rfl rfl rfl rfl ⟨rfl, rfl, rfl, rfl, rfl⟩ rfl rfl rfl rfl rfl (by kernel_rfl) Try.func6 (by kernel_rfl)
    (of_decide_eq_true (by kernel_rfl)) (by unfold Func.isWrapper; first | (rw [if_pos (by decide +kernel)]; kernel_rfl) | (rw [if_neg (by decide +kernel)]; exact ⟨rfl, rfl⟩))
    (fun os started H enc _ => lifted os started H enc)

/-- ████ THE STATEMENT ████ -/
theorem proved : Rows.AdjustPlainSaid :=
  over
#print axioms proved
end Go.Proofs.Ytageedgbkaknnaa.adjustPlain
