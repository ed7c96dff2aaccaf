/- The law AmountOrder: a greater amount never has a smaller quotient, and Floor, TowardZero, HalfEven, HalfUp and Ceiling lie in this order for amounts that are not negative, for every input. No condition. -/
import Derived.Test.YtgdlnackpfbmbaaRows
import Derived.Test.YtgdlnackpfbmbaaAwake1
import Derived.Test.YtgdlnackpfbmbaaAmLaws2
import Derived.Test.YtgdlnackpfbmbaaMode1
import Derived.Deep.CutBlock
import Derived.Deep.DeepCutAuto
import Derived.WalkKit
import Derived.ProofKit
import Derived.OpenShut
namespace Go.Proofs.Ytgdlnackpfbmbaa.amountOrder
open Go.ChangeShapes Go.WideShapes Go.ChangeAt Go.RowKit
set_option linter.unusedVariables false      -- a walk need not use every 'w<i>' (that an integer argument fits its kind)

theorem own : ownKnob Try.prog.godebug = none := by kernel_rfl

/-- the k-th mode of the list -/
def ms : Nat → Int
  | 0 => 2 | 1 => 1 | 2 => 5 | 3 => 4 | _ => 3

/-- what the variable last holds after k rounds -/
def lastAt (a num den : Int) : Nat → Int
  | 0 => 0
  | k + 1 => (Am.md a num den (ms k)).1

theorem last_le (a num den : Int) (ha : 0 ≤ a) (k : Nat) (hk : k < 5) (h : k = 0 ∨ (Am.md a num den (ms (k - 1))).2 = 0) (h2 : (Am.md a num den (ms k)).2 = 0) :
    lastAt a num den k ≤ (Am.md a num den (ms k)).1 ∧ 0 ≤ (Am.md a num den (ms k)).1 := by
  have hs : 0 ≤ (Am.md a num den (ms k)).1 := (Am.md_dist a num den (ms k) _ (by rw [← h2])).2.2.2.1.1 ha
  refine ⟨?_, hs⟩
  match k, hk, h with
  | 0, _, _ => exact hs
  | k + 1, hk, h =>
    have h' : (Am.md a num den (ms k)).2 = 0 := by simpa using h
    have hm : Am.nextMode (ms k) = ms (k + 1) := by
      obtain rfl | rfl | rfl | rfl : k = 0 ∨ k = 1 ∨ k = 2 ∨ k = 3 := by omega
      all_goals decide
    have hm2 : ms k = 2 ∨ ms k = 1 ∨ ms k = 5 ∨ ms k = 4 := by
      obtain rfl | rfl | rfl | rfl : k = 0 ∨ k = 1 ∨ k = 2 ∨ k = 3 := by omega
      all_goals decide
    exact Am.md_order a num den (ms k) (Am.md a num den (ms k)).1 _ ha hm2 (by rw [← h']) (by rw [hm, ← h2])

/-! ### STEP 1: THE WALK: the Go text returns true. 'Grown w w'': the world has at most new blocks (Derived/RowKit3.lean). Part the cases AHEAD of 'go_enter' where a test parts the walk; take each callee by a contract of your own. -/
set_option maxHeartbeats 4000000 in
set_option maxRecDepth 100000 in
theorem walk (a0 : Int) (a1 : Int) (a2 : Int) (a3 : Int) (a4 : Int) (w0 : (Lit.int .i64 a0).wf = true) (w1 : (Lit.int .i64 a1).wf = true) (w2 : (Lit.int .i64 a2).wf = true) (w3 : (Lit.int .i64 a3).wf = true) (w4 : (Lit.int .u8 a4).wf = true) (w : World) :
    Calls Try.prog 6 #[.int .i64 a0, .int .i64 a1, .int .i64 a2, .int .i64 a3, .int .u8 a4] w fun e w' => e = .returned (.bool true) ∧ Grown w w' := by
  obtain ⟨k0, k1⟩ := bounds_u8 w4
  clear w0 w1 w2 w3 w4
  obtain ⟨m, hm⟩ : ∃ m, 1 + a4 % 5 = m := ⟨_, rfl⟩
  have m0 : 1 ≤ m := by omega
  have m1 : m ≤ 5 := by omega
  have HM := Lib.hid hm
  clear hm
  obtain ⟨b0, b1⟩ := Am.clamp_bound a0
  obtain ⟨b2, b3⟩ := Am.clamp_bound a1
  obtain ⟨A, hA⟩ : ∃ a, Am.clamp a0 = a := ⟨_, rfl⟩
  obtain ⟨B, hB⟩ : ∃ a, Am.clamp a1 = a := ⟨_, rfl⟩
  obtain ⟨num, hnum⟩ : ∃ n, Am.within a2 1048576 = n := ⟨_, rfl⟩
  obtain ⟨n0, n1⟩ := Am.within_bound a2 1048576 (by omega)
  obtain ⟨den, hden⟩ : ∃ n, Am.within a3 1048576 = n := ⟨_, rfl⟩
  obtain ⟨d0, d1⟩ := Am.within_bound a3 1048576 (by omega)
  rw [hA] at b0 b1
  rw [hB] at b2 b3
  rw [hnum] at n0 n1
  rw [hden] at d0 d1
  obtain ⟨lo, hi, hle, hlo, hlh, hc⟩ : ∃ lo hi, lo ≤ hi ∧ -17592186044416 ≤ lo ∧ lo ≤ 17592186044416 ∧ Hid ((A ≤ B ∧ lo = A ∧ hi = B) ∨ (B < A ∧ lo = B ∧ hi = A)) := by
    by_cases h : A ≤ B
    · exact ⟨A, B, h, b0, b1, Lib.hid (.inl ⟨h, rfl, rfl⟩)⟩
    · exact ⟨B, A, by omega, b2, b3, Lib.hid (.inr ⟨by omega, rfl, rfl⟩)⟩
  go_enter Try.func6, Try.ntmps6
  go_upto_if 31 with (first | (go_at_call 10; refine (rclamp_any _ _).mono ?_; rintro e w' ⟨rfl, rfl⟩) | (go_at_call 11; refine (within_any _ _ _ (by omega) (by omega)).mono ?_; rintro e w' ⟨rfl, rfl⟩))
  go_cut [0, 1] (fun s0 s1 wx => s0 = .int .i64 lo ∧ s1 = .int .i64 hi ∧ w = wx)
  case first =>
    rcases hc.out with ⟨h1, rfl, rfl⟩ | ⟨h1, rfl, rfl⟩
    all_goals
      clear hc
      go_wp2
      go_meet
      case rel => exact ⟨rfl, rfl, rfl⟩
  case rest =>
    obtain ⟨rfl, rfl, rfl⟩ := hcut
    clear hc
    obtain ⟨x1, hx1⟩ : ∃ x, (Am.md lo num (1 + den) m).1 = x := ⟨_, rfl⟩
    obtain ⟨e1, he1⟩ : ∃ x, (Am.md lo num (1 + den) m).2 = x := ⟨_, rfl⟩
    obtain ⟨x2, hx2⟩ : ∃ x, (Am.md hi num (1 + den) m).1 = x := ⟨_, rfl⟩
    obtain ⟨e2, he2⟩ : ∃ x, (Am.md hi num (1 + den) m).2 = x := ⟨_, rfl⟩
    have hcmp : e1 = 0 → e2 = 0 → x1 ≤ x2 := fun g1 g2 => Am.md_mono lo hi num (1 + den) m x1 x2 hle (by rw [← hx1, ← g1, ← he1]) (by rw [← hx2, ← g2, ← he2])
    have HC := Lib.hid hcmp
    clear hcmp
    go_upto_region 6 with (first | (go_at_call 15; refine (mode1_is _ _ _ k0 k1 HM).mono ?_; rintro e w' ⟨rfl, rfl⟩) | (go_at_call 12; refine (muldiv_any _ _ _ _ _).mono ?_; rintro e w' ⟨rfl, nq, rfl⟩))
    go_cut [62] (fun s62 wx => s62 = .bool false ∧ ∃ n, wx = w.drewN n)
    case first =>
      have hcs : ((e1 == 0) = false) ∨ ((e1 == 0) = true ∧ (e2 == 0) = false) ∨ ((e1 == 0) = true ∧ (e2 == 0) = true ∧ decide (x2 < x1) = false) := by
        have := HC.out
        by_cases g1 : e1 = 0
        · by_cases g2 : e2 = 0
          · exact .inr (.inr ⟨by rw [g1]; rfl, by rw [g2]; rfl, by have := this g1 g2; simp; omega⟩)
          · exact .inr (.inl ⟨by rw [g1]; rfl, by rw [beq_eq_false_iff_ne]; exact g2⟩)
        · exact .inl (by rw [beq_eq_false_iff_ne]; exact g1)
      clear HC
      rcases hcs with g1 | ⟨g1, g2⟩ | ⟨g1, g2, g3⟩
      all_goals
        go_wp2
        go_meet
        case rel => exact ⟨rfl, _, rfl⟩
    case rest =>
      obtain ⟨rfl, nw, hnw⟩ := hcut
      have HG : Hid (Grown w wc) := Lib.hid (by rw [hnw]; repeat (first | exact Grown.refl _ | apply Grown.drewN | apply Grown.drew))
      clear hnw
      clear HC hx1 he1 hx2 he2
      obtain ⟨ab, hab, hab0, hab1⟩ : ∃ ab, max lo (-lo) = ab ∧ 0 ≤ ab ∧ ab ≤ 17592186044416 := ⟨_, rfl, by omega, by omega⟩
      go_wp2
      go_loopw [15, 69] (fun s15 s69 wr => ∃ k : Nat, k ≤ 5 ∧ s69 = .int .i64 k ∧ (∃ z, s15 = .int .i64 z ∧ Hid (z = lastAt ab num (1 + den) k)) ∧ Hid (k = 0 ∨ (Am.md ab num (1 + den) (ms (k - 1))).2 = 0) ∧ ∃ n, wr = (wc.alloc (.cells #[.int .i64 2, .int .i64 1, .int .i64 5, .int .i64 4, .int .i64 3] 3)).drewN n) (fun _ s69 _ => 5 - (intOf s69).toNat)
      case atStart => exact ⟨0, by omega, rfl, ⟨0, rfl, Lib.hid rfl⟩, Lib.hid (.inl rfl), 0, rfl⟩
      case round =>
        obtain ⟨k, hk, rfl, ⟨z, rfl, hz⟩, hok, nr, rfl⟩ := hrel
        by_cases hk5 : k = 5
        · subst hk5
          go_wp2_with (go_at_call 14; refine (awake1_any _).mono ?_; rintro e w' ⟨rfl, nq3, rfl⟩)
          go_ret
          exact ⟨rfl, by repeat (first | exact HG.out | apply Grown.drewN | apply Grown.drew | apply Grown.alloc)⟩
        · obtain ⟨y, hy⟩ : ∃ y, (Am.md ab num (1 + den) (ms k)).1 = y := ⟨_, rfl⟩
          obtain ⟨g, hg⟩ : ∃ y, (Am.md ab num (1 + den) (ms k)).2 = y := ⟨_, rfl⟩
          have c := muldiv_any ab num (1 + den) (ms k)
          rw [hy, hg] at c
          have C := Lib.hid c
          clear c
          by_cases hg0 : g = 0
          · subst hg0
            have hll := last_le ab num (1 + den) hab0 k (by omega) hok.out hg
            rw [← hz.out, hy] at hll
            obtain ⟨l1, l2⟩ := hll
            have hz' : Hid (y = lastAt ab num (1 + den) (k + 1)) := Lib.hid hy.symm
            have hok' : Hid (k + 1 = 0 ∨ (Am.md ab num (1 + den) (ms (k + 1 - 1))).2 = 0) := Lib.hid (.inr hg)
            clear hz hok hy hg
            obtain rfl | rfl | rfl | rfl | rfl : k = 0 ∨ k = 1 ∨ k = 2 ∨ k = 3 ∨ k = 4 := by omega
            all_goals
              simp only [ms] at C
              go_wp2_with (first | (go_at_call 12; refine (C.out _).mono ?_; rintro e w' ⟨rfl, nq, rfl⟩))
              go_roundw
              case rel => first | exact ⟨1, by omega, rfl, ⟨y, rfl, hz'⟩, hok', _, rfl⟩ | exact ⟨2, by omega, rfl, ⟨y, rfl, hz'⟩, hok', _, rfl⟩ | exact ⟨3, by omega, rfl, ⟨y, rfl, hz'⟩, hok', _, rfl⟩ | exact ⟨4, by omega, rfl, ⟨y, rfl, hz'⟩, hok', _, rfl⟩ | exact ⟨5, by omega, rfl, ⟨y, rfl, hz'⟩, hok', _, rfl⟩
              case measure => simp [intOf]
          · have hg1 : (g != 0) = true := by rw [bne_iff_ne]; exact hg0
            clear hz hok hy hg hg0
            obtain rfl | rfl | rfl | rfl | rfl : k = 0 ∨ k = 1 ∨ k = 2 ∨ k = 3 ∨ k = 4 := by omega
            all_goals
              simp only [ms] at C
              go_wp2_with (first | (go_at_call 12; refine (C.out _).mono ?_; rintro e w' ⟨rfl, nq, rfl⟩) | (go_at_call 14; refine (awake1_any _).mono ?_; rintro e w' ⟨rfl, nq3, rfl⟩))
              go_ret
              exact ⟨rfl, by repeat (first | exact HG.out | apply Grown.drewN | apply Grown.drew | apply Grown.alloc)⟩

/-! ### THE ROW's STEP: WRITTEN OUT: LEAVE IT -/
set_option maxRecDepth 100000 in
theorem lifted (os : Os) (started : os.Started) (H : Type) (enc : TypeId × Value → H) :
    ReturnsInHanded {} Try.checked os 6 .any (Rows.amountOrderSpec.pre6 enc Try.prog Try.f6 Rows.amountOrderRow.domain false) (Rows.amountOrderSpec.post enc Try.prog Try.f6 false true false false) := by
  refine returnsInHanded_of_change (C := Try.checked) own started (by kernel_rfl) Try.func6
    (ChangeSpec.witness6 (enc := enc) (C := Try.checked) false ⟨#[], #[.int .i64 0, .int .i64 0, .int .i64 0, .int .i64 0, .int .u8 0], []⟩ 8 (by kernel_rfl) (by kernel_rfl) (by kernel_rfl) (by kernel_rfl)) ?_
  intro W base args ds gs before hval0 hW hcnd _
  have hval : ∀ (j : Nat) t v, Try.f6.params[j]? = some t → args[j]? = some v → Value.okWide Try.prog W .any base t v := hval0
  have hW' := hW
  obtain ⟨p, q, hA0, hV, rfl, hfz, hnd⟩ := hW
  have hA : DataW.TrodAll enc Try.prog W 0 (fun _ => true) true Try.f6.params.toList args.toList ds p := hA0
  rw [Try.params6] at hA hval
  obtain ⟨v0, vs0, d0, ds0, p0, q0, hargs, rfl, rfl, h0, r0⟩ := trodAll_cons hA
  obtain ⟨v1, vs1, d1, ds1, p1, q1, rfl, rfl, rfl, h1, r1⟩ := trodAll_cons r0
  obtain ⟨v2, vs2, d2, ds2, p2, q2, rfl, rfl, rfl, h2, r2⟩ := trodAll_cons r1
  obtain ⟨v3, vs3, d3, ds3, p3, q3, rfl, rfl, rfl, h3, r3⟩ := trodAll_cons r2
  obtain ⟨v4, vs4, d4, ds4, p4, q4, rfl, rfl, rfl, h4, r4⟩ := trodAll_cons r3
  obtain ⟨rfl, rfl, rfl⟩ := trodAll_nil r4
  obtain rfl : args = #[v0, v1, v2, v3, v4] := by cases args; simp_all
  obtain ⟨rfl, rfl⟩ := trodVars_none hV
  obtain ⟨a0, rfl, rfl, rfl, w0⟩ := open_int Try.underlying3 (hval 0 3 v0 rfl rfl) h0
  obtain ⟨a1, rfl, rfl, rfl, w1⟩ := open_int Try.underlying3 (hval 1 3 v1 rfl rfl) h1
  obtain ⟨a2, rfl, rfl, rfl, w2⟩ := open_int Try.underlying3 (hval 2 3 v2 rfl rfl) h2
  obtain ⟨a3, rfl, rfl, rfl, w3⟩ := open_int Try.underlying3 (hval 3 3 v3 rfl rfl) h3
  obtain ⟨a4, rfl, rfl, rfl, w4⟩ := open_int Try.underlying5 (hval 4 5 v4 rfl rfl) h4
  clear hA0 hval0
  simp only [List.append_nil] at hW'
  refine (walk a0 a1 a2 a3 a4 w0 w1 w2 w3 w4 W).mono fun e W' ⟨he, hg⟩ => ?_
  subst he
  exact ⟨_, rfl, post_of_same (pa := []) (pv := []) hW' (fun _ _ _ => (trodAll_cons_mk (shut_bool Try.underlying4 _) trodAll_mk0)) (fun sp _ => (trodAll_cons_mk (shut_int Try.underlying3 w0) (trodAll_cons_mk (shut_int Try.underlying3 w1) (trodAll_cons_mk (shut_int Try.underlying3 w2) (trodAll_cons_mk (shut_int Try.underlying3 w3) (trodAll_cons_mk (shut_int Try.underlying5 w4) trodAll_mk0)))))) (fun _ _ => rfl) rfl
    (hg.frame _) hg.2.1 (ok_one (by kernel_rfl) rfl (okWide_bool_mk Try.underlying4 _))⟩

theorem over : Rows.amountOrderRow.holds Try.pinned (OpenSpec.ofChange Rows.amountOrderSpec) :=
  OpenClaim.holds_of_wide 6 Try.f6 rfl rfl rfl rfl rfl rfl rfl ⟨rfl, rfl, rfl, rfl, rfl⟩ rfl rfl rfl rfl rfl (by kernel_rfl) Try.func6 (by kernel_rfl)
    (of_decide_eq_true (by kernel_rfl)) (by unfold Func.isWrapper; first | (rw [if_pos (by decide +kernel)]; kernel_rfl) | (rw [if_neg (by decide +kernel)]; exact ⟨rfl, rfl⟩))
    (fun os started H enc _ => lifted os started H enc)

/-- ████ THE STATEMENT ████ -/
theorem proved : Rows.AmountOrderSaid :=
  over
#print axioms proved
end Go.Proofs.Ytgdlnackpfbmbaa.amountOrder
