/- The law CommissionRatio: Ratio returns the specified ratio or error, for all arguments. No condition. -/
import Derived.Test.YtedkdflecdggpaaRows
import Derived.Test.YtedkdflecdggpaaRead
import Derived.Test.YtedkdflecdggpaaCoAw
import Derived.Test.YtedkdflecdggpaaCoR
import Derived.Test.YtedkdflecdggpaaCoYr
import Derived.Test.YtedkdflecdggpaaArgs
import Derived.WalkKit
import Derived.ProofKit
import Derived.OpenShut
import Derived.ShutString
import Derived.ChangeOld
import Derived.Below
namespace Go.Proofs.Ytedkdflecdggpaa.commissionRatio
open Go.ChangeShapes Go.WideShapes Go.ChangeAt Go.RowKit
set_option linter.unusedVariables false

theorem own : ownKnob Try.prog.godebug = none := by kernel_rfl
theorem laidOut : laidOutB Try.prog = true := by kernel_rfl



set_option maxHeartbeats 4000000 in
set_option maxRecDepth 100000 in
theorem walk (v0 : Value) (v1 : Value) (v2 : Value) (w : World) (h0 : Rd3 w [v0]) (h1 : Rd3 w [v1]) (h2 : Rd23 w [v2]) :
    Calls Try.prog 9 #[v0, v1, v2] w fun e w' => e = .returned (.bool true) ∧ Below w.heap.size w w' := by
  obtain ⟨p, rfl, _, _⟩ := rd_i64 h0
  obtain ⟨l, rfl, _, _⟩ := rd_i64 h1
  obtain ⟨A, n, c, z, rfl, hn, _, _, hc, _⟩ := rd_ints h2
  have HC := Lib.hid hc
  clear h0 h1 h2 hc
  obtain ⟨⟨s1, t1⟩, hT⟩ : ∃ T, Co.ratio p l = T := ⟨_, rfl⟩
  have C1 := Lib.hid (cratio_any p l)
  have C2 := Lib.hid (rratio_any p l)
  rw [hT] at C1 C2
  clear hT
  go_enter Try.func9, Try.ntmps9
  go_wp2_with fail
  refine (deck_new A n c z w hn HC.out).mono ?_
  rintro e w1 ⟨rfl, hb, hd⟩
  have HB := Lib.hid hb
  have HD := Lib.hid hd
  clear hb hd HC
  go_wp2_with fail
  refine (upto_any _ 68719476736 _ HD.out (by omega) (by omega)).mono ?_
  rintro e w2 ⟨p2, rfl, p20, p21, hk2, hd2⟩
  replace HB : Hid (Below w.heap.size w w2) := Lib.hid (HB.out.trans (hk2.below (by omega) HB.out.size))
  replace HD := Lib.hid hd2
  clear hk2 hd2
  go_wp2_with fail
  refine (upto_any _ 68719476736 _ HD.out (by omega) (by omega)).mono ?_
  rintro e w3 ⟨q2, rfl, q20, q21, hk2, hd2⟩
  replace HB : Hid (Below w.heap.size w w3) := Lib.hid (HB.out.trans (hk2.below (by omega) HB.out.size))
  clear hk2 hd2 HD
  obtain ⟨⟨s2, t2⟩, hT⟩ : ∃ T, Co.ratio p2 q2 = T := ⟨_, rfl⟩
  have C3 := Lib.hid (cratio_any p2 q2)
  have C4 := Lib.hid (rratio_any p2 q2)
  rw [hT] at C3 C4
  clear hT
  go_wp2_with fail
  refine (C1.out _).mono ?_
  rintro e w4 ⟨rfl, n1, rfl⟩
  go_wp2_with fail
  refine (C2.out _).mono ?_
  rintro e w4 ⟨rfl, n2, rfl⟩
  go_wp2_with fail
  refine (C3.out _).mono ?_
  rintro e w4 ⟨rfl, n3, rfl⟩
  go_wp2_with fail
  refine (C4.out _).mono ?_
  rintro e w4 ⟨rfl, n4, rfl⟩
  go_wp2_with (first | (go_at_call 11; refine (awake24_any _).mono ?_; rintro e w99 ⟨rfl, hb99⟩))
  go_ret
  exact ⟨rfl, (by (repeat' (first | (with_reducible exact HB.out) | (with_reducible refine below_drewN ?_ _) | (with_reducible refine Below.drew ?_))) : Below w.heap.size w _).trans (hb99.mono (by first | exact HB.out.size | (simp; exact HB.out.size)))⟩

set_option maxRecDepth 100000 in
theorem lifted (os : Os) (started : os.Started) (H : Type) (enc : TypeId × Value → H) :
    ReturnsInHanded {} Try.checked os 9 .any (Rows.commissionRatioSpec.pre6 enc Try.prog Try.f9 Rows.commissionRatioRow.domain false) (Rows.commissionRatioSpec.post enc Try.prog Try.f9 false true false false) := by
  refine returnsInHanded_of_change (C := Try.checked) own started (by kernel_rfl) Try.func9
    (ChangeSpec.witness6 (enc := enc) (C := Try.checked) false ⟨#[], #[.int .i64 0, .int .i64 0, .slice none 0 0], []⟩ 8 (by kernel_rfl) (by kernel_rfl) (by kernel_rfl) (by kernel_rfl)) ?_
  intro W base args ds gs before hval0 hW hcnd _
  have hval : ∀ (j : Nat) t v, Try.f9.params[j]? = some t → args[j]? = some v → Value.okWide Try.prog W .any base t v := hval0
  have hW' := hW
  obtain ⟨p, q, hA0, hV, rfl, hfz, hnd⟩ := hW
  have hA : DataW.TrodAll enc Try.prog W 0 (fun _ => true) true Try.f9.params.toList args.toList ds p := hA0
  rw [Try.params9] at hA hval
  obtain ⟨v0, vs0, d0, ds0, p0, q0, hargs, rfl, rfl, h0, r0⟩ := trodAll_cons hA
  obtain ⟨v1, vs1, d1, ds1, p1, q1, rfl, rfl, rfl, h1, r1⟩ := trodAll_cons r0
  obtain ⟨v2, vs2, d2, ds2, p2, q2, rfl, rfl, rfl, h2, r2⟩ := trodAll_cons r1
  obtain ⟨rfl, rfl, rfl⟩ := trodAll_nil r2
  obtain rfl : args = #[v0, v1, v2] := by cases args; simp_all
  obtain ⟨rfl, rfl⟩ := trodVars_none hV
  have k0 := h0
  have lt0 : ∀ x ∈ p0, x.block < W.heap.size := by obtain ⟨m, hm⟩ := k0; exact DataW.trod_lt m _ _ _ hm
  obtain ⟨a0, rfl⟩ := okWide_int Try.underlying3 (hval 0 3 v0 rfl rfl)
  have r100 : Rd3 W [.int .i64 a0] := by obtain ⟨fuel, hf⟩ := h0; exact rd3 hf
  have k1 := h1
  have lt1 : ∀ x ∈ p1, x.block < W.heap.size := by obtain ⟨m, hm⟩ := k1; exact DataW.trod_lt m _ _ _ hm
  obtain ⟨a1, rfl⟩ := okWide_int Try.underlying3 (hval 1 3 v1 rfl rfl)
  have r101 : Rd3 W [.int .i64 a1] := by obtain ⟨fuel, hf⟩ := h1; exact rd3 hf
  have k2 := h2
  have lt2 : ∀ x ∈ p2, x.block < W.heap.size := by obtain ⟨m, hm⟩ := k2; exact DataW.trod_lt m _ _ _ hm
  obtain ⟨a2, len2, cap2, rfl⟩ := okWide_slice Try.underlying23 (hval 2 23 v2 rfl rfl)
  have r102 : Rd23 W [.slice a2 len2 cap2] := by obtain ⟨fuel, hf⟩ := h2; exact rd23 hf
  clear hA0 hval0
  refine (walk _ _ _ W r100 r101 r102).mono fun e W' ⟨he, bel⟩ => ?_
  subst he
  exact ⟨_, rfl, _, _, _, [], _, [], hW', trodAll_mk1 (shut_bool Try.underlying4 _), (trodAll_cons_mk (Below.trod laidOut (by kernel_rfl) (of_decide_eq_true (by kernel_rfl)) k0 bel lt0) (trodAll_cons_mk (Below.trod laidOut (by kernel_rfl) (of_decide_eq_true (by kernel_rfl)) k1 bel lt1) (trodAll_cons_mk (Below.trod laidOut (by kernel_rfl) (of_decide_eq_true (by kernel_rfl)) k2 bel lt2) trodAll_mk0))), rfl, bel.frame _, fun h => by cases h⟩

theorem over : Rows.commissionRatioRow.holds Try.pinned (OpenSpec.ofChange Rows.commissionRatioSpec) :=
  OpenClaim.holds_of_wide 9 Try.f9 rfl rfl rfl rfl rfl rfl rfl ⟨rfl, rfl, rfl, rfl, rfl⟩ rfl rfl rfl rfl rfl (by kernel_rfl) Try.func9 (by kernel_rfl)
    (of_decide_eq_true (by kernel_rfl)) (by unfold Func.isWrapper; first | (rw [if_pos (by decide +kernel)]; kernel_rfl) | (rw [if_neg (by decide +kernel)]; exact ⟨rfl, rfl⟩))
    (fun os started H enc _ => lifted os started H enc)

/-- the statement -/
theorem proved : Rows.CommissionRatioSaid := over
#print axioms proved
end Go.Proofs.Ytedkdflecdggpaa.commissionRatio
