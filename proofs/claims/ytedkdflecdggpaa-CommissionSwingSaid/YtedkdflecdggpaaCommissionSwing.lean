/- The law CommissionSwing: Swing and Corridor return the specified amounts or errors, for all arguments. No condition. -/
import Derived.Test.YtedkdflecdggpaaRows
import Derived.Test.YtedkdflecdggpaaRead
import Derived.Test.YtedkdflecdggpaaCoAw
import Derived.Test.YtedkdflecdggpaaCoR
import Derived.Test.YtedkdflecdggpaaCoYr
import Derived.Test.YtedkdflecdggpaaArgs
import Derived.WalkKit
import Derived.ProofKit
import Derived.OpenShut
import Derived.ShutString
import Derived.ChangeOld
import Derived.Below
namespace Go.Proofs.Ytedkdflecdggpaa.commissionSwing
open Go.ChangeShapes Go.WideShapes Go.ChangeAt Go.RowKit
set_option linter.unusedVariables false

theorem own : ownKnob Try.prog.godebug = none := by kernel_rfl
theorem laidOut : laidOutB Try.prog = true := by kernel_rfl



set_option maxHeartbeats 4000000 in
set_option maxRecDepth 100000 in
theorem walk (v0 : Value) (v1 : Value) (v2 : Value) (v3 : Value) (v4 : Value) (v5 : Value) (w : World) (h0 : Rd3 w [v0]) (h1 : Rd3 w [v1]) (h2 : Rd3 w [v2]) (h3 : Rd3 w [v3]) (h4 : Rd3 w [v4]) (h5 : Rd23 w [v5]) :
    Calls Try.prog 7 #[v0, v1, v2, v3, v4, v5] w fun e w' => e = .returned (.bool true) ∧ Below w.heap.size w w' := by
  obtain ⟨low, rfl, _, _⟩ := rd_i64 h0
  obtain ⟨high, rfl, _, _⟩ := rd_i64 h1
  obtain ⟨load, rfl, _, _⟩ := rd_i64 h2
  obtain ⟨p, rfl, _, _⟩ := rd_i64 h3
  obtain ⟨l, rfl, _, _⟩ := rd_i64 h4
  obtain ⟨A, n, c, z, rfl, hn, _, _, hc, _⟩ := rd_ints h5
  have HC := Lib.hid hc
  clear h0 h1 h2 h3 h4 h5 hc
  go_enter Try.func7, Try.ntmps7
  go_wp2_with fail
  go_loopw [0, 1, 2, 3, 4, 13] (fun a0 a1 a2 a3 a4 ix wr => ∃ (lo hi ld pr ls : Int) (k : Nat), k ≤ 3 ∧ ix = .int .i64 k ∧ a0 = .int .i64 lo ∧ a1 = .int .i64 hi ∧ a2 = .int .i64 ld ∧ a3 = .int .i64 pr ∧ a4 = .int .i64 ls ∧ Hid (Below w.heap.size w wr)) (fun _ _ _ _ _ ix _ => 3 - (intOf ix).toNat)
  case atStart => exact ⟨low, high, load, p, l, 0, by omega, rfl, rfl, rfl, rfl, rfl, rfl, Lib.hid (Below.refl _ _)⟩
  case round =>
    obtain ⟨lo, hi, ld, pr, ls, k, hk, rfl, rfl, rfl, rfl, rfl, rfl, HB⟩ := hrel
    by_cases hlt : k < 3
    · obtain ⟨⟨s1, t1⟩, hT⟩ : ∃ T, Co.swing lo hi ld pr ls = T := ⟨_, rfl⟩
      have C1 := Lib.hid (swing_any lo hi ld pr ls)
      have C2 := Lib.hid (rswing_any lo hi ld pr ls)
      rw [hT] at C1 C2
      clear hT
      obtain ⟨⟨s2, t2⟩, hT⟩ : ∃ T, Co.corr lo hi pr ls = T := ⟨_, rfl⟩
      have C3 := Lib.hid (corr_any lo hi pr ls)
      have C4 := Lib.hid (rcorr_any lo hi pr ls)
      rw [hT] at C3 C4
      clear hT
      have hk3 : k = 0 ∨ k = 1 ∨ k = 2 := by omega
      go_wp2_with fail
      refine (C1.out _).mono ?_
      rintro e w1 ⟨rfl, n1, rfl⟩
      go_wp2_with fail
      refine (C2.out _).mono ?_
      rintro e w1 ⟨rfl, n2, rfl⟩
      go_wp2_with fail
      refine (C3.out _).mono ?_
      rintro e w1 ⟨rfl, hb⟩
      replace HB : Hid (Below w.heap.size w w1) := Lib.hid ((by (repeat' (first | (with_reducible exact HB.out) | (with_reducible refine below_drewN ?_ _) | (with_reducible refine Below.drew ?_))) : Below w.heap.size w _).trans (hb.mono HB.out.size))
      clear hb
      go_wp2_with fail
      refine (C4.out _).mono ?_
      rintro e w2 ⟨rfl, n3, rfl⟩
      clear C1 C2 C3 C4
      replace HB : Hid (Below w.heap.size w (w1.drewN n3)) := Lib.hid (below_drewN HB.out _)
      obtain ⟨w2, hw2⟩ : ∃ w2, w1.drewN n3 = w2 := ⟨_, rfl⟩
      rw [hw2] at HB ⊢
      clear hw2
      go_wp2_with fail
      refine (deck_new A n c z w2 hn ((HC.out.below HB.out).mono HB.out.size)).mono ?_
      rintro e w3 ⟨rfl, hb, hd⟩
      have hs2 := HB.out.size
      obtain ⟨B, hB⟩ : ∃ B, w2.heap.size = B := ⟨_, rfl⟩
      rw [hB] at hb hd hs2 ⊢
      replace HB : Hid (Below w.heap.size w w3) := Lib.hid (HB.out.trans (hb.mono hs2))
      have HD := Lib.hid hd
      clear hb hd hB
      go_wp2_with fail
      refine (upto_any _ 68719476736 _ HD.out (by omega) (by omega)).mono ?_
      rintro e w4 ⟨p2, rfl, p20, p21, hk2, hd2⟩
      replace HB : Hid (Below w.heap.size w w4) := Lib.hid (HB.out.trans (hk2.below (by omega) HB.out.size))
      replace HD := Lib.hid hd2
      clear hk2 hd2
      go_wp2_with fail
      refine (upto_any _ 68719476736 _ HD.out (by omega) (by omega)).mono ?_
      rintro e w5 ⟨q2, rfl, q20, q21, hk2, hd2⟩
      replace HB : Hid (Below w.heap.size w w5) := Lib.hid (HB.out.trans (hk2.below (by omega) HB.out.size))
      replace HD := Lib.hid hd2
      clear hk2 hd2
      go_wp2_with fail
      refine (upto_any _ 2000000 _ HD.out (by omega) (by omega)).mono ?_
      rintro e w6 ⟨lo2, rfl, lo20, lo21, hk2, hd2⟩
      replace HB : Hid (Below w.heap.size w w6) := Lib.hid (HB.out.trans (hk2.below (by omega) HB.out.size))
      replace HD := Lib.hid hd2
      clear hk2 hd2
      go_wp2_with fail
      refine (upto_any _ 10000001 _ HD.out (by omega) (by omega)).mono ?_
      rintro e w7 ⟨hi2, rfl, hi20, hi21, hk2, hd2⟩
      replace HB : Hid (Below w.heap.size w w7) := Lib.hid (HB.out.trans (hk2.below (by omega) HB.out.size))
      replace HD := Lib.hid hd2
      clear hk2 hd2
      obtain ⟨ma, hma⟩ : ∃ m, min lo2 hi2 = m := ⟨_, rfl⟩
      obtain ⟨mb, hmb⟩ : ∃ m, min (max lo2 hi2) 10000000 = m := ⟨_, rfl⟩
      rcases hk3 with rfl | rfl | rfl
      · go_wp2_with fail
        refine (upto_any _ 3000000 _ HD.out (by omega) (by omega)).mono ?_
        rintro e w8 ⟨ld2, rfl, ld20, ld21, hk2, hd2⟩
        replace HB : Hid (Below w.heap.size w w8) := Lib.hid (HB.out.trans (hk2.below (by omega) HB.out.size))
        clear hk2 hd2 HD
        go_wp2_with fail
        go_roundw
        case rel => exact ⟨_, _, _, _, _, 1, by omega, rfl, rfl, rfl, rfl, rfl, rfl, HB⟩
        case measure => simp [intOf]
      · go_wp2_with fail
        go_roundw
        case rel => exact ⟨_, _, _, _, _, 2, by omega, rfl, rfl, rfl, rfl, rfl, rfl, HB⟩
        case measure => simp [intOf]
      · go_wp2_with fail
        go_roundw
        case rel => exact ⟨_, _, _, _, _, 3, by omega, rfl, rfl, rfl, rfl, rfl, rfl, HB⟩
        case measure => simp [intOf]
    · obtain rfl : k = 3 := by omega
      go_wp2_with (first | (go_at_call 11; refine (awake24_any _).mono ?_; rintro e w99 ⟨rfl, hb99⟩))
      go_ret
      exact ⟨rfl, HB.out.trans (hb99.mono HB.out.size)⟩

set_option maxRecDepth 100000 in
theorem lifted (os : Os) (started : os.Started) (H : Type) (enc : TypeId × Value → H) :
    ReturnsInHanded {} Try.checked os 7 .any (Rows.commissionSwingSpec.pre6 enc Try.prog Try.f7 Rows.commissionSwingRow.domain false) (Rows.commissionSwingSpec.post enc Try.prog Try.f7 false true false false) := by
  refine returnsInHanded_of_change (C := Try.checked) own started (by kernel_rfl) Try.func7
    (ChangeSpec.witness6 (enc := enc) (C := Try.checked) false ⟨#[], #[.int .i64 0, .int .i64 0, .int .i64 0, .int .i64 0, .int .i64 0, .slice none 0 0], []⟩ 8 (by kernel_rfl) (by kernel_rfl) (by kernel_rfl) (by kernel_rfl)) ?_
  intro W base args ds gs before hval0 hW hcnd _
  have hval : ∀ (j : Nat) t v, Try.f7.params[j]? = some t → args[j]? = some v → Value.okWide Try.prog W .any base t v := hval0
  have hW' := hW
  obtain ⟨p, q, hA0, hV, rfl, hfz, hnd⟩ := hW
  have hA : DataW.TrodAll enc Try.prog W 0 (fun _ => true) true Try.f7.params.toList args.toList ds p := hA0
  rw [Try.params7] at hA hval
  obtain ⟨v0, vs0, d0, ds0, p0, q0, hargs, rfl, rfl, h0, r0⟩ := trodAll_cons hA
  obtain ⟨v1, vs1, d1, ds1, p1, q1, rfl, rfl, rfl, h1, r1⟩ := trodAll_cons r0
  obtain ⟨v2, vs2, d2, ds2, p2, q2, rfl, rfl, rfl, h2, r2⟩ := trodAll_cons r1
  obtain ⟨v3, vs3, d3, ds3, p3, q3, rfl, rfl, rfl, h3, r3⟩ := trodAll_cons r2
  obtain ⟨v4, vs4, d4, ds4, p4, q4, rfl, rfl, rfl, h4, r4⟩ := trodAll_cons r3
  obtain ⟨v5, vs5, d5, ds5, p5, q5, rfl, rfl, rfl, h5, r5⟩ := trodAll_cons r4
  obtain ⟨rfl, rfl, rfl⟩ := trodAll_nil r5
  obtain rfl : args = #[v0, v1, v2, v3, v4, v5] := by cases args; simp_all
  obtain ⟨rfl, rfl⟩ := trodVars_none hV
  have k0 := h0
  have lt0 : ∀ x ∈ p0, x.block < W.heap.size := by obtain ⟨m, hm⟩ := k0; exact DataW.trod_lt m _ _ _ hm
  obtain ⟨a0, rfl⟩ := okWide_int Try.underlying3 (hval 0 3 v0 rfl rfl)
  have r100 : Rd3 W [.int .i64 a0] := by obtain ⟨fuel, hf⟩ := h0; exact rd3 hf
  have k1 := h1
  have lt1 : ∀ x ∈ p1, x.block < W.heap.size := by obtain ⟨m, hm⟩ := k1; exact DataW.trod_lt m _ _ _ hm
  obtain ⟨a1, rfl⟩ := okWide_int Try.underlying3 (hval 1 3 v1 rfl rfl)
  have r101 : Rd3 W [.int .i64 a1] := by obtain ⟨fuel, hf⟩ := h1; exact rd3 hf
  have k2 := h2
  have lt2 : ∀ x ∈ p2, x.block < W.heap.size := by obtain ⟨m, hm⟩ := k2; exact DataW.trod_lt m _ _ _ hm
  obtain ⟨a2, rfl⟩ := okWide_int Try.underlying3 (hval 2 3 v2 rfl rfl)
  have r102 : Rd3 W [.int .i64 a2] := by obtain ⟨fuel, hf⟩ := h2; exact rd3 hf
  have k3 := h3
  have lt3 : ∀ x ∈ p3, x.block < W.heap.size := by obtain ⟨m, hm⟩ := k3; exact DataW.trod_lt m _ _ _ hm
  obtain ⟨a3, rfl⟩ := okWide_int Try.underlying3 (hval 3 3 v3 rfl rfl)
  have r103 : Rd3 W [.int .i64 a3] := by obtain ⟨fuel, hf⟩ := h3; exact rd3 hf
  have k4 := h4
  have lt4 : ∀ x ∈ p4, x.block < W.heap.size := by obtain ⟨m, hm⟩ := k4; exact DataW.trod_lt m _ _ _ hm
  obtain ⟨a4, rfl⟩ := okWide_int Try.underlying3 (hval 4 3 v4 rfl rfl)
  have r104 : Rd3 W [.int .i64 a4] := by obtain ⟨fuel, hf⟩ := h4; exact rd3 hf
  have k5 := h5
  have lt5 : ∀ x ∈ p5, x.block < W.heap.size := by obtain ⟨m, hm⟩ := k5; exact DataW.trod_lt m _ _ _ hm
  obtain ⟨a5, len5, cap5, rfl⟩ := okWide_slice Try.underlying23 (hval 5 23 v5 rfl rfl)
  have r105 : Rd23 W [.slice a5 len5 cap5] := by obtain ⟨fuel, hf⟩ := h5; exact rd23 hf
  clear hA0 hval0
  refine (walk _ _ _ _ _ _ W r100 r101 r102 r103 r104 r105).mono fun e W' ⟨he, bel⟩ => ?_
  subst he
  exact ⟨_, rfl, _, _, _, [], _, [], hW', trodAll_mk1 (shut_bool Try.underlying4 _), (trodAll_cons_mk (Below.trod laidOut (by kernel_rfl) (of_decide_eq_true (by kernel_rfl)) k0 bel lt0) (trodAll_cons_mk (Below.trod laidOut (by kernel_rfl) (of_decide_eq_true (by kernel_rfl)) k1 bel lt1) (trodAll_cons_mk (Below.trod laidOut (by kernel_rfl) (of_decide_eq_true (by kernel_rfl)) k2 bel lt2) (trodAll_cons_mk (Below.trod laidOut (by kernel_rfl) (of_decide_eq_true (by kernel_rfl)) k3 bel lt3) (trodAll_cons_mk (Below.trod laidOut (by kernel_rfl) (of_decide_eq_true (by kernel_rfl)) k4 bel lt4) (trodAll_cons_mk (Below.trod laidOut (by kernel_rfl) (of_decide_eq_true (by kernel_rfl)) k5 bel lt5) trodAll_mk0)))))), rfl, bel.frame _, fun h => by cases h⟩

theorem over : Rows.commissionSwingRow.holds Try.pinned (OpenSpec.ofChange Rows.commissionSwingSpec) :=
  OpenClaim.holds_of_wide 7 Try.f7 rfl rfl rfl rfl rfl rfl rfl ⟨rfl, rfl, rfl, rfl, rfl⟩ rfl rfl rfl rfl rfl (by kernel_rfl) Try.func7 (by kernel_rfl)
    (of_decide_eq_true (by kernel_rfl)) (by unfold Func.isWrapper; first | (rw [if_pos (by decide +kernel)]; kernel_rfl) | (rw [if_neg (by decide +kernel)]; exact ⟨rfl, rfl⟩))
    (fun os started H enc _ => lifted os started H enc)

/-- the statement -/
theorem proved : Rows.CommissionSwingSaid := over
#print axioms proved
end Go.Proofs.Ytedkdflecdggpaa.commissionSwing
