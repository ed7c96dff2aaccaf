/- The law ExcessMore: a recovery never falls with a greater loss or limit or a smaller retention, and it rises by no more than the loss, for every input. No condition. -/
import Derived.Test.YtigoeaidlgofoaaRows
import Derived.Test.YtigoeaidlgofoaaRead
import Derived.Test.YtigoeaidlgofoaaAwake22
import Derived.Test.YtigoeaidlgofoaaDeck
import Derived.Test.YtigoeaidlgofoaaArgs
import Derived.WalkKit
import Derived.ProofKit
import Derived.OpenShut
import Derived.ShutString
import Derived.ChangeOld
import Derived.Below
namespace Go.Proofs.Ytigoeaidlgofoaa.excessMore
open Go.ChangeShapes Go.WideShapes Go.ChangeAt Go.RowKit
set_option linter.unusedVariables false

theorem own : ownKnob Try.prog.godebug = none := by kernel_rfl
theorem laidOut : laidOutB Try.prog = true := by kernel_rfl

theorem more_facts (a x y b p q : Int) (a0 : 0 ≤ a) (a1 : a ≤ 1073741824) (x0 : 0 ≤ x) (x1 : x ≤ 1073741824) (y0 : 0 ≤ y) (y1 : y ≤ 1073741824) (b0 : 0 ≤ b) (b1 : b ≤ 1073741824) (p0 : 0 ≤ p) (q0 : 0 ≤ q) (q1 : q ≤ 1073741824) :
    Ex.layer a x y ≤ Ex.layer (a + b) x y ∧ Ex.layer (a + b) x y - Ex.layer a x y ≤ b ∧ Ex.layer a x y ≤ Ex.layer a (max (x - p) 0) (y + q) ∧ Ex.layer a x y ≤ a := by
  unfold Ex.layer Ex.lim
  omega

set_option maxHeartbeats 4000000 in
set_option maxRecDepth 100000 in
theorem walk (v0 : Value) (w : World) (h0 : Rd22 w [v0]) :
    Calls Try.prog 4 #[v0] w fun e w' => e = .returned (.bool true) ∧ Below w.heap.size w w' := by
  obtain ⟨A, n, c, z, rfl, hn, _, _, hc, _⟩ := rd_ints h0
  have HC := Lib.hid hc
  clear h0 hc
  go_enter Try.func4, Try.ntmps4
  go_wp2_with fail
  refine (deck_new A n c z w hn HC.out).mono ?_
  rintro e w1 ⟨rfl, hb, hd⟩
  have HB := Lib.hid hb
  have HD := Lib.hid hd
  clear hb hd HC
  go_wp2_with fail
  refine (money_any _ _ HD.out).mono ?_
  rintro e wn ⟨a, rfl, a0, a1, hk2, hd2⟩
  replace HB : Hid (Below w.heap.size w wn) := Lib.hid (HB.out.trans (hk2.below (by omega) HB.out.size)); replace HD := Lib.hid hd2; clear hk2 hd2
  go_wp2_with fail
  refine (money_any _ _ HD.out).mono ?_
  rintro e wn ⟨x, rfl, x0, x1, hk2, hd2⟩
  replace HB : Hid (Below w.heap.size w wn) := Lib.hid (HB.out.trans (hk2.below (by omega) HB.out.size)); replace HD := Lib.hid hd2; clear hk2 hd2
  go_wp2_with fail
  refine (money_any _ _ HD.out).mono ?_
  rintro e wn ⟨y, rfl, y0, y1, hk2, hd2⟩
  replace HB : Hid (Below w.heap.size w wn) := Lib.hid (HB.out.trans (hk2.below (by omega) HB.out.size)); replace HD := Lib.hid hd2; clear hk2 hd2
  go_wp2_with fail
  refine (money_any _ _ HD.out).mono ?_
  rintro e wn ⟨b, rfl, b0, b1, hk2, hd2⟩
  replace HB : Hid (Below w.heap.size w wn) := Lib.hid (HB.out.trans (hk2.below (by omega) HB.out.size)); replace HD := Lib.hid hd2; clear hk2 hd2
  go_wp2_with fail
  refine (money_any _ _ HD.out).mono ?_
  rintro e wn ⟨p, rfl, p0, p1, hk2, hd2⟩
  replace HB : Hid (Below w.heap.size w wn) := Lib.hid (HB.out.trans (hk2.below (by omega) HB.out.size)); replace HD := Lib.hid hd2; clear hk2 hd2
  go_wp2_with fail
  refine (money_any _ _ HD.out).mono ?_
  rintro e wn ⟨q, rfl, q0, q1, hk2, hd2⟩
  replace HB : Hid (Below w.heap.size w wn) := Lib.hid (HB.out.trans (hk2.below (by omega) HB.out.size)); replace HD := Lib.hid hd2; clear hk2 hd2
  have hf := more_facts a x y b p q a0 a1 x0 x1 y0 y1 b0 b1 p0 q0 q1
  have hb1 := Ex.layer_bound a x y
  have hb2 := Ex.layer_bound (a + b) x y
  obtain ⟨mx, hmx⟩ : ∃ m, max (x - p) 0 = m := ⟨_, rfl⟩
  have C3 := Lib.hid (layer_any a mx (y + q))
  rw [hmx] at hf
  obtain ⟨L1, hL1⟩ : ∃ L, Ex.layer a x y = L := ⟨_, rfl⟩
  obtain ⟨L2, hL2⟩ : ∃ L, Ex.layer (a + b) x y = L := ⟨_, rfl⟩
  obtain ⟨L3, hL3⟩ : ∃ L, Ex.layer a mx (y + q) = L := ⟨_, rfl⟩
  have C1 := Lib.hid (layer_any a x y)
  have C2 := Lib.hid (layer_any (a + b) x y)
  rw [hL1] at C1 hf hb1
  rw [hL2] at C2 hf hb2
  rw [hL3] at C3 hf
  obtain ⟨hf1, hf2, hf3, hf4⟩ := hf
  obtain ⟨hb1, hb1'⟩ := hb1
  obtain ⟨hb2, hb2'⟩ := hb2
  clear hL1 hL2 hL3
  go_wp2_with fail
  refine (C1.out _).mono ?_
  rintro e w2 ⟨rfl, hb⟩
  replace HB : Hid (Below w.heap.size w w2) := Lib.hid (HB.out.trans (hb.mono HB.out.size))
  clear hb
  go_wp2_with fail
  refine (C2.out _).mono ?_
  rintro e w3 ⟨rfl, hb⟩
  replace HB : Hid (Below w.heap.size w w3) := Lib.hid (HB.out.trans (hb.mono HB.out.size))
  clear hb
  go_wp2_with fail
  refine (C3.out _).mono ?_
  rintro e w4 ⟨rfl, hb⟩
  replace HB : Hid (Below w.heap.size w w4) := Lib.hid (HB.out.trans (hb.mono HB.out.size))
  clear hb
  go_wp2_with fail
  refine (awake22_any _).mono ?_
  rintro e w9 ⟨rfl, hb9⟩
  go_wp2_with fail
  go_ret
  exact ⟨rfl, HB.out.trans (hb9.mono HB.out.size)⟩

set_option maxRecDepth 100000 in
theorem lifted (os : Os) (started : os.Started) (H : Type) (enc : TypeId × Value → H) :
    ReturnsInHanded {} Try.checked os 4 .any (Rows.excessMoreSpec.pre6 enc Try.prog Try.f4 Rows.excessMoreRow.domain false) (Rows.excessMoreSpec.post enc Try.prog Try.f4 false true false false) := by
  refine returnsInHanded_of_change (C := Try.checked) own started (by kernel_rfl) Try.func4
    (ChangeSpec.witness6 (enc := enc) (C := Try.checked) false ⟨#[], #[.slice none 0 0], []⟩ 8 (by kernel_rfl) (by kernel_rfl) (by kernel_rfl) (by kernel_rfl)) ?_
  intro W base args ds gs before hval0 hW hcnd _
  have hval : ∀ (j : Nat) t v, Try.f4.params[j]? = some t → args[j]? = some v → Value.okWide Try.prog W .any base t v := hval0
  have hW' := hW
  obtain ⟨p, q, hA0, hV, rfl, hfz, hnd⟩ := hW
  have hA : DataW.TrodAll enc Try.prog W 0 (fun _ => true) true Try.f4.params.toList args.toList ds p := hA0
  rw [Try.params4] at hA hval
  obtain ⟨v0, vs0, d0, ds0, p0, q0, hargs, rfl, rfl, h0, r0⟩ := trodAll_cons hA
  obtain ⟨rfl, rfl, rfl⟩ := trodAll_nil r0
  obtain rfl : args = #[v0] := by cases args; simp_all
  obtain ⟨rfl, rfl⟩ := trodVars_none hV
  have k0 := h0
  have lt0 : ∀ x ∈ p0, x.block < W.heap.size := by obtain ⟨m, hm⟩ := k0; exact DataW.trod_lt m _ _ _ hm
  obtain ⟨a0, len0, cap0, rfl⟩ := okWide_slice Try.underlying22 (hval 0 22 v0 rfl rfl)
  have r100 : Rd22 W [.slice a0 len0 cap0] := by obtain ⟨fuel, hf⟩ := h0; exact rd22 hf
  clear hA0 hval0
  refine (walk _ W r100).mono fun e W' ⟨he, bel⟩ => ?_
  subst he
  exact ⟨_, rfl, _, _, _, [], _, [], hW', trodAll_mk1 (shut_bool Try.underlying4 _), (trodAll_cons_mk (Below.trod laidOut (by kernel_rfl) (of_decide_eq_true (by kernel_rfl)) k0 bel lt0) trodAll_mk0), rfl, bel.frame _, fun h => by cases h⟩

theorem over : Rows.excessMoreRow.holds Try.pinned (OpenSpec.ofChange Rows.excessMoreSpec) :=
  OpenClaim.holds_of_wide 4 Try.f4 rfl rfl rfl rfl rfl rfl rfl ⟨rfl, rfl, rfl, rfl, rfl⟩ rfl rfl rfl rfl rfl (by kernel_rfl) Try.func4 (by kernel_rfl)
    (of_decide_eq_true (by kernel_rfl)) (by unfold Func.isWrapper; first | (rw [if_pos (by decide +kernel)]; kernel_rfl) | (rw [if_neg (by decide +kernel)]; exact ⟨rfl, rfl⟩))
    (fun os started H enc _ => lifted os started H enc)

/-- the statement -/
theorem proved : Rows.ExcessMoreSaid := over
#print axioms proved
end Go.Proofs.Ytigoeaidlgofoaa.excessMore
