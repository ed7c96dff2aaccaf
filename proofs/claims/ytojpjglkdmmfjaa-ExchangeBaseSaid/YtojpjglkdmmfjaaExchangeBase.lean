/- The law ExchangeBase: a conversion to the base currency and back returns the amount, if a minor unit of the currency is worth at least one of the base currency. No condition. -/
import Derived.Test.YtojpjglkdmmfjaaRows
import Derived.Test.YtojpjglkdmmfjaaRead
import Derived.Test.YtojpjglkdmmfjaaXcD
import Derived.Test.YtojpjglkdmmfjaaArgs
import Derived.Test.YtojpjglkdmmfjaaMd4
import Derived.WalkKit
import Derived.ProofKit
import Derived.OpenShut
import Derived.ShutString
import Derived.ChangeOld
import Derived.Below
namespace Go.Proofs.Ytojpjglkdmmfjaa.exchangeBase
open Go.ChangeShapes Go.WideShapes Go.ChangeAt Go.RowKit
set_option linter.unusedVariables false

theorem own : ownKnob Try.prog.godebug = none := by kernel_rfl
theorem laidOut : laidOutB Try.prog = true := by kernel_rfl

theorem there (n P : Int) (n0 : 0 ≤ n) (n1 : n ≤ 1073741824) (p0 : 1000000 ≤ P) (p1 : P ≤ 1000000000) : ∃ a, Am.md n P 1000000 4 = (a, 0) ∧ 0 ≤ a ∧ a ≤ 1100000000000 ∧ Am.md a 1000000 P 4 = (n, 0) := by
  have hN0 : 0 ≤ n * P := Int.mul_nonneg n0 (by omega)
  have hN1 : n * P ≤ 1073741824 * 1000000000 := Int.mul_le_mul n1 p1 (by omega) (by omega)
  obtain ⟨N, hN⟩ : ∃ N, n * P = N := ⟨_, rfl⟩
  rw [hN] at hN0 hN1
  obtain ⟨a, ha⟩ : ∃ a, Am.hu N 1000000 = a := ⟨_, rfl⟩
  have hab : 0 ≤ a ∧ a ≤ 1100000000000 ∧ 2000000 * a ≤ 2 * N + 1000000 ∧ 2 * N + 1000000 < 2000000 * a + 2000000 := by
    rw [← ha]
    unfold Am.hu
    omega
  obtain ⟨a0, a1, a2, a3⟩ := hab
  refine ⟨a, ?_, a0, a1, ?_⟩
  · rw [Am.md_hu n P 1000000 n0 (by omega) (by omega) (by omega) (by omega) (by omega), hN, ha, if_neg (by omega)]
  · have hb : Am.hu (a * 1000000) P = n := by
      have e : a * 1000000 = (a * 1000000 - N) + n * P := by rw [hN]; omega
      rw [e, Am.hu_add _ _ _ (by omega)]
      have hz : Am.hu (a * 1000000 - N) P = 0 := by
        unfold Am.hu
        have hlt : 2 * (a * 1000000 - N) < P := by
          by_cases hp : P = 1000000
          · subst hp
            have : N = n * 1000000 := hN.symm
            omega
          · omega
        exact Int.ediv_eq_zero_of_lt (by omega) (by omega)
      omega
    rw [Am.md_hu a 1000000 P a0 (by omega) (by omega) (by omega) (by omega) (by omega), hb, if_neg (by omega)]
theorem one_verr (P : Int) (p0 : 1000000 ≤ P) (p1 : P ≤ 1000000000) : Xc.verr 1 (t3At [⟨2, 0, P⟩]) = 0 :=
  Xc.verr_of (by omega) (fun i hi => by
    obtain rfl : i = 0 := (by omega)
    exact ⟨⟨(by show (1 : Int) ≤ 2; omega), (by show (2 : Int) ≤ 15; omega)⟩, ⟨(by show (0 : Int) ≤ 0; omega), (by show (0 : Int) ≤ 876599; omega)⟩, (by show 1 ≤ P; omega), p1⟩) (fun i h0 hi => by omega)
theorem one_at (P : Int) : Xc.at1 1 (t3At [⟨2, 0, P⟩]) 2 5 = (P, 0) := by
  rw [Xc.at1, if_neg (by decide), if_neg (by decide), Xc.st, if_pos ⟨rfl, (by show (0 : Int) ≤ 5; omega)⟩]
  rfl
theorem one_at0 (P : Int) : Xc.at1 1 (t3At [⟨2, 0, P⟩]) 0 5 = (1000000, 0) := by
  rw [Xc.at1, if_neg (by decide), if_pos rfl]
theorem one_trips {w : World} {b : Nat} {P : Int} {t : TypeId} (h : Has w b #[.int .i64 2, .int .i64 0, .int .i64 P] t) : Trips w w.heap.size (some ⟨b, 0, none⟩) 1 (t3At [⟨2, 0, P⟩]) :=
  Trips.of_has h fun j hj => by rcases (show j = 0 ∨ j = 1 ∨ j = 2 by omega) with rfl | rfl | rfl <;> rfl

set_option maxHeartbeats 4000000 in
set_option maxRecDepth 100000 in
theorem walk (v0 : Value) (v1 : Value) (w : World) (h0 : Rd3 w [v0]) (h1 : Rd3 w [v1]) :
    Calls Try.prog 4 #[v0, v1] w fun e w' => e = .returned (.bool true) ∧ Below w.heap.size w w' := by
  obtain ⟨per, rfl, _, _⟩ := rd_i64 h0
  obtain ⟨amt, rfl, _, _⟩ := rd_i64 h1
  clear h0 h1
  obtain ⟨p, hp⟩ : ∃ p, Am.within per 999000001 = p := ⟨_, rfl⟩
  obtain ⟨n, hn⟩ : ∃ p, Am.within amt 1073741825 = p := ⟨_, rfl⟩
  have hpb := Am.within_bound per 999000001 (by omega)
  have hnb := Am.within_bound amt 1073741825 (by omega)
  rw [hp] at hpb
  rw [hn] at hnb
  obtain ⟨p0, p1⟩ := hpb
  obtain ⟨n0, n1⟩ := hnb
  obtain ⟨a, ha, a0, a1, hb'⟩ := there n (1000000 + p) n0 (by omega) (by omega) (by omega)
  obtain ⟨P, hP⟩ : ∃ P, 1000000 + p = P := ⟨_, rfl⟩
  rw [hP] at ha hb'
  have hP0 : 1000000 ≤ P := by omega
  have hP1 : P ≤ 1000000000 := by omega
  have HW1 := Lib.hid hp
  have HW2 := Lib.hid hn
  have CV : Hid (∀ (b : Nat) (cur amt to' p q v : Int) (W : World), Has W b #[.int .i64 2, .int .i64 0, .int .i64 P] 24 → Am.validB amt = true → Xc.curP cur → Xc.curP to' → cur ≠ to' → Xc.at1 1 (t3At [⟨2, 0, P⟩]) cur 5 = (p, 0) → Xc.at1 1 (t3At [⟨2, 0, P⟩]) to' 5 = (q, 0) → Am.md amt p q 4 = (v, 0) →
      Calls Try.prog 15 #[.slice (some ⟨b, 0, none⟩) 1 1, .agg #[.int .i64 cur, .int .i64 amt], .int .i64 to', .int .i64 5] W (PairPost (v, 0) W)) := Lib.hid fun b cur amt to' p q v W hB h1 h2 h3 h4 h5 h6 h7 => by
    have := xconvert_fine (some ⟨b, 0, none⟩) 1 1 (t3At [⟨2, 0, P⟩]) cur amt to' 5 p q W (by omega) (one_trips hB) (one_verr P hP0 hP1) h1 (by decide) h2 h3 h4 h5 h6
    rwa [h7] at this
  have V1 : Hid (Am.validB n = true) := Lib.hid ((Am.validB_iff n).2 ⟨by omega, by omega⟩)
  have V2 : Hid (Am.validB a = true) := Lib.hid ((Am.validB_iff a).2 ⟨by omega, by omega⟩)
  have HA := Lib.hid ha
  have HB' := Lib.hid hb'
  clear hp hn ha hb'
  go_enter Try.func4, Try.ntmps4
  go_wp2_with fail
  refine (within_any _ _ _ (by omega) (by omega)).mono ?_
  rintro e w' ⟨rfl, rfl⟩
  rw [HW1.out]
  go_wp2_with fail
  refine (within_any _ _ _ (by omega) (by omega)).mono ?_
  rintro e w' ⟨rfl, rfl⟩
  rw [HW2.out]
  have HX := Lib.hid (Has.new w #[.int .i64 2, .int .i64 0, .int .i64 P] 24)
  obtain ⟨W0, hW0⟩ : ∃ W, w.alloc (.cells #[.int .i64 2, .int .i64 0, .int .i64 P] 24) = W := ⟨_, rfl⟩
  have HB : Hid (Below w.heap.size w W0) := Lib.hid (by rw [← hW0]; exact (by (repeat' (first | (with_reducible exact Below.refl _ _) | (with_reducible refine Below.setCell ?_ ?_ _) | (with_reducible refine below_drewN ?_ _) | (with_reducible refine Below.drew ?_) | (with_reducible refine Below.alloc ?_ ?_ _))) <;> (first | omega | (simp <;> omega))))
  rw [hW0] at HX ⊢
  clear hW0
  go_wp2_with fail
  refine (CV.out _ 2 n 0 P 1000000 a _ HX.out V1.out (by decide) (by decide) (by decide) (one_at P) (one_at0 P) HA.out).mono ?_
  rintro e w1 ⟨rfl, hb⟩
  replace HX := Lib.hid (HX.out.below hb HX.out.lt)
  replace HB : Hid (Below w.heap.size w w1) := Lib.hid (HB.out.trans (hb.mono HB.out.size))
  clear hb
  go_wp2_with fail
  refine (CV.out _ 0 a 2 1000000 P n _ HX.out V2.out (by decide) (by decide) (by decide) (one_at0 P) (one_at P) HB'.out).mono ?_
  rintro e w2 ⟨rfl, hb⟩
  replace HB : Hid (Below w.heap.size w w2) := Lib.hid (HB.out.trans (hb.mono HB.out.size))
  clear hb
  go_wp2_with (first | (go_at_call 14; refine (awake4_any _).mono ?_; rintro e w99 ⟨rfl, hb99⟩))
  go_ret
  exact ⟨rfl, HB.out.trans (hb99.mono HB.out.size)⟩

set_option maxRecDepth 100000 in
theorem lifted (os : Os) (started : os.Started) (H : Type) (enc : TypeId × Value → H) :
    ReturnsInHanded {} Try.checked os 4 .any (Rows.exchangeBaseSpec.pre6 enc Try.prog Try.f4 Rows.exchangeBaseRow.domain false) (Rows.exchangeBaseSpec.post enc Try.prog Try.f4 false true false false) := by
  refine returnsInHanded_of_change (C := Try.checked) own started (by kernel_rfl) Try.func4
    (ChangeSpec.witness6 (enc := enc) (C := Try.checked) false ⟨#[], #[.int .i64 0, .int .i64 0], []⟩ 8 (by kernel_rfl) (by kernel_rfl) (by kernel_rfl) (by kernel_rfl)) ?_
  intro W base args ds gs before hval0 hW hcnd _
  have hval : ∀ (j : Nat) t v, Try.f4.params[j]? = some t → args[j]? = some v → Value.okWide Try.prog W .any base t v := hval0
  have hW' := hW
  obtain ⟨p, q, hA0, hV, rfl, hfz, hnd⟩ := hW
  have hA : DataW.TrodAll enc Try.prog W 0 (fun _ => true) true Try.f4.params.toList args.toList ds p := hA0
  rw [Try.params4] at hA hval
  obtain ⟨v0, vs0, d0, ds0, p0, q0, hargs, rfl, rfl, h0, r0⟩ := trodAll_cons hA
  obtain ⟨v1, vs1, d1, ds1, p1, q1, rfl, rfl, rfl, h1, r1⟩ := trodAll_cons r0
  obtain ⟨rfl, rfl, rfl⟩ := trodAll_nil r1
  obtain rfl : args = #[v0, v1] := by cases args; simp_all
  obtain ⟨rfl, rfl⟩ := trodVars_none hV
  have k0 := h0
  have lt0 : ∀ x ∈ p0, x.block < W.heap.size := by obtain ⟨m, hm⟩ := k0; exact DataW.trod_lt m _ _ _ hm
  obtain ⟨a0, rfl⟩ := okWide_int Try.underlying3 (hval 0 3 v0 rfl rfl)
  have r100 : Rd3 W [.int .i64 a0] := by obtain ⟨fuel, hf⟩ := h0; exact rd3 hf
  have k1 := h1
  have lt1 : ∀ x ∈ p1, x.block < W.heap.size := by obtain ⟨m, hm⟩ := k1; exact DataW.trod_lt m _ _ _ hm
  obtain ⟨a1, rfl⟩ := okWide_int Try.underlying3 (hval 1 3 v1 rfl rfl)
  have r101 : Rd3 W [.int .i64 a1] := by obtain ⟨fuel, hf⟩ := h1; exact rd3 hf
  clear hA0 hval0
  refine (walk _ _ W r100 r101).mono fun e W' ⟨he, bel⟩ => ?_
  subst he
  exact ⟨_, rfl, _, _, _, [], _, [], hW', trodAll_mk1 (shut_bool Try.underlying4 _), (trodAll_cons_mk (Below.trod laidOut (by kernel_rfl) (of_decide_eq_true (by kernel_rfl)) k0 bel lt0) (trodAll_cons_mk (Below.trod laidOut (by kernel_rfl) (of_decide_eq_true (by kernel_rfl)) k1 bel lt1) trodAll_mk0)), rfl, bel.frame _, fun h => by cases h⟩

theorem over : Rows.exchangeBaseRow.holds Try.pinned (OpenSpec.ofChange Rows.exchangeBaseSpec) :=
  OpenClaim.holds_of_wide 4 Try.f4 rfl rfl rfl rfl rfl rfl rfl ⟨rfl, rfl, rfl, rfl, rfl⟩ rfl rfl rfl rfl rfl (by kernel_rfl) Try.func4 (by kernel_rfl)
    (of_decide_eq_true (by kernel_rfl)) (by unfold Func.isWrapper; first | (rw [if_pos (by decide +kernel)]; kernel_rfl) | (rw [if_neg (by decide +kernel)]; exact ⟨rfl, rfl⟩))
    (fun os started H enc _ => lifted os started H enc)

/-- the statement -/
theorem proved : Rows.ExchangeBaseSaid := over
#print axioms proved
end Go.Proofs.Ytojpjglkdmmfjaa.exchangeBase
