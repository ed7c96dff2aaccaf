/- The law ExchangeTable: Validate and At return the specified results for all tables. No condition. -/
import Derived.Test.YtojpjglkdmmfjaaRows
import Derived.Test.YtojpjglkdmmfjaaRead
import Derived.Test.YtojpjglkdmmfjaaXcD
import Derived.Test.YtojpjglkdmmfjaaArgs4
import Derived.WalkKit
import Derived.ProofKit
import Derived.OpenShut
import Derived.ShutString
import Derived.ChangeOld
import Derived.Below
namespace Go.Proofs.Ytojpjglkdmmfjaa.exchangeTable
open Go.ChangeShapes Go.WideShapes Go.ChangeAt Go.RowKit
set_option linter.unusedVariables false

theorem own : ownKnob Try.prog.godebug = none := by kernel_rfl
theorem laidOut : laidOutB Try.prog = true := by kernel_rfl



set_option maxHeartbeats 4000000 in
set_option maxRecDepth 100000 in
theorem walk (v0 : Value) (v1 : Value) (v2 : Value) (v3 : Value) (w : World) (h0 : Rd25 w [v0]) (h1 : Rd3 w [v1]) (h2 : Rd3 w [v2]) (h3 : Rd22 w [v3]) :
    Calls Try.prog 5 #[v0, v1, v2, v3] w fun e w' => e = .returned (.bool true) ∧ Below w.heap.size w w' := by
  obtain ⟨A1, n1, c1, f1, rfl, hn1, _, _, hp1⟩ := rd_rates h0
  obtain ⟨cur, rfl, _, _⟩ := rd_i64 h1
  obtain ⟨hour, rfl, _, _⟩ := rd_i64 h2
  obtain ⟨A, n, c, z, rfl, hn, _, _, hc, _⟩ := rd_ints h3
  have HC := Lib.hid hc
  have HP1 := Lib.hid hp1
  clear h0 h1 h2 h3 hc hp1
  by_cases hl1 : 300 < n1
  · go_enter Try.func5, Try.ntmps5
    go_wp2_with (first | (go_at_call 14; refine (awake4_any _).mono ?_; rintro e w99 ⟨rfl, hb99⟩))
    go_ret
    exact ⟨rfl, hb99⟩
  have hl1' : n1 ≤ 300 := by omega
  clear hl1
  obtain ⟨⟨s1, t1⟩, hs1⟩ : ∃ s, Xc.at' n1 f1 cur hour = s := ⟨_, rfl⟩
  obtain ⟨e1, he1⟩ : ∃ s, Xc.verr n1 f1 = s := ⟨_, rfl⟩
  have C1 : Hid (∀ W : World, Below w.heap.size w W → Calls Try.prog 16 #[.slice A1 n1 c1, .int .i64 cur, .int .i64 hour] W (PairPost (s1, t1) W)) := Lib.hid fun W hb => by
    have := xat_any A1 n1 c1 f1 cur hour W hn1 ((HP1.out.below hb).mono hb.size)
    rwa [hs1] at this
  have C2 : Hid (∀ W : World, Below w.heap.size w W → Calls Try.prog 17 #[.slice A1 n1 c1, .int .i64 cur, .int .i64 hour] W (PairPost (s1, t1) W)) := Lib.hid fun W hb => by
    have := rrateat_any A1 n1 c1 f1 cur hour W hn1 ((HP1.out.below hb).mono hb.size)
    rwa [hs1] at this
  have C3 : Hid (∀ W : World, Below w.heap.size w W → Calls Try.prog 12 #[.slice A1 n1 c1] W (IntPost e1 W)) := Lib.hid fun W hb => by
    have := xvalidate_any A1 n1 c1 f1 W hn1 ((HP1.out.below hb).mono hb.size)
    rwa [he1] at this
  have C4 : Hid (∀ W : World, Below w.heap.size w W → Calls Try.prog 13 #[.slice A1 n1 c1] W (IntPost e1 W)) := Lib.hid fun W hb => by
    have := rrates_any A1 n1 c1 f1 W hn1 ((HP1.out.below hb).mono hb.size)
    rwa [he1] at this
  clear hs1 he1 HP1
  go_enter Try.func5, Try.ntmps5
  go_wp2_with fail
  refine (C1.out _ (Below.refl _ _)).mono ?_
  rintro e w1 ⟨rfl, hb⟩
  have HB := Lib.hid hb
  clear hb
  go_wp2_with fail
  refine (C2.out _ HB.out).mono ?_
  rintro e w2 ⟨rfl, hb⟩
  replace HB : Hid (Below w.heap.size w w2) := Lib.hid (HB.out.trans (hb.mono HB.out.size))
  clear hb C1 C2
  have hz2 := HB.out.size
  go_wp2_with fail
  refine (deck_new A n c z w2 hn ((HC.out.below HB.out).mono hz2)).mono ?_
  rintro e w3 ⟨rfl, hb, hd⟩
  replace HB : Hid (Below w.heap.size w w3) := Lib.hid (HB.out.trans (hb.mono HB.out.size))
  have HD := Lib.hid hd
  clear hb hd HC
  go_wp2_with fail
  refine (drates_any _ _ HD.out).mono ?_
  rintro e w4 ⟨g3, c3, l, cu, fr, rfl, hl3, hl3', hg3, hg3', hp3, hgood, hk2, hd2⟩
  have HE := Lib.hid (hgood.verr (by omega))
  replace HB : Hid (Below w.heap.size w w4) := Lib.hid (HB.out.trans (hk2.below (by omega) HB.out.size))
  replace HD := Lib.hid hd2
  have HP3 := Lib.hid hp3
  clear hk2 hd2 hp3 hgood
  go_wp2_with fail
  refine (next_any _ 18 _ HD.out (by omega) (by omega)).mono ?_
  rintro e w5 ⟨k5, rfl, k50, k51, hk2, hd2⟩
  replace HB : Hid (Below w.heap.size w w5) := Lib.hid (HB.out.trans (hk2.below (by omega) HB.out.size))
  replace HP3 := Lib.hid (HP3.out.keeps_ne hk2 fun ad h => by injection h with h; subst h; exact hg3)
  replace HD := Lib.hid hd2
  clear hk2 hd2
  go_wp2_with fail
  refine (next_any _ 120 _ HD.out (by omega) (by omega)).mono ?_
  rintro e w6 ⟨k6, rfl, k60, k61, hk2, hd2⟩
  replace HB : Hid (Below w.heap.size w w6) := Lib.hid (HB.out.trans (hk2.below (by omega) HB.out.size))
  replace HP3 := Lib.hid (HP3.out.keeps_ne hk2 fun ad h => by injection h with h; subst h; exact hg3)
  clear hk2 hd2 HD
  obtain ⟨m3, hm3⟩ : ∃ m, l.length = m := ⟨_, rfl⟩
  rw [hm3] at hl3 hl3' HP3 HE ⊢
  clear hm3
  obtain ⟨⟨s2, t2⟩, hs2⟩ : ∃ s, Xc.at' m3 (t3At l) (k5 - 1) (k6 - 2) = s := ⟨_, rfl⟩
  have HS2 := Lib.hid hs2
  clear hs2
  go_wp2_with fail
  refine (xat_any (some ⟨g3, 0, none⟩) m3 c3 (t3At l) (k5 - 1) (k6 - 2) w6 (by omega) HP3.out).mono ?_
  rw [HS2.out]
  rintro e w7 ⟨rfl, hb⟩
  replace HB : Hid (Below w.heap.size w w7) := Lib.hid (HB.out.trans (hb.mono HB.out.size))
  replace HP3 := Lib.hid ((HP3.out.below hb).mono hb.size)
  clear hb
  go_wp2_with fail
  refine (rrateat_any (some ⟨g3, 0, none⟩) m3 c3 (t3At l) (k5 - 1) (k6 - 2) w7 (by omega) HP3.out).mono ?_
  rw [HS2.out]
  rintro e w8 ⟨rfl, hb⟩
  replace HB : Hid (Below w.heap.size w w8) := Lib.hid (HB.out.trans (hb.mono HB.out.size))
  replace HP3 := Lib.hid ((HP3.out.below hb).mono hb.size)
  clear hb HS2
  go_wp2_with fail
  refine (C3.out _ HB.out).mono ?_
  rintro e w9 ⟨rfl, hb⟩
  replace HB : Hid (Below w.heap.size w w9) := Lib.hid (HB.out.trans (hb.mono HB.out.size))
  replace HP3 := Lib.hid ((HP3.out.below hb).mono hb.size)
  clear hb C3
  go_wp2_with fail
  refine (C4.out _ HB.out).mono ?_
  rintro e w10 ⟨rfl, hb⟩
  replace HB : Hid (Below w.heap.size w w10) := Lib.hid (HB.out.trans (hb.mono HB.out.size))
  replace HP3 := Lib.hid ((HP3.out.below hb).mono hb.size)
  clear hb C4
  go_wp2_with fail
  refine (xvalidate_any (some ⟨g3, 0, none⟩) m3 c3 (t3At l) w10 (by omega) HP3.out).mono ?_
  rw [HE.out]
  rintro e w11 ⟨rfl, hb⟩
  replace HB : Hid (Below w.heap.size w w11) := Lib.hid (HB.out.trans (hb.mono HB.out.size))
  clear hb HP3
  go_wp2_with (first | (go_at_call 14; refine (awake4_any _).mono ?_; rintro e w99 ⟨rfl, hb99⟩))
  go_ret
  exact ⟨rfl, HB.out.trans (hb99.mono HB.out.size)⟩

set_option maxRecDepth 100000 in
theorem lifted (os : Os) (started : os.Started) (H : Type) (enc : TypeId × Value → H) :
    ReturnsInHanded {} Try.checked os 5 .any (Rows.exchangeTableSpec.pre6 enc Try.prog Try.f5 Rows.exchangeTableRow.domain false) (Rows.exchangeTableSpec.post enc Try.prog Try.f5 false true false false) := by
  refine returnsInHanded_of_change (C := Try.checked) own started (by kernel_rfl) Try.func5
    (ChangeSpec.witness6 (enc := enc) (C := Try.checked) false ⟨#[], #[.slice none 0 0, .int .i64 0, .int .i64 0, .slice none 0 0], []⟩ 8 (by kernel_rfl) (by kernel_rfl) (by kernel_rfl) (by kernel_rfl)) ?_
  intro W base args ds gs before hval0 hW hcnd _
  have hval : ∀ (j : Nat) t v, Try.f5.params[j]? = some t → args[j]? = some v → Value.okWide Try.prog W .any base t v := hval0
  have hW' := hW
  obtain ⟨p, q, hA0, hV, rfl, hfz, hnd⟩ := hW
  have hA : DataW.TrodAll enc Try.prog W 0 (fun _ => true) true Try.f5.params.toList args.toList ds p := hA0
  rw [Try.params5] at hA hval
  obtain ⟨v0, vs0, d0, ds0, p0, q0, hargs, rfl, rfl, h0, r0⟩ := trodAll_cons hA
  obtain ⟨v1, vs1, d1, ds1, p1, q1, rfl, rfl, rfl, h1, r1⟩ := trodAll_cons r0
  obtain ⟨v2, vs2, d2, ds2, p2, q2, rfl, rfl, rfl, h2, r2⟩ := trodAll_cons r1
  obtain ⟨v3, vs3, d3, ds3, p3, q3, rfl, rfl, rfl, h3, r3⟩ := trodAll_cons r2
  obtain ⟨rfl, rfl, rfl⟩ := trodAll_nil r3
  obtain rfl : args = #[v0, v1, v2, v3] := by cases args; simp_all
  obtain ⟨rfl, rfl⟩ := trodVars_none hV
  have k0 := h0
  have lt0 : ∀ x ∈ p0, x.block < W.heap.size := by obtain ⟨m, hm⟩ := k0; exact DataW.trod_lt m _ _ _ hm
  obtain ⟨a0, len0, cap0, rfl⟩ := okWide_slice Try.underlying25 (hval 0 25 v0 rfl rfl)
  have r100 : Rd25 W [.slice a0 len0 cap0] := by obtain ⟨fuel, hf⟩ := h0; exact rd25 hf
  have k1 := h1
  have lt1 : ∀ x ∈ p1, x.block < W.heap.size := by obtain ⟨m, hm⟩ := k1; exact DataW.trod_lt m _ _ _ hm
  obtain ⟨a1, rfl⟩ := okWide_int Try.underlying3 (hval 1 3 v1 rfl rfl)
  have r101 : Rd3 W [.int .i64 a1] := by obtain ⟨fuel, hf⟩ := h1; exact rd3 hf
  have k2 := h2
  have lt2 : ∀ x ∈ p2, x.block < W.heap.size := by obtain ⟨m, hm⟩ := k2; exact DataW.trod_lt m _ _ _ hm
  obtain ⟨a2, rfl⟩ := okWide_int Try.underlying3 (hval 2 3 v2 rfl rfl)
  have r102 : Rd3 W [.int .i64 a2] := by obtain ⟨fuel, hf⟩ := h2; exact rd3 hf
  have k3 := h3
  have lt3 : ∀ x ∈ p3, x.block < W.heap.size := by obtain ⟨m, hm⟩ := k3; exact DataW.trod_lt m _ _ _ hm
  obtain ⟨a3, len3, cap3, rfl⟩ := okWide_slice Try.underlying22 (hval 3 22 v3 rfl rfl)
  have r103 : Rd22 W [.slice a3 len3 cap3] := by obtain ⟨fuel, hf⟩ := h3; exact rd22 hf
  clear hA0 hval0
  refine (walk _ _ _ _ W r100 r101 r102 r103).mono fun e W' ⟨he, bel⟩ => ?_
  subst he
  exact ⟨_, rfl, _, _, _, [], _, [], hW', trodAll_mk1 (shut_bool Try.underlying4 _), (trodAll_cons_mk (Below.trod laidOut (by kernel_rfl) (of_decide_eq_true (by kernel_rfl)) k0 bel lt0) (trodAll_cons_mk (Below.trod laidOut (by kernel_rfl) (of_decide_eq_true (by kernel_rfl)) k1 bel lt1) (trodAll_cons_mk (Below.trod laidOut (by kernel_rfl) (of_decide_eq_true (by kernel_rfl)) k2 bel lt2) (trodAll_cons_mk (Below.trod laidOut (by kernel_rfl) (of_decide_eq_true (by kernel_rfl)) k3 bel lt3) trodAll_mk0)))), rfl, bel.frame _, fun h => by cases h⟩

theorem over : Rows.exchangeTableRow.holds Try.pinned (OpenSpec.ofChange Rows.exchangeTableSpec) :=
  OpenClaim.holds_of_wide 5 Try.f5 rfl rfl rfl rfl rfl rfl rfl ⟨rfl, rfl, rfl, rfl, rfl⟩ rfl rfl rfl rfl rfl (by kernel_rfl) Try.func5 (by kernel_rfl)
    (of_decide_eq_true (by kernel_rfl)) (by unfold Func.isWrapper; first | (rw [if_pos (by decide +kernel)]; kernel_rfl) | (rw [if_neg (by decide +kernel)]; exact ⟨rfl, rfl⟩))
    (fun os started H enc _ => lifted os started H enc)

/-- the statement -/
theorem proved : Rows.ExchangeTableSaid := over
#print axioms proved
end Go.Proofs.Ytojpjglkdmmfjaa.exchangeTable
