/- The law ExcessStability: Stability returns the specified factor or error, for all arguments. No condition. -/
import Derived.Test.YtigoeaidlgofoaaRows
import Derived.Test.YtigoeaidlgofoaaRead
import Derived.Test.YtigoeaidlgofoaaAwake22
import Derived.Test.YtigoeaidlgofoaaPay22
import Derived.Test.YtigoeaidlgofoaaIdx22
import Derived.Test.YtigoeaidlgofoaaArgs2
import Derived.WalkKit
import Derived.ProofKit
import Derived.OpenShut
import Derived.ShutString
import Derived.ChangeOld
import Derived.Below
namespace Go.Proofs.Ytigoeaidlgofoaa.excessStability
open Go.ChangeShapes Go.WideShapes Go.ChangeAt Go.RowKit
set_option linter.unusedVariables false

theorem own : ownKnob Try.prog.godebug = none := by kernel_rfl
theorem laidOut : laidOutB Try.prog = true := by kernel_rfl



set_option maxHeartbeats 4000000 in
set_option maxRecDepth 100000 in
theorem walk (v0 : Value) (v1 : Value) (v2 : Value) (v3 : Value) (w : World) (h0 : Rd3 w [v0]) (h1 : Rd40 w [v1]) (h2 : Rd48 w [v2]) (h3 : Rd22 w [v3]) :
    Calls Try.prog 8 #[v0, v1, v2, v3] w fun e w' => e = .returned (.bool true) ∧ Below w.heap.size w w' := by
  obtain ⟨base, rfl, _, _⟩ := rd_i64 h0
  obtain ⟨A1, n1, c1, f1, g1, rfl, hn1, _, _, hp1, _⟩ := rd_index h1
  obtain ⟨A2, n2, c2, f2, g2, rfl, hn2, _, _, hp2, _⟩ := rd_payment h2
  obtain ⟨A, n, c, z, rfl, hn, _, _, hc, _⟩ := rd_ints h3
  have HC := Lib.hid hc
  have HP1 := Lib.hid hp1
  have HP2 := Lib.hid hp2
  clear h0 h1 h2 h3 hc hp1 hp2
  by_cases hl1 : 150 < n1
  · go_enter Try.func8, Try.ntmps8
    go_wp2_with (first | (go_at_call 16; refine (awake22_any _).mono ?_; rintro e w9 ⟨rfl, hb9⟩))
    go_ret
    exact ⟨rfl, hb9⟩
  by_cases hl2 : 100 < n2
  · have hl1' : n1 ≤ 150 := by omega
    go_enter Try.func8, Try.ntmps8
    go_wp2_with (first | (go_at_call 16; refine (awake22_any _).mono ?_; rintro e w9 ⟨rfl, hb9⟩))
    go_ret
    exact ⟨rfl, hb9⟩
  have hl1' : n1 ≤ 150 := by omega
  have hl2' : n2 ≤ 100 := by omega
  clear hl1 hl2
  obtain ⟨⟨s1, t1⟩, hs1⟩ : ∃ s, Ex.stab base n1 f1 g1 n2 f2 g2 = s := ⟨_, rfl⟩
  have C1 := Lib.hid (exstab_any base A1 n1 c1 f1 g1 A2 n2 c2 f2 g2 w hn1 hn2 HP1.out HP2.out)
  rw [hs1] at C1
  have C2 : Hid (∀ W : World, Below w.heap.size w W → Calls Try.prog 30 #[.int .i64 base, .slice A1 n1 c1, .slice A2 n2 c2] W (PairPost (s1, t1) W)) := Lib.hid fun W hb => by
    have := rstab_any base A1 n1 c1 f1 g1 A2 n2 c2 f2 g2 W hn1 hn2 ((HP1.out.below hb).mono hb.size) ((HP2.out.below hb).mono hb.size)
    rw [hs1] at this
    exact this
  clear hs1
  go_enter Try.func8, Try.ntmps8
  go_wp2_with fail
  refine C1.out.mono ?_
  rintro e w1 ⟨rfl, hb⟩
  have HB := Lib.hid hb
  clear hb
  go_wp2_with fail
  refine (C2.out _ HB.out).mono ?_
  rintro e w2 ⟨rfl, hb⟩
  replace HB : Hid (Below w.heap.size w w2) := Lib.hid (HB.out.trans (hb.mono HB.out.size))
  clear hb C1 C2
  have hz2 := HB.out.size
  go_wp2_with fail
  refine (deck_new A n c z w2 hn ((HC.out.below HB.out).mono hz2)).mono ?_
  rintro e w3 ⟨rfl, hb, hd⟩
  replace HB : Hid (Below w.heap.size w w3) := Lib.hid (HB.out.trans (hb.mono HB.out.size))
  have HD := Lib.hid hd
  have hz3 := HB.out.size
  clear hb hd HC
  go_wp2_with fail
  refine (indices_any _ _ HD.out).mono ?_
  rintro e w4 ⟨g3, c3, ps, rfl, hl3, hl3', hg3, hg3', hp3, _, hk2, hd2⟩
  replace HB : Hid (Below w.heap.size w w4) := Lib.hid (HB.out.trans (hk2.below (by omega) HB.out.size))
  replace HD := Lib.hid hd2
  have HP3 := Lib.hid hp3
  have hz4 := HB.out.size
  clear hk2 hd2 hp3
  go_wp2_with fail
  refine (payments_any _ _ HD.out).mono ?_
  rintro e w5 ⟨A4, c4, qs, rfl, hl4, hA4, hp4, _, hk2, hd2⟩
  replace HB : Hid (Below w.heap.size w w5) := Lib.hid (HB.out.trans (hk2.below (by omega) HB.out.size))
  replace HD := Lib.hid hd2
  replace HP3 := Lib.hid (HP3.out.keeps_ne hk2 fun ad h => by injection h with h; subst h; exact hg3)
  have HP4 := Lib.hid hp4
  have HA4 : Hid (∀ ad, A4 = some ad → ad.block ≠ w2.heap.size) := Lib.hid fun ad h => (hA4 ad h).1
  have hz5 := HB.out.size
  clear hk2 hd2 hp4 hA4
  go_wp2_with fail
  refine (upto_any _ 2000 _ HD.out (by omega) (by omega)).mono ?_
  rintro e w6 ⟨bs, rfl, bs0, bs1, hk2, hd2⟩
  replace HB : Hid (Below w.heap.size w w6) := Lib.hid (HB.out.trans (hk2.below (by omega) HB.out.size))
  replace HP3 := Lib.hid (HP3.out.keeps_ne hk2 fun ad h => by injection h with h; subst h; exact hg3)
  replace HP4 := Lib.hid (HP4.out.keeps_ne hk2 HA4.out)
  have HP26 := Lib.hid ((HP2.out.below HB.out).mono HB.out.size)
  have hz6 := HB.out.size
  clear hk2 hd2 HD HA4
  obtain ⟨m3, hm3⟩ : ∃ m, ps.length = m := ⟨_, rfl⟩
  obtain ⟨m4, hm4⟩ : ∃ m, qs.length = m := ⟨_, rfl⟩
  rw [hm3] at HP3 hl3' ⊢
  rw [hm4] at HP4 hl4 ⊢
  obtain ⟨⟨s2, t2⟩, hs2⟩ : ∃ s, Ex.stab bs m3 (fstOf ps) (sndOf ps) m4 (fstOf qs) (sndOf qs) = s := ⟨_, rfl⟩
  obtain ⟨⟨s3, t3⟩, hs3⟩ : ∃ s, Ex.stab bs m3 (fstOf ps) (sndOf ps) n2 f2 g2 = s := ⟨_, rfl⟩
  have D1 : Hid (∀ W : World, Below w6.heap.size w6 W → Calls Try.prog 29 #[.int .i64 bs, .slice (some ⟨g3, 0, none⟩) m3 c3, .slice A4 m4 c4] W (PairPost (s2, t2) W)) := Lib.hid fun W hb => by
    have := exstab_any bs (some ⟨g3, 0, none⟩) m3 c3 (fstOf ps) (sndOf ps) A4 m4 c4 (fstOf qs) (sndOf qs) W (by omega) (by omega) ((HP3.out.below hb).mono hb.size) ((HP4.out.below hb).mono hb.size)
    rw [hs2] at this
    exact this
  have D2 : Hid (∀ W : World, Below w6.heap.size w6 W → Calls Try.prog 30 #[.int .i64 bs, .slice (some ⟨g3, 0, none⟩) m3 c3, .slice A4 m4 c4] W (PairPost (s2, t2) W)) := Lib.hid fun W hb => by
    have := rstab_any bs (some ⟨g3, 0, none⟩) m3 c3 (fstOf ps) (sndOf ps) A4 m4 c4 (fstOf qs) (sndOf qs) W (by omega) (by omega) ((HP3.out.below hb).mono hb.size) ((HP4.out.below hb).mono hb.size)
    rw [hs2] at this
    exact this
  have D3 : Hid (∀ W : World, Below w6.heap.size w6 W → Calls Try.prog 29 #[.int .i64 bs, .slice (some ⟨g3, 0, none⟩) m3 c3, .slice A2 n2 c2] W (PairPost (s3, t3) W)) := Lib.hid fun W hb => by
    have := exstab_any bs (some ⟨g3, 0, none⟩) m3 c3 (fstOf ps) (sndOf ps) A2 n2 c2 f2 g2 W (by omega) (by omega) ((HP3.out.below hb).mono hb.size) ((HP26.out.below hb).mono hb.size)
    rw [hs3] at this
    exact this
  have D4 : Hid (∀ W : World, Below w6.heap.size w6 W → Calls Try.prog 30 #[.int .i64 bs, .slice (some ⟨g3, 0, none⟩) m3 c3, .slice A2 n2 c2] W (PairPost (s3, t3) W)) := Lib.hid fun W hb => by
    have := rstab_any bs (some ⟨g3, 0, none⟩) m3 c3 (fstOf ps) (sndOf ps) A2 n2 c2 f2 g2 W (by omega) (by omega) ((HP3.out.below hb).mono hb.size) ((HP26.out.below hb).mono hb.size)
    rw [hs3] at this
    exact this
  clear hs2 hs3 hm3 hm4 HP1 HP2
  have HE := Lib.hid (Below.refl w6.heap.size w6)
  go_wp2_with fail
  refine (D1.out _ HE.out).mono ?_
  rintro e w7 ⟨rfl, hb⟩
  replace HE : Hid (Below w6.heap.size w6 w7) := Lib.hid (HE.out.trans (hb.mono HE.out.size))
  clear hb
  go_wp2_with fail
  refine (D2.out _ HE.out).mono ?_
  rintro e w8 ⟨rfl, hb⟩
  replace HE : Hid (Below w6.heap.size w6 w8) := Lib.hid (HE.out.trans (hb.mono HE.out.size))
  clear hb
  go_wp2_with fail
  refine (D3.out _ HE.out).mono ?_
  rintro e w10 ⟨rfl, hb⟩
  replace HE : Hid (Below w6.heap.size w6 w10) := Lib.hid (HE.out.trans (hb.mono HE.out.size))
  clear hb
  go_wp2_with fail
  refine (D4.out _ HE.out).mono ?_
  rintro e w11 ⟨rfl, hb⟩
  replace HE : Hid (Below w6.heap.size w6 w11) := Lib.hid (HE.out.trans (hb.mono HE.out.size))
  replace HB : Hid (Below w.heap.size w w11) := Lib.hid (HB.out.trans (HE.out.mono hz6))
  clear hb
  go_wp2_with (first | (go_at_call 16; refine (awake22_any _).mono ?_; rintro e w9 ⟨rfl, hb9⟩))
  go_ret
  exact ⟨rfl, HB.out.trans (hb9.mono HB.out.size)⟩

set_option maxRecDepth 100000 in
theorem lifted (os : Os) (started : os.Started) (H : Type) (enc : TypeId × Value → H) :
    ReturnsInHanded {} Try.checked os 8 .any (Rows.excessStabilitySpec.pre6 enc Try.prog Try.f8 Rows.excessStabilityRow.domain false) (Rows.excessStabilitySpec.post enc Try.prog Try.f8 false true false false) := by
  refine returnsInHanded_of_change (C := Try.checked) own started (by kernel_rfl) Try.func8
    (ChangeSpec.witness6 (enc := enc) (C := Try.checked) false ⟨#[], #[.int .i64 0, .slice none 0 0, .slice none 0 0, .slice none 0 0], []⟩ 8 (by kernel_rfl) (by kernel_rfl) (by kernel_rfl) (by kernel_rfl)) ?_
  intro W base args ds gs before hval0 hW hcnd _
  have hval : ∀ (j : Nat) t v, Try.f8.params[j]? = some t → args[j]? = some v → Value.okWide Try.prog W .any base t v := hval0
  have hW' := hW
  obtain ⟨p, q, hA0, hV, rfl, hfz, hnd⟩ := hW
  have hA : DataW.TrodAll enc Try.prog W 0 (fun _ => true) true Try.f8.params.toList args.toList ds p := hA0
  rw [Try.params8] at hA hval
  obtain ⟨v0, vs0, d0, ds0, p0, q0, hargs, rfl, rfl, h0, r0⟩ := trodAll_cons hA
  obtain ⟨v1, vs1, d1, ds1, p1, q1, rfl, rfl, rfl, h1, r1⟩ := trodAll_cons r0
  obtain ⟨v2, vs2, d2, ds2, p2, q2, rfl, rfl, rfl, h2, r2⟩ := trodAll_cons r1
  obtain ⟨v3, vs3, d3, ds3, p3, q3, rfl, rfl, rfl, h3, r3⟩ := trodAll_cons r2
  obtain ⟨rfl, rfl, rfl⟩ := trodAll_nil r3
  obtain rfl : args = #[v0, v1, v2, v3] := by cases args; simp_all
  obtain ⟨rfl, rfl⟩ := trodVars_none hV
  have k0 := h0
  have lt0 : ∀ x ∈ p0, x.block < W.heap.size := by obtain ⟨m, hm⟩ := k0; exact DataW.trod_lt m _ _ _ hm
  obtain ⟨a0, rfl⟩ := okWide_int Try.underlying3 (hval 0 3 v0 rfl rfl)
  have r100 : Rd3 W [.int .i64 a0] := by obtain ⟨fuel, hf⟩ := h0; exact rd3 hf
  have k1 := h1
  have lt1 : ∀ x ∈ p1, x.block < W.heap.size := by obtain ⟨m, hm⟩ := k1; exact DataW.trod_lt m _ _ _ hm
  obtain ⟨a1, len1, cap1, rfl⟩ := okWide_slice Try.underlying40 (hval 1 40 v1 rfl rfl)
  have r101 : Rd40 W [.slice a1 len1 cap1] := by obtain ⟨fuel, hf⟩ := h1; exact rd40 hf
  have k2 := h2
  have lt2 : ∀ x ∈ p2, x.block < W.heap.size := by obtain ⟨m, hm⟩ := k2; exact DataW.trod_lt m _ _ _ hm
  obtain ⟨a2, len2, cap2, rfl⟩ := okWide_slice Try.underlying48 (hval 2 48 v2 rfl rfl)
  have r102 : Rd48 W [.slice a2 len2 cap2] := by obtain ⟨fuel, hf⟩ := h2; exact rd48 hf
  have k3 := h3
  have lt3 : ∀ x ∈ p3, x.block < W.heap.size := by obtain ⟨m, hm⟩ := k3; exact DataW.trod_lt m _ _ _ hm
  obtain ⟨a3, len3, cap3, rfl⟩ := okWide_slice Try.underlying22 (hval 3 22 v3 rfl rfl)
  have r103 : Rd22 W [.slice a3 len3 cap3] := by obtain ⟨fuel, hf⟩ := h3; exact rd22 hf
  clear hA0 hval0
  refine (walk _ _ _ _ W r100 r101 r102 r103).mono fun e W' ⟨he, bel⟩ => ?_
  subst he
  exact ⟨_, rfl, _, _, _, [], _, [], hW', trodAll_mk1 (shut_bool Try.underlying4 _), (trodAll_cons_mk (Below.trod laidOut (by kernel_rfl) (of_decide_eq_true (by kernel_rfl)) k0 bel lt0) (trodAll_cons_mk (Below.trod laidOut (by kernel_rfl) (of_decide_eq_true (by kernel_rfl)) k1 bel lt1) (trodAll_cons_mk (Below.trod laidOut (by kernel_rfl) (of_decide_eq_true (by kernel_rfl)) k2 bel lt2) (trodAll_cons_mk (Below.trod laidOut (by kernel_rfl) (of_decide_eq_true (by kernel_rfl)) k3 bel lt3) trodAll_mk0)))), rfl, bel.frame _, fun h => by cases h⟩

theorem over : Rows.excessStabilityRow.holds Try.pinned (OpenSpec.ofChange Rows.excessStabilitySpec) :=
  OpenClaim.holds_of_wide 8 Try.f8 rfl rfl rfl rfl rfl rfl rfl ⟨rfl, rfl, rfl, rfl, rfl⟩ rfl rfl rfl rfl rfl (by kernel_rfl) Try.func8 (by kernel_rfl)
    (of_decide_eq_true (by kernel_rfl)) (by unfold Func.isWrapper; first | (rw [if_pos (by decide +kernel)]; kernel_rfl) | (rw [if_neg (by decide +kernel)]; exact ⟨rfl, rfl⟩))
    (fun os started H enc _ => lifted os started H enc)

/-- the statement -/
theorem proved : Rows.ExcessStabilitySaid := over
#print axioms proved
end Go.Proofs.Ytigoeaidlgofoaa.excessStability
