/- The law ExchangeBalance: Normalize returns the specified balance or error, for all lists. No condition. -/
import Derived.Test.YtojpjglkdmmfjaaRows
import Derived.Test.YtojpjglkdmmfjaaRead
import Derived.Test.YtojpjglkdmmfjaaXnP
import Derived.Test.YtojpjglkdmmfjaaXnS
import Derived.Test.YtojpjglkdmmfjaaXcD
import Derived.Test.YtojpjglkdmmfjaaArgsC
import Derived.WalkKit
import Derived.ProofKit
import Derived.OpenShut
import Derived.ShutString
import Derived.ChangeOld
import Derived.Below
namespace Go.Proofs.Ytojpjglkdmmfjaa.exchangeBalance
open Go.ChangeShapes Go.WideShapes Go.ChangeAt Go.RowKit
set_option linter.unusedVariables false

theorem own : ownKnob Try.prog.godebug = none := by kernel_rfl
theorem laidOut : laidOutB Try.prog = true := by kernel_rfl

theorem NormPairs {w' : World} {A : Option Addr} {m : Nat} {er : Int} {l : List (Int × Int)} (hm : m = if er = 0 then l.length else 0) (h : er = 0 → Pairs w' w'.heap.size A m (fstOf l) (sndOf l)) : Pairs w' w'.heap.size A m (fstOf l) (sndOf l) := by
  by_cases e : er = 0
  · exact h e
  · rw [if_neg e] at hm
    subst hm
    exact Pairs.zero

set_option maxHeartbeats 4000000 in
set_option maxRecDepth 100000 in
theorem walk (v0 : Value) (v1 : Value) (w : World) (h0 : Rd42 w [v0]) (h1 : Rd22 w [v1]) :
    Calls Try.prog 6 #[v0, v1] w fun e w' => e = .returned (.bool true) ∧ Below w.heap.size w w' := by
  obtain ⟨A1, n1, c1, f1, g1, rfl, hn1, _, _, hp1, _⟩ := rd_cash h0
  obtain ⟨A, n, c, z, rfl, hn, _, _, hc, _⟩ := rd_ints h1
  have HC := Lib.hid hc
  have HP1 := Lib.hid hp1
  clear h0 h1 hc hp1
  by_cases hl1 : 100 < n1
  · go_enter Try.func6, Try.ntmps6
    go_wp2_with (first | (go_at_call 14; refine (awake4_any _).mono ?_; rintro e w99 ⟨rfl, hb99⟩))
    go_ret
    exact ⟨rfl, hb99⟩
  have hl1' : n1 ≤ 100 := by omega
  clear hl1
  obtain ⟨e1, he1⟩ : ∃ s, Xn.nerr f1 g1 n1 = s := ⟨_, rfl⟩
  obtain ⟨l1, hl1⟩ : ∃ s, Xn.bal f1 g1 n1 = s := ⟨_, rfl⟩
  have C1 : Hid (∀ W : World, Below w.heap.size w W → Calls Try.prog 19 #[.slice A1 n1 c1] W (NormPost e1 l1 W)) := Lib.hid fun W hb => by
    have := norm_any A1 n1 c1 f1 g1 W (by omega) ((HP1.out.below hb).mono hb.size)
    rwa [he1, hl1] at this
  have C2 : Hid (∀ W : World, Below w.heap.size w W → Calls Try.prog 20 #[.slice A1 n1 c1] W (NormPost e1 l1 W)) := Lib.hid fun W hb => by
    have := rnorm_any A1 n1 c1 f1 g1 W (by omega) ((HP1.out.below hb).mono hb.size)
    rwa [he1, hl1] at this
  have hlb : l1.length ≤ 16 := by rw [← hl1]; exact Nat.le_trans (Xn.bals_length _ _) (by rw [Xn.cus_length]; exact Nat.le_refl _)
  clear he1 hl1 HP1
  go_enter Try.func6, Try.ntmps6
  go_wp2_with fail
  refine (C1.out _ (Below.refl _ _)).mono ?_
  intro e w1 hN1
  obtain ⟨X, mx, cx, rfl, hb, hmx, _, hqx⟩ := hN1
  have HX := Lib.hid (NormPairs hmx hqx)
  have HB := Lib.hid hb
  have HMX := Lib.hid hmx
  clear hb hqx hmx
  go_wp2_with fail
  refine (C2.out _ HB.out).mono ?_
  intro e w2 hN2
  obtain ⟨Y, my, cy, rfl, hb, hmy, _, hqy⟩ := hN2
  have hmm : mx = my := by rw [HMX.out, hmy]
  subst hmm
  have hmx16 : mx ≤ 16 := by rw [hmy]; split <;> omega
  have HY := Lib.hid (NormPairs hmy hqy)
  replace HX := Lib.hid ((HX.out.below hb).mono hb.size)
  replace HB : Hid (Below w.heap.size w w2) := Lib.hid (HB.out.trans (hb.mono HB.out.size))
  clear hb hqy HMX hmy C1 C2
  have hz2 := HB.out.size
  go_wp2_with fail
  refine (deck_new A n c z w2 hn ((HC.out.below HB.out).mono hz2)).mono ?_
  rintro e w3 ⟨rfl, hb, hd⟩
  have HXD : Hid (Pairs w3 w2.heap.size X mx (fstOf l1) (sndOf l1)) := Lib.hid (HX.out.below hb)
  have HYD : Hid (Pairs w3 w2.heap.size Y mx (fstOf l1) (sndOf l1)) := Lib.hid (HY.out.below hb)
  replace HB : Hid (Below w.heap.size w w3) := Lib.hid (HB.out.trans (hb.mono HB.out.size))
  have HD := Lib.hid hd
  have hz3 := hb.size
  obtain ⟨H, hH⟩ : ∃ H, w2.heap.size = H := ⟨_, rfl⟩
  rw [hH] at HXD HYD HD hz2 hz3 ⊢
  clear hb hd HC HX HY hH
  go_wp2_with fail
  refine (dcash_any _ 12 _ HD.out (by omega)).mono ?_
  rintro e w4 ⟨A4, c4, ps, rfl, hl4, _, hp4, _, hk2, hd2, _⟩
  have hbk : Below H w3 w4 := hk2.below (Nat.le_refl _) (by omega)
  replace HXD := Lib.hid (HXD.out.below hbk)
  replace HYD := Lib.hid (HYD.out.below hbk)
  replace HB : Hid (Below w.heap.size w w4) := Lib.hid (HB.out.trans (hbk.mono hz2))
  have HP4 := Lib.hid hp4
  obtain ⟨m4, hm4⟩ : ∃ m, ps.length = m := ⟨_, rfl⟩
  have hz4 := hbk.size
  rw [hm4] at HP4 hl4 ⊢
  clear hk2 hd2 hp4 hbk hm4 HD
  obtain ⟨e2, he2⟩ : ∃ s, Xn.nerr (fstOf ps) (sndOf ps) m4 = s := ⟨_, rfl⟩
  obtain ⟨l2, hl2⟩ : ∃ s, Xn.bal (fstOf ps) (sndOf ps) m4 = s := ⟨_, rfl⟩
  have C3 : Hid (∀ W : World, Below w4.heap.size w4 W → Calls Try.prog 19 #[.slice A4 m4 c4] W (NormPost e2 l2 W)) := Lib.hid fun W hb => by
    have := norm_any A4 m4 c4 (fstOf ps) (sndOf ps) W (by omega) ((HP4.out.below hb).mono hb.size)
    rwa [he2, hl2] at this
  have C4 : Hid (∀ W : World, Below w4.heap.size w4 W → Calls Try.prog 20 #[.slice A4 m4 c4] W (NormPost e2 l2 W)) := Lib.hid fun W hb => by
    have := rnorm_any A4 m4 c4 (fstOf ps) (sndOf ps) W (by omega) ((HP4.out.below hb).mono hb.size)
    rwa [he2, hl2] at this
  have hlb2 : l2.length ≤ 16 := by rw [← hl2]; exact Nat.le_trans (Xn.bals_length _ _) (by rw [Xn.cus_length]; exact Nat.le_refl _)
  clear he2 hl2 HP4
  go_wp2_with fail
  refine (C3.out _ (Below.refl _ _)).mono ?_
  intro e w5 hN1
  obtain ⟨U, mu, cu, rfl, hb, hmu, _, hqu⟩ := hN1
  have HU := Lib.hid (NormPairs hmu hqu)
  have HE := Lib.hid hb
  have HMU := Lib.hid hmu
  clear hb hqu hmu
  go_wp2_with fail
  refine (C4.out _ HE.out).mono ?_
  intro e w6 hN2
  obtain ⟨V, mv, cv, rfl, hb, hmv, _, hqv⟩ := hN2
  have hmm : mu = mv := by rw [HMU.out, hmv]
  subst hmm
  have hmu16 : mu ≤ 16 := by rw [hmv]; split <;> omega
  have HV := Lib.hid (NormPairs hmv hqv)
  replace HU := Lib.hid ((HU.out.below hb).mono hb.size)
  replace HE : Hid (Below w4.heap.size w4 w6) := Lib.hid (HE.out.trans (hb.mono HE.out.size))
  clear hb hqv HMU hmv C3 C4
  replace HXD := Lib.hid (HXD.out.below (HE.out.mono (by omega)))
  replace HYD := Lib.hid (HYD.out.below (HE.out.mono (by omega)))
  replace HB : Hid (Below w.heap.size w w6) := Lib.hid (HB.out.trans (HE.out.mono (by omega)))
  go_wp2_with fail
  refine (samecash_yes X Y mx cx cy _ _ _ _ _ (by omega) HXD.out HYD.out).mono ?_
  rintro e w7 ⟨rfl, q1, rfl⟩
  go_wp2_with fail
  refine (samecash_yes U V mu cu cv _ _ _ _ _ (by omega) (HU.out.drewN q1) (HV.out.drewN q1)).mono ?_
  rintro e w7 ⟨rfl, q2, rfl⟩
  go_wp2_with (first | (go_at_call 14; refine (awake4_any _).mono ?_; rintro e w99 ⟨rfl, hb99⟩))
  go_ret
  exact ⟨rfl, (by (repeat' (first | (with_reducible exact HB.out) | (with_reducible refine below_drewN ?_ _) | (with_reducible refine Below.drew ?_))) : Below w.heap.size w _).trans (hb99.mono HB.out.size)⟩

set_option maxRecDepth 100000 in
theorem lifted (os : Os) (started : os.Started) (H : Type) (enc : TypeId × Value → H) :
    ReturnsInHanded {} Try.checked os 6 .any (Rows.exchangeBalanceSpec.pre6 enc Try.prog Try.f6 Rows.exchangeBalanceRow.domain false) (Rows.exchangeBalanceSpec.post enc Try.prog Try.f6 false true false false) := by
  refine returnsInHanded_of_change (C := Try.checked) own started (by kernel_rfl) Try.func6
    (ChangeSpec.witness6 (enc := enc) (C := Try.checked) false ⟨#[], #[.slice none 0 0, .slice none 0 0], []⟩ 8 (by kernel_rfl) (by kernel_rfl) (by kernel_rfl) (by kernel_rfl)) ?_
  intro W base args ds gs before hval0 hW hcnd _
  have hval : ∀ (j : Nat) t v, Try.f6.params[j]? = some t → args[j]? = some v → Value.okWide Try.prog W .any base t v := hval0
  have hW' := hW
  obtain ⟨p, q, hA0, hV, rfl, hfz, hnd⟩ := hW
  have hA : DataW.TrodAll enc Try.prog W 0 (fun _ => true) true Try.f6.params.toList args.toList ds p := hA0
  rw [Try.params6] at hA hval
  obtain ⟨v0, vs0, d0, ds0, p0, q0, hargs, rfl, rfl, h0, r0⟩ := trodAll_cons hA
  obtain ⟨v1, vs1, d1, ds1, p1, q1, rfl, rfl, rfl, h1, r1⟩ := trodAll_cons r0
  obtain ⟨rfl, rfl, rfl⟩ := trodAll_nil r1
  obtain rfl : args = #[v0, v1] := by cases args; simp_all
  obtain ⟨rfl, rfl⟩ := trodVars_none hV
  have k0 := h0
  have lt0 : ∀ x ∈ p0, x.block < W.heap.size := by obtain ⟨m, hm⟩ := k0; exact DataW.trod_lt m _ _ _ hm
  obtain ⟨a0, len0, cap0, rfl⟩ := okWide_slice Try.underlying42 (hval 0 42 v0 rfl rfl)
  have r100 : Rd42 W [.slice a0 len0 cap0] := by obtain ⟨fuel, hf⟩ := h0; exact rd42 hf
  have k1 := h1
  have lt1 : ∀ x ∈ p1, x.block < W.heap.size := by obtain ⟨m, hm⟩ := k1; exact DataW.trod_lt m _ _ _ hm
  obtain ⟨a1, len1, cap1, rfl⟩ := okWide_slice Try.underlying22 (hval 1 22 v1 rfl rfl)
  have r101 : Rd22 W [.slice a1 len1 cap1] := by obtain ⟨fuel, hf⟩ := h1; exact rd22 hf
  clear hA0 hval0
  refine (walk _ _ W r100 r101).mono fun e W' ⟨he, bel⟩ => ?_
  subst he
  exact ⟨_, rfl, _, _, _, [], _, [], hW', trodAll_mk1 (shut_bool Try.underlying4 _), (trodAll_cons_mk (Below.trod laidOut (by kernel_rfl) (of_decide_eq_true (by kernel_rfl)) k0 bel lt0) (trodAll_cons_mk (Below.trod laidOut (by kernel_rfl) (of_decide_eq_true (by kernel_rfl)) k1 bel lt1) trodAll_mk0)), rfl, bel.frame _, fun h => by cases h⟩

theorem over : Rows.exchangeBalanceRow.holds Try.pinned (OpenSpec.ofChange Rows.exchangeBalanceSpec) :=
  OpenClaim.holds_of_wide 6 Try.f6 rfl rfl rfl rfl rfl rfl rfl ⟨rfl, rfl, rfl, rfl, rfl⟩ rfl rfl rfl rfl rfl (by kernel_rfl) Try.func6 (by kernel_rfl)
    (of_decide_eq_true (by kernel_rfl)) (by unfold Func.isWrapper; first | (rw [if_pos (by decide +kernel)]; kernel_rfl) | (rw [if_neg (by decide +kernel)]; exact ⟨rfl, rfl⟩))
    (fun os started H enc _ => lifted os started H enc)

/-- the statement -/
theorem proved : Rows.ExchangeBalanceSaid := over
#print axioms proved
end Go.Proofs.Ytojpjglkdmmfjaa.exchangeBalance
