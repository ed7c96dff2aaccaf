/- The law ExchangeDifference: Add and Sub return the specified balances, and what is added and subtracted again leaves the balance as it was. No condition. -/
import Derived.Test.YtojpjglkdmmfjaaRows
import Derived.Test.YtojpjglkdmmfjaaRead
import Derived.Test.YtojpjglkdmmfjaaXnE
import Derived.Test.YtojpjglkdmmfjaaXcD
import Derived.Test.YtojpjglkdmmfjaaArgsC
import Derived.WalkKit
import Derived.ProofKit
import Derived.OpenShut
import Derived.ShutString
import Derived.ChangeOld
import Derived.Below
namespace Go.Proofs.Ytojpjglkdmmfjaa.exchangeDifference
open Go.ChangeShapes Go.WideShapes Go.ChangeAt Go.RowKit
set_option linter.unusedVariables false

theorem own : ownKnob Try.prog.godebug = none := by kernel_rfl
theorem laidOut : laidOutB Try.prog = true := by kernel_rfl

theorem NormPairs {w' : World} {A : Option Addr} {m : Nat} {er : Int} {l : List (Int × Int)} (hm : m = if er = 0 then l.length else 0) (h : er = 0 → Pairs w' w'.heap.size A m (fstOf l) (sndOf l)) : Pairs w' w'.heap.size A m (fstOf l) (sndOf l) := by
  by_cases e : er = 0
  · exact h e
  · rw [if_neg e] at hm
    subst hm
    exact Pairs.zero
theorem sgn_one (g : Nat → Int) : sgn 1 g = g := by
  funext j
  unfold sgn
  split <;> omega

set_option maxHeartbeats 4000000 in
set_option maxRecDepth 100000 in
theorem walk (v0 : Value) (v1 : Value) (v2 : Value) (w : World) (h0 : Rd42 w [v0]) (h1 : Rd42 w [v1]) (h2 : Rd22 w [v2]) :
    Calls Try.prog 8 #[v0, v1, v2] w fun e w' => e = .returned (.bool true) ∧ Below w.heap.size w w' := by
  obtain ⟨A1, n1, c1, f1, g1, rfl, hn1, _, hz1, hp1, hv1⟩ := rd_cash h0
  obtain ⟨A2, n2, c2, f2, g2, rfl, hn2, _, hz2, hp2, hv2⟩ := rd_cash h1
  obtain ⟨A, n, c, z, rfl, hn, _, _, hc, _⟩ := rd_ints h2
  have HC := Lib.hid hc
  have HP1 := Lib.hid hp1
  have HP2 := Lib.hid hp2
  have HZ1 := Lib.hid hz1
  have HZ2 := Lib.hid hz2
  have HV2 : Hid (∀ j, j < n2 → -9223372036854775808 ≤ g2 j ∧ g2 j ≤ 9223372036854775807) := Lib.hid fun j hj => (hv2 j hj).2
  clear h0 h1 h2 hc hp1 hp2 hz1 hz2 hv1 hv2
  by_cases hl1 : 60 < n1
  · go_enter Try.func8, Try.ntmps8
    go_wp2_with (first | (go_at_call 14; refine (awake4_any _).mono ?_; rintro e w99 ⟨rfl, hb99⟩))
    go_ret
    exact ⟨rfl, hb99⟩
  by_cases hl2 : 60 < n2
  · go_enter Try.func8, Try.ntmps8
    go_wp2_with (first | (go_at_call 14; refine (awake4_any _).mono ?_; rintro e w99 ⟨rfl, hb99⟩))
    go_ret
    exact ⟨rfl, hb99⟩
  have hl1' : n1 ≤ 60 := by omega
  have hl2' : n2 ≤ 60 := by omega
  clear hl1 hl2
  obtain ⟨e1, he1⟩ : ∃ s, Xn.nerr (app f1 f2 n1) (app g1 g2 n1) (n1 + n2) = s := ⟨_, rfl⟩
  obtain ⟨l1, hl1⟩ : ∃ s, Xn.bal (app f1 f2 n1) (app g1 g2 n1) (n1 + n2) = s := ⟨_, rfl⟩
  obtain ⟨e2, he2⟩ : ∃ s, Xn.nerr (app f1 f2 n1) (app g1 (sgn (-1) g2) n1) (n1 + n2) = s := ⟨_, rfl⟩
  obtain ⟨l2, hl2⟩ : ∃ s, Xn.bal (app f1 f2 n1) (app g1 (sgn (-1) g2) n1) (n1 + n2) = s := ⟨_, rfl⟩
  have hlb1 : l1.length ≤ 16 := by rw [← hl1]; exact Xn.bal_length _ _ _
  have hlb2 : l2.length ≤ 16 := by rw [← hl2]; exact Xn.bal_length _ _ _
  obtain ⟨FF, hFF⟩ : ∃ x, app f1 f2 n1 = x := ⟨_, rfl⟩
  obtain ⟨GA, hGA⟩ : ∃ x, app g1 g2 n1 = x := ⟨_, rfl⟩
  obtain ⟨GB, hGB⟩ : ∃ x, app g1 (sgn (-1) g2) n1 = x := ⟨_, rfl⟩
  have C1 : Hid (∀ W : World, Below w.heap.size w W → Calls Try.prog 24 #[.slice A1 n1 c1, .slice A2 n2 c2] W (NormPost e1 l1 W)) := Lib.hid fun W hb => by
    have := add_any A1 A2 n1 c1 n2 c2 f1 g1 f2 g2 W (by omega) (by omega) HZ1.out HZ2.out ((HP1.out.below hb).mono hb.size) ((HP2.out.below hb).mono hb.size)
    rwa [he1, hl1] at this
  have C2 : Hid (∀ W : World, Below w.heap.size w W → Calls Try.prog 26 #[.slice A1 n1 c1, .slice A2 n2 c2] W (NormPost e2 l2 W)) := Lib.hid fun W hb => by
    have := sub_any A1 A2 n1 c1 n2 c2 f1 g1 f2 g2 W (by omega) (by omega) HZ1.out HZ2.out ((HP1.out.below hb).mono hb.size) ((HP2.out.below hb).mono hb.size) HV2.out
    rwa [he2, hl2] at this
  have C3 : Hid (∀ W : World, Below w.heap.size w W → Calls Try.prog 25 #[.slice A1 n1 c1, .slice A2 n2 c2, .int .i64 1] W (CatPost (n1 + n2) (pairL (n1 + n2) FF GA) W)) := Lib.hid fun W hb => by
    have := joined_any A1 A2 n1 c1 n2 c2 f1 g1 f2 g2 1 W (.inl rfl) (by omega) (by omega) HZ1.out ((HP1.out.below hb).mono hb.size) ((HP2.out.below hb).mono hb.size)
    rwa [sgn_one, hFF, hGA] at this
  have C4 : Hid (∀ W : World, Below w.heap.size w W → Calls Try.prog 25 #[.slice A1 n1 c1, .slice A2 n2 c2, .int .i64 (-1)] W (CatPost (n1 + n2) (pairL (n1 + n2) FF GB) W)) := Lib.hid fun W hb => by
    have := joined_any A1 A2 n1 c1 n2 c2 f1 g1 f2 g2 (-1) W (.inr rfl) (by omega) (by omega) HZ1.out ((HP1.out.below hb).mono hb.size) ((HP2.out.below hb).mono hb.size)
    rwa [hFF, hGB] at this
  rw [hFF] at he1 he2 hl1 hl2
  rw [hGA] at he1 hl1
  rw [hGB] at he2 hl2
  have C5 : Hid (∀ (W : World) (X : Option Addr) (cx : Nat), Pairs W W.heap.size X (n1 + n2) FF GA → Calls Try.prog 20 #[.slice X (n1 + n2) cx] W (NormPost e1 l1 W)) := Lib.hid fun W X cx hp => by
    have := rnorm_any X (n1 + n2) cx FF GA W (by omega) hp
    rwa [he1, hl1] at this
  have C6 : Hid (∀ (W : World) (X : Option Addr) (cx : Nat), Pairs W W.heap.size X (n1 + n2) FF GB → Calls Try.prog 20 #[.slice X (n1 + n2) cx] W (NormPost e2 l2 W)) := Lib.hid fun W X cx hp => by
    have := rnorm_any X (n1 + n2) cx FF GB W (by omega) hp
    rwa [he2, hl2] at this
  clear he1 hl1 he2 hl2 hFF hGA hGB HP1 HP2 HV2 HZ1 HZ2
  go_enter Try.func8, Try.ntmps8
  go_wp2_with fail
  refine (C1.out _ (Below.refl _ _)).mono ?_
  intro e w1 hN1
  obtain ⟨X, mx, cx, rfl, hb, hmx, _, hqx⟩ := hN1
  have HX := Lib.hid (NormPairs hmx hqx)
  have HB := Lib.hid hb
  have HMX := Lib.hid hmx
  clear hb hqx hmx
  go_wp2_with fail
  refine (C3.out _ HB.out).mono ?_
  intro e w2 hC
  obtain ⟨v, rfl, ho, hb⟩ := hC
  obtain ⟨J, cj, rfl⟩ := own_slice ho
  have HJ := Lib.hid (Pairs.of_list ho)
  replace HX := Lib.hid ((HX.out.below hb).mono hb.size)
  replace HB : Hid (Below w.heap.size w w2) := Lib.hid (HB.out.trans (hb.mono HB.out.size))
  clear ho hb
  go_wp2_with fail
  refine (C5.out _ _ _ HJ.out).mono ?_
  intro e w3 hN2
  obtain ⟨Y, my, cy, rfl, hb, hmy, _, hqy⟩ := hN2
  have hmm : mx = my := by rw [HMX.out, hmy]
  subst hmm
  have hmx16 : mx ≤ 16 := by rw [hmy]; split <;> omega
  have HY := Lib.hid (NormPairs hmy hqy)
  replace HX := Lib.hid ((HX.out.below hb).mono hb.size)
  replace HB : Hid (Below w.heap.size w w3) := Lib.hid (HB.out.trans (hb.mono HB.out.size))
  clear hb hqy HMX hmy C1 C3 C5 HJ
  go_wp2_with fail
  refine (C2.out _ HB.out).mono ?_
  intro e w4 hN1
  obtain ⟨U, mu, cu, rfl, hb, hmu, _, hqu⟩ := hN1
  have HU := Lib.hid (NormPairs hmu hqu)
  have HMU := Lib.hid hmu
  replace HX := Lib.hid ((HX.out.below hb).mono hb.size)
  replace HY := Lib.hid ((HY.out.below hb).mono hb.size)
  replace HB : Hid (Below w.heap.size w w4) := Lib.hid (HB.out.trans (hb.mono HB.out.size))
  clear hb hqu hmu
  go_wp2_with fail
  refine (C4.out _ HB.out).mono ?_
  intro e w5 hC
  obtain ⟨v, rfl, ho, hb⟩ := hC
  obtain ⟨J2, cj2, rfl⟩ := own_slice ho
  have HJ := Lib.hid (Pairs.of_list ho)
  replace HX := Lib.hid ((HX.out.below hb).mono hb.size)
  replace HY := Lib.hid ((HY.out.below hb).mono hb.size)
  replace HU := Lib.hid ((HU.out.below hb).mono hb.size)
  replace HB : Hid (Below w.heap.size w w5) := Lib.hid (HB.out.trans (hb.mono HB.out.size))
  clear ho hb
  go_wp2_with fail
  refine (C6.out _ _ _ HJ.out).mono ?_
  intro e w6 hN2
  obtain ⟨V, mv, cv, rfl, hb, hmv, _, hqv⟩ := hN2
  have hmm : mu = mv := by rw [HMU.out, hmv]
  subst hmm
  have hmu16 : mu ≤ 16 := by rw [hmv]; split <;> omega
  have HV := Lib.hid (NormPairs hmv hqv)
  replace HX := Lib.hid ((HX.out.below hb).mono hb.size)
  replace HY := Lib.hid ((HY.out.below hb).mono hb.size)
  replace HU := Lib.hid ((HU.out.below hb).mono hb.size)
  replace HB : Hid (Below w.heap.size w w6) := Lib.hid (HB.out.trans (hb.mono HB.out.size))
  clear hb hqv HMU hmv C2 C4 C6 HJ
  go_wp2_with fail
  refine (samecash_yes X Y mx cx cy _ _ _ _ _ (by omega) HX.out HY.out).mono ?_
  rintro e w7 ⟨rfl, q1, rfl⟩
  go_wp2_with fail
  refine (samecash_yes U V mu cu cv _ _ _ _ _ (by omega) (HU.out.drewN q1) (HV.out.drewN q1)).mono ?_
  rintro e w7 ⟨rfl, q2, rfl⟩
  replace HB : Hid (Below w.heap.size w ((w6.drewN q1).drewN q2)) := Lib.hid (below_drewN (below_drewN HB.out q1) q2)
  obtain ⟨w7, hw7⟩ : ∃ W, (w6.drewN q1).drewN q2 = W := ⟨_, rfl⟩
  rw [hw7] at HB ⊢
  clear hw7 HX HY HU HV hmx16 hmu16 hlb1 hlb2
  have hz7 := HB.out.size
  go_wp2_with fail
  refine (deck_new A n c z w7 hn ((HC.out.below HB.out).mono hz7)).mono ?_
  rintro e w8 ⟨rfl, hb, hd⟩
  replace HB : Hid (Below w.heap.size w w8) := Lib.hid (HB.out.trans (hb.mono HB.out.size))
  have HD := Lib.hid hd
  have hz8 := hb.size
  obtain ⟨H, hH⟩ : ∃ H, w7.heap.size = H := ⟨_, rfl⟩
  rw [hH] at HD hz7 hz8 ⊢
  clear hb hd HC hH
  go_wp2_with fail
  refine (dcash_any _ 8 _ HD.out (by omega)).mono ?_
  rintro e wa ⟨A4, c4, ps, rfl, hl4, hA4, hp4, hps, hk2, hd2, _, hz4⟩
  replace HB : Hid (Below w.heap.size w wa) := Lib.hid (HB.out.trans (hk2.below hz7 (by omega)))
  replace HD := Lib.hid hd2
  have HP4 := Lib.hid hp4
  have HA4 : Hid (∀ ad, A4 = some ad → ad.block ≠ H) := Lib.hid fun ad h => (hA4 ad h).1
  have HZ4 := Lib.hid hz4
  have HPS : Hid (∀ j, j < ps.length → Xc.curP (fstOf ps j) ∧ -1073741824 ≤ sndOf ps j ∧ sndOf ps j ≤ 1073741824) := Lib.hid fun j hj => by
    have := hps _ (Xn.mem_at' ps j hj)
    simp only at this
    exact ⟨⟨this.1, by omega⟩, this.2.2.1, this.2.2.2⟩
  obtain ⟨m, hm⟩ : ∃ m, ps.length = m := ⟨_, rfl⟩
  rw [hm] at HP4 HPS hl4 HZ4 ⊢
  have hza : w8.heap.size ≤ wa.heap.size := hk2.size
  clear hk2 hd2 hp4 hps hA4 hm hz4
  go_wp2_with fail
  refine (dcash_any _ 8 _ HD.out (by omega)).mono ?_
  rintro e wb ⟨A5, c5, qs, rfl, hl5, _, hp5, hqs, hk2, hd2, _, hz5⟩
  replace HB : Hid (Below w.heap.size w wb) := Lib.hid (HB.out.trans (hk2.below hz7 (by omega)))
  replace HP4 := Lib.hid (HP4.out.keeps_ne hk2 HA4.out)
  have HP5 := Lib.hid hp5
  have HZ5 := Lib.hid hz5
  have HQS : Hid (∀ j, j < qs.length → Xc.curP (fstOf qs j) ∧ -1073741824 ≤ sndOf qs j ∧ sndOf qs j ≤ 1073741824) := Lib.hid fun j hj => by
    have := hqs _ (Xn.mem_at' qs j hj)
    simp only at this
    exact ⟨⟨this.1, by omega⟩, this.2.2.1, this.2.2.2⟩
  obtain ⟨m5, hm⟩ : ∃ m, qs.length = m := ⟨_, rfl⟩
  rw [hm] at HP5 HQS hl5 HZ5 ⊢
  clear hk2 hd2 hp5 hqs hm hz5 HD HA4
  have hbl : (Xn.bal (app (fstOf ps) (fstOf qs) m) (app (sndOf ps) (sndOf qs) m) (m + m5)).length ≤ 16 := Xn.bal_length _ _ _
  obtain ⟨l, hl⟩ : ∃ l, Xn.bal (app (fstOf ps) (fstOf qs) m) (app (sndOf ps) (sndOf qs) m) (m + m5) = l := ⟨_, rfl⟩
  obtain ⟨b1, b2, b3, b4⟩ := Xn.back hl4 hl5 (fun j hj => (HPS.out j hj).1) (fun j hj => (HQS.out j hj).1) (fun j hj => (HPS.out j hj).2) (fun j hj => (HQS.out j hj).2) hl
  rw [hl] at hbl
  have hbl2 : (Xn.bal (fstOf ps) (sndOf ps) m).length ≤ 16 := Xn.bal_length _ _ _
  obtain ⟨l', hl'⟩ : ∃ l, Xn.bal (fstOf ps) (sndOf ps) m = l := ⟨_, rfl⟩
  rw [hl'] at b4 hbl2
  have C1 : Hid (∀ W : World, Below wb.heap.size wb W → Calls Try.prog 24 #[.slice A4 m c4, .slice A5 m5 c5] W (NormPost 0 l W)) := Lib.hid fun W hb => by
    have := add_any A4 A5 m c4 m5 c5 _ _ _ _ W (by omega) (by omega) HZ4.out HZ5.out ((HP4.out.below hb).mono hb.size) ((HP5.out.below hb).mono hb.size)
    rwa [b1, hl] at this
  have C2 : Hid (∀ (W : World) (X : Option Addr) (cx : Nat), Below wb.heap.size wb W → (X = none → l.length = 0 ∧ cx = 0) → Pairs W W.heap.size X l.length (fstOf l) (sndOf l) → Calls Try.prog 26 #[.slice X l.length cx, .slice A5 m5 c5] W (NormPost 0 l' W)) := Lib.hid fun W X cx hb hx hp => by
    have := sub_any X A5 l.length cx m5 c5 _ _ _ _ W (by omega) (by omega) hx HZ5.out hp ((HP5.out.below hb).mono hb.size) (fun j hj => by have := HQS.out j hj; omega)
    rwa [b3, b4] at this
  have C3 : Hid (∀ W : World, Below wb.heap.size wb W → Calls Try.prog 19 #[.slice A4 m c4] W (NormPost 0 l' W)) := Lib.hid fun W hb => by
    have := norm_any A4 m c4 _ _ W (by omega) ((HP4.out.below hb).mono hb.size)
    rwa [b2, hl'] at this
  clear hl hl' b1 b2 b3 b4 HP4 HP5 HPS HQS HZ4 HZ5
  go_wp2_with fail
  refine (C1.out _ (Below.refl _ _)).mono ?_
  intro e wc hN1
  obtain ⟨X, mx, cx, rfl, hb, hmx, ⟨_, hx0⟩, hqx⟩ := hN1
  rw [if_pos rfl] at hmx
  subst hmx
  have HX := Lib.hid (hqx rfl)
  have HX0 := Lib.hid hx0
  have HE := Lib.hid hb
  replace C2 := Lib.hid (C2.out _ _ _ HE.out HX0.out HX.out)
  obtain ⟨mm, hmm⟩ : ∃ m, l.length = m := ⟨_, rfl⟩
  rw [hmm] at C2 ⊢
  clear hb hqx hx0 HX HX0 hmm hbl
  go_wp2_with fail
  refine C2.out.mono ?_
  intro e wd hN2
  obtain ⟨U, mu, cu, rfl, hb, hmu, _, hqu⟩ := hN2
  rw [if_pos rfl] at hmu
  subst hmu
  have HU := Lib.hid (hqu rfl)
  replace HE : Hid (Below wb.heap.size wb wd) := Lib.hid (HE.out.trans (hb.mono HE.out.size))
  obtain ⟨mk, hmk⟩ : ∃ m, l'.length = m := ⟨_, rfl⟩
  have HMK := Lib.hid hmk
  rw [hmk] at HU hbl2 ⊢
  clear hb hqu hmk C1 C2
  go_wp2_with fail
  refine (C3.out _ HE.out).mono ?_
  intro e we hN3
  obtain ⟨V, mv, cv, rfl, hb, hmv, _, hqv⟩ := hN3
  rw [if_pos rfl, HMK.out] at hmv
  subst hmv
  have HV := Lib.hid (hqv rfl)
  replace HU := Lib.hid ((HU.out.below hb).mono hb.size)
  replace HE : Hid (Below wb.heap.size wb we) := Lib.hid (HE.out.trans (hb.mono HE.out.size))
  replace HB : Hid (Below w.heap.size w we) := Lib.hid (HB.out.trans (HE.out.mono HB.out.size))
  clear hb hqv C3 HE HMK
  go_wp2_with fail
  refine (samecash_yes U V mv cu cv _ _ _ _ _ (by omega) HU.out HV.out).mono ?_
  rintro e w7 ⟨rfl, q1, rfl⟩
  go_wp2_with (first | (go_at_call 14; refine (awake4_any _).mono ?_; rintro e w99 ⟨rfl, hb99⟩))
  go_ret
  exact ⟨rfl, (by (repeat' (first | (with_reducible exact HB.out) | (with_reducible refine below_drewN ?_ _) | (with_reducible refine Below.drew ?_))) : Below w.heap.size w _).trans (hb99.mono HB.out.size)⟩

set_option maxRecDepth 100000 in
theorem lifted (os : Os) (started : os.Started) (H : Type) (enc : TypeId × Value → H) :
    ReturnsInHanded {} Try.checked os 8 .any (Rows.exchangeDifferenceSpec.pre6 enc Try.prog Try.f8 Rows.exchangeDifferenceRow.domain false) (Rows.exchangeDifferenceSpec.post enc Try.prog Try.f8 false true false false) := by
  refine returnsInHanded_of_change (C := Try.checked) own started (by kernel_rfl) Try.func8
    (ChangeSpec.witness6 (enc := enc) (C := Try.checked) false ⟨#[], #[.slice none 0 0, .slice none 0 0, .slice none 0 0], []⟩ 8 (by kernel_rfl) (by kernel_rfl) (by kernel_rfl) (by kernel_rfl)) ?_
  intro W base args ds gs before hval0 hW hcnd _
  have hval : ∀ (j : Nat) t v, Try.f8.params[j]? = some t → args[j]? = some v → Value.okWide Try.prog W .any base t v := hval0
  have hW' := hW
  obtain ⟨p, q, hA0, hV, rfl, hfz, hnd⟩ := hW
  have hA : DataW.TrodAll enc Try.prog W 0 (fun _ => true) true Try.f8.params.toList args.toList ds p := hA0
  rw [Try.params8] at hA hval
  obtain ⟨v0, vs0, d0, ds0, p0, q0, hargs, rfl, rfl, h0, r0⟩ := trodAll_cons hA
  obtain ⟨v1, vs1, d1, ds1, p1, q1, rfl, rfl, rfl, h1, r1⟩ := trodAll_cons r0
  obtain ⟨v2, vs2, d2, ds2, p2, q2, rfl, rfl, rfl, h2, r2⟩ := trodAll_cons r1
  obtain ⟨rfl, rfl, rfl⟩ := trodAll_nil r2
  obtain rfl : args = #[v0, v1, v2] := by cases args; simp_all
  obtain ⟨rfl, rfl⟩ := trodVars_none hV
  have k0 := h0
  have lt0 : ∀ x ∈ p0, x.block < W.heap.size := by obtain ⟨m, hm⟩ := k0; exact DataW.trod_lt m _ _ _ hm
  obtain ⟨a0, len0, cap0, rfl⟩ := okWide_slice Try.underlying42 (hval 0 42 v0 rfl rfl)
  have r100 : Rd42 W [.slice a0 len0 cap0] := by obtain ⟨fuel, hf⟩ := h0; exact rd42 hf
  have k1 := h1
  have lt1 : ∀ x ∈ p1, x.block < W.heap.size := by obtain ⟨m, hm⟩ := k1; exact DataW.trod_lt m _ _ _ hm
  obtain ⟨a1, len1, cap1, rfl⟩ := okWide_slice Try.underlying42 (hval 1 42 v1 rfl rfl)
  have r101 : Rd42 W [.slice a1 len1 cap1] := by obtain ⟨fuel, hf⟩ := h1; exact rd42 hf
  have k2 := h2
  have lt2 : ∀ x ∈ p2, x.block < W.heap.size := by obtain ⟨m, hm⟩ := k2; exact DataW.trod_lt m _ _ _ hm
  obtain ⟨a2, len2, cap2, rfl⟩ := okWide_slice Try.underlying22 (hval 2 22 v2 rfl rfl)
  have r102 : Rd22 W [.slice a2 len2 cap2] := by obtain ⟨fuel, hf⟩ := h2; exact rd22 hf
  clear hA0 hval0
  refine (walk _ _ _ W r100 r101 r102).mono fun e W' ⟨he, bel⟩ => ?_
  subst he
  exact ⟨_, rfl, _, _, _, [], _, [], hW', trodAll_mk1 (shut_bool Try.underlying4 _), (trodAll_cons_mk (Below.trod laidOut (by kernel_rfl) (of_decide_eq_true (by kernel_rfl)) k0 bel lt0) (trodAll_cons_mk (Below.trod laidOut (by kernel_rfl) (of_decide_eq_true (by kernel_rfl)) k1 bel lt1) (trodAll_cons_mk (Below.trod laidOut (by kernel_rfl) (of_decide_eq_true (by kernel_rfl)) k2 bel lt2) trodAll_mk0))), rfl, bel.frame _, fun h => by cases h⟩

theorem over : Rows.exchangeDifferenceRow.holds Try.pinned (OpenSpec.ofChange Rows.exchangeDifferenceSpec) :=
  OpenClaim.holds_of_wide 8 Try.f8 rfl rfl rfl rfl rfl rfl rfl ⟨rfl, rfl, rfl, rfl, rfl⟩ rfl rfl rfl rfl rfl (by kernel_rfl) Try.func8 (by kernel_rfl)
    (of_decide_eq_true (by kernel_rfl)) (by unfold Func.isWrapper; first | (rw [if_pos (by decide +kernel)]; kernel_rfl) | (rw [if_neg (by decide +kernel)]; exact ⟨rfl, rfl⟩))
    (fun os started H enc _ => lifted os started H enc)

/-- the statement -/
theorem proved : Rows.ExchangeDifferenceSaid := over
#print axioms proved
end Go.Proofs.Ytojpjglkdmmfjaa.exchangeDifference
