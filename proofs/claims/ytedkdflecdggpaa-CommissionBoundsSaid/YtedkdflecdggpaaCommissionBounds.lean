/- The law CommissionBounds: a swing-rated premium lies between its least and its greatest one and never falls with the losses, and a corridor never takes more than its width, nor more than the losses. No condition. -/
import Derived.Test.YtedkdflecdggpaaRows
import Derived.Test.YtedkdflecdggpaaRead
import Derived.Test.YtedkdflecdggpaaCoAw
import Derived.Test.YtedkdflecdggpaaCoR
import Derived.Test.YtedkdflecdggpaaCoYr
import Derived.Test.YtedkdflecdggpaaArgs
import Derived.WalkKit
import Derived.ProofKit
import Derived.OpenShut
import Derived.ShutString
import Derived.ChangeOld
import Derived.Below
namespace Go.Proofs.Ytedkdflecdggpaa.commissionBounds
open Go.ChangeShapes Go.WideShapes Go.ChangeAt Go.RowKit
set_option linter.unusedVariables false

theorem own : ownKnob Try.prog.godebug = none := by kernel_rfl
theorem laidOut : laidOutB Try.prog = true := by kernel_rfl

theorem bnd_zero {low high p l : Int} (hp : Co.lossP p) (hl : Co.lossP l) (h1 : Co.loadP low) (h2 : Co.loadP high) (h : low ≤ high) : Co.bnd low high p l = 0 := by
  rw [Co.bnd, if_neg (fun c => c ⟨hp, hl, h1, h2⟩), if_neg (by omega)]
theorem swing_val {low high load p l : Int} (hp : Co.lossP p) (hl : Co.lossP l) (h1 : Co.loadP low) (h2 : Co.loadP high) (h3 : Co.loadP load) (h : low ≤ high) : Co.swing low high load p l = (min (max (Co.part l load) (Co.part p low)) (Co.part p high), 0) := by
  rw [Co.swing, if_neg (fun c => c h3), if_neg (by rw [bnd_zero hp hl h1 h2 h]; simp)]
theorem corr_val {low high p l : Int} (hp : Co.lossP p) (hl : Co.lossP l) (h1 : Co.loadP low) (h2 : Co.loadP high) (h : low ≤ high) : Co.corr low high p l = (Ex.layer l (Co.part p low) (Co.part p high - Co.part p low), 0) := by
  rw [Co.corr, if_neg (by rw [bnd_zero hp hl h1 h2 h]; simp)]
theorem lay_val {a r l : Int} (a0 : 0 ≤ a) (a1 : a ≤ 17592186044416) (r0 : 0 ≤ r) (r1 : r ≤ 17592186044416) (l0 : 0 ≤ l) (l1 : l ≤ 17592186044416) : Ex.layer a r l = min l (max 0 (a - r)) := by
  unfold Ex.layer Ex.lim
  omega

set_option maxHeartbeats 4000000 in
set_option maxRecDepth 100000 in
theorem walk (v0 : Value) (v1 : Value) (w : World) (h0 : Rd23 w [v0]) (h1 : Rd3 w [v1]) :
    Calls Try.prog 8 #[v0, v1] w fun e w' => e = .returned (.bool true) ∧ Below w.heap.size w w' := by
  obtain ⟨A, n, c, z, rfl, hn, _, _, hc, _⟩ := rd_ints h0
  obtain ⟨more, rfl, _, _⟩ := rd_i64 h1
  have HC := Lib.hid hc
  clear h0 h1 hc
  go_enter Try.func8, Try.ntmps8
  go_wp2_with fail
  refine (deck_new A n c z w hn HC.out).mono ?_
  rintro e w1 ⟨rfl, hb, hd⟩
  have HB := Lib.hid hb
  have HD := Lib.hid hd
  clear hb hd HC
  go_wp2_with fail
  refine (upto_any _ 68719476736 _ HD.out (by omega) (by omega)).mono ?_
  rintro e w2 ⟨p, rfl, p0, p1, hk2, hd2⟩
  replace HB : Hid (Below w.heap.size w w2) := Lib.hid (HB.out.trans (hk2.below (by omega) HB.out.size))
  replace HD := Lib.hid hd2
  clear hk2 hd2
  go_wp2_with fail
  refine (upto_any _ 68719476736 _ HD.out (by omega) (by omega)).mono ?_
  rintro e w3 ⟨q, rfl, q0, q1, hk2, hd2⟩
  replace HB : Hid (Below w.heap.size w w3) := Lib.hid (HB.out.trans (hk2.below (by omega) HB.out.size))
  replace HD := Lib.hid hd2
  clear hk2 hd2
  go_wp2_with fail
  refine (upto_any _ 2000000 _ HD.out (by omega) (by omega)).mono ?_
  rintro e w4 ⟨x, rfl, x0, x1, hk2, hd2⟩
  replace HB : Hid (Below w.heap.size w w4) := Lib.hid (HB.out.trans (hk2.below (by omega) HB.out.size))
  replace HD := Lib.hid hd2
  clear hk2 hd2
  go_wp2_with fail
  refine (upto_any _ 2000000 _ HD.out (by omega) (by omega)).mono ?_
  rintro e w5 ⟨y, rfl, y0, y1, hk2, hd2⟩
  replace HB : Hid (Below w.heap.size w w5) := Lib.hid (HB.out.trans (hk2.below (by omega) HB.out.size))
  replace HD := Lib.hid hd2
  clear hk2 hd2
  go_wp2_with fail
  refine (upto_any _ 3000000 _ HD.out (by omega) (by omega)).mono ?_
  rintro e w6 ⟨ld, rfl, ld0, ld1, hk2, hd2⟩
  replace HB : Hid (Below w.heap.size w w6) := Lib.hid (HB.out.trans (hk2.below (by omega) HB.out.size))
  clear hk2 hd2 HD
  obtain ⟨lo, hlo⟩ : ∃ m, min x y = m := ⟨_, rfl⟩
  obtain ⟨hi, hhi⟩ : ∃ m, max x y = m := ⟨_, rfl⟩
  have hlh : 0 ≤ lo ∧ lo ≤ hi ∧ hi ≤ 2000000 := by omega
  obtain ⟨lo0, lohi, hi1⟩ := hlh
  obtain ⟨d, hd⟩ : ∃ d, Am.within more (68719476736 - q + 1) = d := ⟨_, rfl⟩
  have hdb := Am.within_bound more (68719476736 - q + 1) (by omega)
  rw [hd] at hdb
  obtain ⟨d0, d1⟩ := hdb
  have HW := Lib.hid hd
  have hp : Co.lossP p := ⟨p0, p1⟩
  have hq : Co.lossP q := ⟨q0, q1⟩
  have hk : Co.lossP (q + d) := ⟨by omega, by omega⟩
  have hl1 : Co.loadP lo := ⟨by omega, by omega⟩
  have hl2 : Co.loadP hi := ⟨by omega, by omega⟩
  have hl3 : Co.loadP ld := ⟨by omega, by omega⟩
  have C1 := Lib.hid (swing_any lo hi ld p q)
  have C2 := Lib.hid (swing_any lo hi ld p (q + d))
  have C3 := Lib.hid (corr_any lo hi p q)
  have C4 := Lib.hid (corr_any lo hi p (q + d))
  have C5 := Lib.hid (rshare_any p lo 4)
  have C6 := Lib.hid (rshare_any p hi 4)
  rw [swing_val hp hq hl1 hl2 hl3 lohi] at C1
  rw [swing_val hp hk hl1 hl2 hl3 lohi] at C2
  rw [corr_val hp hq hl1 hl2 lohi] at C3
  rw [corr_val hp hk hl1 hl2 lohi] at C4
  obtain ⟨m1, a0, a1⟩ := Co.part_md hp hl1
  obtain ⟨m2, b0, b1⟩ := Co.part_md hp hl2
  rw [m1] at C5
  rw [m2] at C6
  have hm1 := Co.part_mono2 (a := p) lohi p0
  have hm2 := Co.part_mono (a := q) (b := q + d) (by omega) ld0
  obtain ⟨t1, ht1⟩ : ∃ t, Co.part q ld = t := ⟨_, rfl⟩
  obtain ⟨t2, ht2⟩ : ∃ t, Co.part (q + d) ld = t := ⟨_, rfl⟩
  obtain ⟨lst, hlst⟩ : ∃ t, Co.part p lo = t := ⟨_, rfl⟩
  obtain ⟨mst, hmst⟩ : ∃ t, Co.part p hi = t := ⟨_, rfl⟩
  rw [ht1, hlst, hmst] at C1
  rw [ht2, hlst, hmst] at C2
  rw [hlst, hmst] at C3 C4 hm1
  rw [hlst] at C5 a0 a1
  rw [hmst] at C6 b0 b1
  rw [ht1, ht2] at hm2
  rw [lay_val (by omega) (by omega) (by omega) (by omega) (by omega) (by omega)] at C3 C4
  obtain ⟨va, hva⟩ : ∃ t, min (max t1 lst) mst = t := ⟨_, rfl⟩
  obtain ⟨vb, hvb⟩ : ∃ t, min (max t2 lst) mst = t := ⟨_, rfl⟩
  obtain ⟨vc, hvc⟩ : ∃ t, min (mst - lst) (max 0 (q - lst)) = t := ⟨_, rfl⟩
  obtain ⟨vx, hvx⟩ : ∃ t, min (mst - lst) (max 0 (q + d - lst)) = t := ⟨_, rfl⟩
  rw [hva] at C1
  rw [hvb] at C2
  rw [hvc] at C3
  rw [hvx] at C4
  have f1 : lst ≤ va ∧ va ≤ mst ∧ va ≤ vb ∧ 0 ≤ vc ∧ vc ≤ q ∧ vc ≤ mst - lst ∧ vc ≤ vx := by omega
  obtain ⟨f1, f2, f3, f4, f5, f6, f7⟩ := f1
  have hb1 : lst ≤ 687194767360 := by omega
  have hb2 : mst ≤ 687194767360 := by omega
  clear hva hvb hvc hvx ht1 ht2 hlst hmst hm2 m1 m2 hp hq hk hl1 hl2 hl3 hd a1 b1
  go_wp2_with fail
  refine (within_any _ _ _ (by omega) (by omega)).mono ?_
  rintro e w' ⟨rfl, rfl⟩
  rw [HW.out]
  go_wp2_with fail
  refine (C1.out _).mono ?_
  rintro e w7 ⟨rfl, n1, rfl⟩
  go_wp2_with fail
  refine (C2.out _).mono ?_
  rintro e w7 ⟨rfl, n2, rfl⟩
  go_wp2_with fail
  refine (C3.out _).mono ?_
  rintro e w7 ⟨rfl, hb⟩
  replace HB : Hid (Below w.heap.size w w7) := Lib.hid ((by (repeat' (first | (with_reducible exact HB.out) | (with_reducible refine below_drewN ?_ _) | (with_reducible refine Below.drew ?_))) : Below w.heap.size w _).trans (hb.mono HB.out.size))
  clear hb
  go_wp2_with fail
  refine (C4.out _).mono ?_
  rintro e w8 ⟨rfl, hb⟩
  replace HB : Hid (Below w.heap.size w w8) := Lib.hid (HB.out.trans (hb.mono HB.out.size))
  clear hb
  go_wp2_with fail
  refine (C5.out _).mono ?_
  rintro e w9 ⟨rfl, n3, rfl⟩
  go_wp2_with fail
  refine (C6.out _).mono ?_
  rintro e w9 ⟨rfl, n4, rfl⟩
  clear C1 C2 C3 C4 C5 C6
  go_wp2_with (first | (go_at_call 11; refine (awake24_any _).mono ?_; rintro e w99 ⟨rfl, hb99⟩))
  go_ret
  exact ⟨rfl, (by (repeat' (first | (with_reducible exact HB.out) | (with_reducible refine below_drewN ?_ _) | (with_reducible refine Below.drew ?_))) : Below w.heap.size w _).trans (hb99.mono HB.out.size)⟩

set_option maxRecDepth 100000 in
theorem lifted (os : Os) (started : os.Started) (H : Type) (enc : TypeId × Value → H) :
    ReturnsInHanded {} Try.checked os 8 .any (Rows.commissionBoundsSpec.pre6 enc Try.prog Try.f8 Rows.commissionBoundsRow.domain false) (Rows.commissionBoundsSpec.post enc Try.prog Try.f8 false true false false) := by
  refine returnsInHanded_of_change (C := Try.checked) own started (by kernel_rfl) Try.func8
    (ChangeSpec.witness6 (enc := enc) (C := Try.checked) false ⟨#[], #[.slice none 0 0, .int .i64 0], []⟩ 8 (by kernel_rfl) (by kernel_rfl) (by kernel_rfl) (by kernel_rfl)) ?_
  intro W base args ds gs before hval0 hW hcnd _
  have hval : ∀ (j : Nat) t v, Try.f8.params[j]? = some t → args[j]? = some v → Value.okWide Try.prog W .any base t v := hval0
  have hW' := hW
  obtain ⟨p, q, hA0, hV, rfl, hfz, hnd⟩ := hW
  have hA : DataW.TrodAll enc Try.prog W 0 (fun _ => true) true Try.f8.params.toList args.toList ds p := hA0
  rw [Try.params8] at hA hval
  obtain ⟨v0, vs0, d0, ds0, p0, q0, hargs, rfl, rfl, h0, r0⟩ := trodAll_cons hA
  obtain ⟨v1, vs1, d1, ds1, p1, q1, rfl, rfl, rfl, h1, r1⟩ := trodAll_cons r0
  obtain ⟨rfl, rfl, rfl⟩ := trodAll_nil r1
  obtain rfl : args = #[v0, v1] := by cases args; simp_all
  obtain ⟨rfl, rfl⟩ := trodVars_none hV
  have k0 := h0
  have lt0 : ∀ x ∈ p0, x.block < W.heap.size := by obtain ⟨m, hm⟩ := k0; exact DataW.trod_lt m _ _ _ hm
  obtain ⟨a0, len0, cap0, rfl⟩ := okWide_slice Try.underlying23 (hval 0 23 v0 rfl rfl)
  have r100 : Rd23 W [.slice a0 len0 cap0] := by obtain ⟨fuel, hf⟩ := h0; exact rd23 hf
  have k1 := h1
  have lt1 : ∀ x ∈ p1, x.block < W.heap.size := by obtain ⟨m, hm⟩ := k1; exact DataW.trod_lt m _ _ _ hm
  obtain ⟨a1, rfl⟩ := okWide_int Try.underlying3 (hval 1 3 v1 rfl rfl)
  have r101 : Rd3 W [.int .i64 a1] := by obtain ⟨fuel, hf⟩ := h1; exact rd3 hf
  clear hA0 hval0
  refine (walk _ _ W r100 r101).mono fun e W' ⟨he, bel⟩ => ?_
  subst he
  exact ⟨_, rfl, _, _, _, [], _, [], hW', trodAll_mk1 (shut_bool Try.underlying4 _), (trodAll_cons_mk (Below.trod laidOut (by kernel_rfl) (of_decide_eq_true (by kernel_rfl)) k0 bel lt0) (trodAll_cons_mk (Below.trod laidOut (by kernel_rfl) (of_decide_eq_true (by kernel_rfl)) k1 bel lt1) trodAll_mk0)), rfl, bel.frame _, fun h => by cases h⟩

theorem over : Rows.commissionBoundsRow.holds Try.pinned (OpenSpec.ofChange Rows.commissionBoundsSpec) :=
  OpenClaim.holds_of_wide 8 Try.f8 rfl rfl rfl rfl rfl rfl rfl ⟨rfl, rfl, rfl, rfl, rfl⟩ rfl rfl rfl rfl rfl (by kernel_rfl) Try.func8 (by kernel_rfl)
    (of_decide_eq_true (by kernel_rfl)) (by unfold Func.isWrapper; first | (rw [if_pos (by decide +kernel)]; kernel_rfl) | (rw [if_neg (by decide +kernel)]; exact ⟨rfl, rfl⟩))
    (fun os started H enc _ => lifted os started H enc)

/-- the statement -/
theorem proved : Rows.CommissionBoundsSaid := over
#print axioms proved
end Go.Proofs.Ytedkdflecdggpaa.commissionBounds
