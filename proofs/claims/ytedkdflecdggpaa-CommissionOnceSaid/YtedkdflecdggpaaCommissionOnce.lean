/- The law CommissionOnce: a deficit is set off once at most; with no carrying, every profit earns its commission. No condition. -/
import Derived.Test.YtedkdflecdggpaaRows
import Derived.Test.YtedkdflecdggpaaRead
import Derived.Test.YtedkdflecdggpaaCoAw
import Derived.Test.YtedkdflecdggpaaCoOnce
import Derived.Test.YtedkdflecdggpaaCoYr
import Derived.Test.YtedkdflecdggpaaArgs
import Derived.WalkKit
import Derived.ProofKit
import Derived.OpenShut
import Derived.ShutString
import Derived.ChangeOld
import Derived.Below
namespace Go.Proofs.Ytedkdflecdggpaa.commissionOnce
open Go.ChangeShapes Go.WideShapes Go.ChangeAt Go.RowKit
set_option linter.unusedVariables false

theorem own : ownKnob Try.prog.godebug = none := by kernel_rfl
theorem laidOut : laidOutB Try.prog = true := by kernel_rfl

theorem perr_zero {n : Nat} {p l : Nat → Int} {x rt cr : Int} (hn : n ≤ 20) (h1 : Co.rateP x) (h2 : Co.rateP rt) (h3 : Co.carryP cr) (hy : ∀ j, j < n → Co.yearP p l j) : Co.perr n p l x rt cr = 0 := by
  rw [Co.perr, if_neg (by omega), if_neg (fun c => c ⟨h1, h2, h3⟩)]
  exact scan_fine _ _ _ fun j _ hj => if_pos (hy j (by omega))

set_option maxHeartbeats 4000000 in
set_option maxRecDepth 100000 in
theorem walk (v0 : Value) (w : World) (h0 : Rd23 w [v0]) :
    Calls Try.prog 6 #[v0] w fun e w' => e = .returned (.bool true) ∧ Below w.heap.size w w' := by
  obtain ⟨A, n, c, z, rfl, hn, _, _, hc, _⟩ := rd_ints h0
  have HC := Lib.hid hc
  clear h0 hc
  go_enter Try.func6, Try.ntmps6
  go_wp2_with fail
  refine (deck_new A n c z w hn HC.out).mono ?_
  rintro e w1 ⟨rfl, hb, hd⟩
  have HB := Lib.hid hb
  have HD := Lib.hid hd
  clear hb hd HC
  go_wp2_with fail
  refine (upto_any _ 1000000 _ HD.out (by omega) (by omega)).mono ?_
  rintro e w2 ⟨x, rfl, x0, x1, hk2, hd2⟩
  replace HB : Hid (Below w.heap.size w w2) := Lib.hid (HB.out.trans (hk2.below (by omega) HB.out.size))
  replace HD := Lib.hid hd2
  clear hk2 hd2
  go_wp2_with fail
  refine (upto_any _ 1000000 _ HD.out (by omega) (by omega)).mono ?_
  rintro e w3 ⟨rt, rfl, r0, r1, hk2, hd2⟩
  replace HB : Hid (Below w.heap.size w w3) := Lib.hid (HB.out.trans (hk2.below (by omega) HB.out.size))
  replace HD := Lib.hid hd2
  clear hk2 hd2
  go_wp2_with fail
  refine (years_any _ _ HD.out).mono ?_
  rintro e w4 ⟨A3, c3, ps, rfl, hl3, _, hp3, hps, hk2, hd2⟩
  replace HB : Hid (Below w.heap.size w w4) := Lib.hid (HB.out.trans (hk2.below (by omega) HB.out.size))
  have HP3 := Lib.hid hp3
  obtain ⟨p, hp⟩ : ∃ p, fstOf ps = p := ⟨_, rfl⟩
  obtain ⟨l, hl⟩ : ∃ p, sndOf ps = p := ⟨_, rfl⟩
  obtain ⟨m, hm⟩ : ∃ m, ps.length = m := ⟨_, rfl⟩
  have hyr : ∀ j, j < m → Co.yearP p l j := fun j hj => by
    have := hps _ (last_mem ps j (by omega))
    rw [hp, hl] at this
    simp only at this
    exact ⟨⟨this.1, by omega⟩, this.2.2.1, by omega⟩
  have HY := Lib.hid hyr
  rw [hp, hl, hm] at HP3
  rw [hm] at hl3 ⊢
  have hx : Co.rateP x := ⟨x0, x1⟩
  have hrt : Co.rateP rt := ⟨r0, r1⟩
  have HE1 := Lib.hid (perr_zero (cr := 20) (by omega) hx hrt ⟨by omega, by omega⟩ hyr)
  have HE2 := Lib.hid (perr_zero (cr := 0) (by omega) hx hrt ⟨by omega, by omega⟩ hyr)
  have C1 := Lib.hid (cprofit_any A3 m c3 p l x rt 20 w4 (by omega) HP3.out)
  have C2 : Hid (∀ W : World, Below w4.heap.size w4 W → Calls Try.prog 18 #[.slice A3 m c3, .int .i64 x, .int .i64 rt, .int .i64 0] W (ProfPost 0 m (Co.acct p l x rt 0) W)) := Lib.hid fun W hb => by
    have := cprofit_any A3 m c3 p l x rt 0 W (by omega) ((HP3.out.below hb).mono hb.size)
    rw [HE2.out] at this
    exact this
  rw [HE1.out, show (20 : Int).toNat = 20 from rfl] at C1
  clear hk2 hd2 hp3 HD hps hp hl hm hyr HE1 HE2 HP3
  go_wp2_with fail
  refine C1.out.mono ?_
  rintro e w5 ⟨X, mx, cx, rfl, hb, hmx, hqx⟩
  rw [if_pos rfl] at hmx
  subst hmx
  have HQX := Lib.hid (hqx rfl)
  have HB1 := Lib.hid hb
  clear hb hqx C1
  go_wp2_with fail
  refine (C2.out _ HB1.out).mono ?_
  rintro e w6 ⟨Y, my, cy, rfl, hb, hmy, hqy⟩
  rw [if_pos rfl] at hmy
  subst hmy
  have HQY := Lib.hid (hqy rfl)
  replace HQX := Lib.hid ((HQX.out.below hb).mono hb.size)
  replace HB : Hid (Below w.heap.size w w6) := Lib.hid (HB.out.trans ((HB1.out.trans (hb.mono HB1.out.size)).mono HB.out.size))
  clear hb hqy C2 HB1
  go_wp2_with fail
  go_loopw [11, 12] (fun op ix wq => ∃ j : Nat, j ≤ my ∧ ix = .int .i64 j ∧ op = .int .i64 (Co.brought p l x 20 j) ∧ ∃ q, wq = w6.drewN q) (fun _ ix _ => my - (intOf ix).toNat)
  case atStart => exact ⟨0, Nat.zero_le _, rfl, rfl, 0, rfl⟩
  case round =>
    obtain ⟨j, hj, rfl, rfl, q, rfl⟩ := hrel
    by_cases hlt : j < my
    · have hyj := HY.out j hlt
      obtain ⟨k1, k2, k3, k4, k5⟩ := Co.keep_all (p := p) (l := l) (x := x) (c := 20) (i := j) hx (by omega) fun t ht => HY.out t (by omega)
      obtain ⟨n1, n2, n3⟩ := Co.keep_none (p := p) (l := l) (x := x) j
      have hrb := Co.res_bound hyj hx
      obtain ⟨b, o, rfl, hbl, a0, a1, a2, a3⟩ := HQX.out.get (j := j) (by omega)
      obtain ⟨b', o', rfl, hbl', b0, b1, b2, b3⟩ := HQY.out.get (j := j) (by omega)
      rw [show Co.acct p l x rt 20 j 0 = Co.brought p l x 20 j from rfl] at a0
      rw [show Co.acct p l x rt 20 j 1 = Co.res p l x j from rfl] at a1
      rw [show Co.acct p l x rt 20 j 2 = Co.part (Co.left p l x 20 j) rt from rfl, k1] at a2
      rw [show Co.acct p l x rt 20 j 3 = Co.carried p l x 20 j from rfl, k2] at a3
      rw [show Co.acct p l x rt 0 j 0 = Co.brought p l x 0 j from rfl, n2] at b0
      rw [show Co.acct p l x rt 0 j 1 = Co.res p l x j from rfl] at b1
      rw [show Co.acct p l x rt 0 j 2 = Co.part (Co.left p l x 0 j) rt from rfl, n1] at b2
      rw [show Co.acct p l x rt 0 j 3 = Co.carried p l x 0 j from rfl, n3] at b3
      rw [k2] at k3
      obtain ⟨op, hop⟩ : ∃ t, Co.brought p l x 20 j = t := ⟨_, rfl⟩
      obtain ⟨r, hr⟩ : ∃ t, Co.res p l x j = t := ⟨_, rfl⟩
      obtain ⟨M, hM⟩ : ∃ t, max r 0 = t := ⟨_, rfl⟩
      obtain ⟨f, hf⟩ : ∃ t, min op M = t := ⟨_, rfl⟩
      obtain ⟨u, hu⟩ : ∃ t, max (-r) 0 = t := ⟨_, rfl⟩
      have hM' : max 0 r = M := by omega
      have hu' : max 0 (-r) = u := by omega
      rw [hop] at k3 k4 k5 a0 ⊢
      rw [hr] at hrb a1 b1
      rw [hop, hr, hM', hf] at a2 a3
      rw [hr, hM', hf, hu'] at k3
      rw [hu'] at a3
      rw [hr, hM'] at b2
      have HK3 := Lib.hid k3
      have C1 := Lib.hid (rshare_any (M - f) rt 4)
      have C2 := Lib.hid (rshare_any M rt 4)
      rw [(Co.part_md (a := M - f) ⟨by omega, by omega⟩ ⟨by omega, by omega⟩).1] at C1
      rw [(Co.part_md (a := M) ⟨by omega, by omega⟩ ⟨by omega, by omega⟩).1] at C2
      obtain ⟨z2, hz2⟩ : ∃ t, Co.part (M - f) rt = t := ⟨_, rfl⟩
      obtain ⟨y2, hy2⟩ : ∃ t, Co.part M rt = t := ⟨_, rfl⟩
      rw [hz2] at C1 a2
      rw [hy2] at C2 b2
      have g1 : 0 ≤ M ∧ M ≤ 68719476736 ∧ 0 ≤ f ∧ f ≤ M ∧ f ≤ op ∧ 0 ≤ u ∧ u ≤ 68719476736 ∧ op ≤ 549755813888 := by omega
      obtain ⟨g1, g2, g3, g4, g5, g6, g7, g8⟩ := g1
      have hj0 : (0 : Int) ≤ j := by omega
      have hj1 : (j : Int) < my := by omega
      clear hop hr hM' hu' hz2 hy2 k1 k2 k3 k5 n1 n2 n3 hyj
      go_wp2_with fail
      refine (C1.out _).mono ?_
      rintro e w7 ⟨rfl, q1, rfl⟩
      go_wp2_with fail
      refine (C2.out _).mono ?_
      rintro e w7 ⟨rfl, q2, rfl⟩
      go_wp2_with fail
      go_roundw
      case rel => exact ⟨j + 1, by omega, by go_num, by rw [HK3.out], _, by first | rfl | (rw [World.drewN_drewN, World.drewN_drewN]) | exact World.drewN_drewN _ _ _⟩
      case measure => simp [intOf]; omega
    · obtain rfl : j = my := by omega
      go_wp2_with (first | (go_at_call 11; refine (awake24_any _).mono ?_; rintro e w99 ⟨rfl, hb99⟩))
      go_ret
      exact ⟨rfl, (below_drewN HB.out _).trans (hb99.mono HB.out.size)⟩

set_option maxRecDepth 100000 in
theorem lifted (os : Os) (started : os.Started) (H : Type) (enc : TypeId × Value → H) :
    ReturnsInHanded {} Try.checked os 6 .any (Rows.commissionOnceSpec.pre6 enc Try.prog Try.f6 Rows.commissionOnceRow.domain false) (Rows.commissionOnceSpec.post enc Try.prog Try.f6 false true false false) := by
  refine returnsInHanded_of_change (C := Try.checked) own started (by kernel_rfl) Try.func6
    (ChangeSpec.witness6 (enc := enc) (C := Try.checked) false ⟨#[], #[.slice none 0 0], []⟩ 8 (by kernel_rfl) (by kernel_rfl) (by kernel_rfl) (by kernel_rfl)) ?_
  intro W base args ds gs before hval0 hW hcnd _
  have hval : ∀ (j : Nat) t v, Try.f6.params[j]? = some t → args[j]? = some v → Value.okWide Try.prog W .any base t v := hval0
  have hW' := hW
  obtain ⟨p, q, hA0, hV, rfl, hfz, hnd⟩ := hW
  have hA : DataW.TrodAll enc Try.prog W 0 (fun _ => true) true Try.f6.params.toList args.toList ds p := hA0
  rw [Try.params6] at hA hval
  obtain ⟨v0, vs0, d0, ds0, p0, q0, hargs, rfl, rfl, h0, r0⟩ := trodAll_cons hA
  obtain ⟨rfl, rfl, rfl⟩ := trodAll_nil r0
  obtain rfl : args = #[v0] := by cases args; simp_all
  obtain ⟨rfl, rfl⟩ := trodVars_none hV
  have k0 := h0
  have lt0 : ∀ x ∈ p0, x.block < W.heap.size := by obtain ⟨m, hm⟩ := k0; exact DataW.trod_lt m _ _ _ hm
  obtain ⟨a0, len0, cap0, rfl⟩ := okWide_slice Try.underlying23 (hval 0 23 v0 rfl rfl)
  have r100 : Rd23 W [.slice a0 len0 cap0] := by obtain ⟨fuel, hf⟩ := h0; exact rd23 hf
  clear hA0 hval0
  refine (walk _ W r100).mono fun e W' ⟨he, bel⟩ => ?_
  subst he
  exact ⟨_, rfl, _, _, _, [], _, [], hW', trodAll_mk1 (shut_bool Try.underlying4 _), (trodAll_cons_mk (Below.trod laidOut (by kernel_rfl) (of_decide_eq_true (by kernel_rfl)) k0 bel lt0) trodAll_mk0), rfl, bel.frame _, fun h => by cases h⟩

theorem over : Rows.commissionOnceRow.holds Try.pinned (OpenSpec.ofChange Rows.commissionOnceSpec) :=
  OpenClaim.holds_of_wide 6 Try.f6 rfl rfl rfl rfl rfl rfl rfl ⟨rfl, rfl, rfl, rfl, rfl⟩ rfl rfl rfl rfl rfl (by kernel_rfl) Try.func6 (by kernel_rfl)
    (of_decide_eq_true (by kernel_rfl)) (by unfold Func.isWrapper; first | (rw [if_pos (by decide +kernel)]; kernel_rfl) | (rw [if_neg (by decide +kernel)]; exact ⟨rfl, rfl⟩))
    (fun os started H enc _ => lifted os started H enc)

/-- the statement -/
theorem proved : Rows.CommissionOnceSaid := over
#print axioms proved
end Go.Proofs.Ytedkdflecdggpaa.commissionOnce
