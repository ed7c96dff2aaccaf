/- The law CommissionBetween: the rate at a point of a scale is that of the point, between two points it lies between their rates, and it goes only in one direction there. No condition. -/
import Derived.Test.YtedkdflecdggpaaRows
import Derived.Test.YtedkdflecdggpaaRead
import Derived.Test.YtedkdflecdggpaaCoAw
import Derived.Test.YtedkdflecdggpaaCoBtw
import Derived.Test.YtedkdflecdggpaaCoYr
import Derived.Test.YtedkdflecdggpaaArgs
import Derived.Deep.RegionHeld3
import Derived.Deep.CutBlock
import Derived.WalkKit
import Derived.ProofKit
import Derived.OpenShut
import Derived.ShutString
import Derived.ChangeOld
import Derived.Below
namespace Go.Proofs.Ytedkdflecdggpaa.commissionBetween
open Go.ChangeShapes Go.WideShapes Go.ChangeAt Go.RowKit
set_option linter.unusedVariables false

theorem own : ownKnob Try.prog.godebug = none := by kernel_rfl
theorem laidOut : laidOutB Try.prog = true := by kernel_rfl

theorem rerr_zero {n : Nat} {f g : Nat → Int} (h1 : 1 ≤ n) (h2 : n ≤ 8) (hs : ∀ i, i < n → Co.stepP (f i) (g i)) (ho : ∀ i, 0 < i → i < n → f (i - 1) < f i) : Co.rerr n f g = 0 := by
  rw [Co.rerr, if_neg (by omega), if_neg (by omega)]
  exact scan_fine _ _ _ fun j _ hj => by rw [Co.rc, if_neg (fun c => c (hs j (by omega))), if_neg (fun c => by have := ho j c.1 (by omega); omega)]

set_option maxHeartbeats 4000000 in
set_option maxRecDepth 100000 in
theorem walk (v0 : Value) (v1 : Value) (v2 : Value) (v3 : Value) (w : World) (h0 : Rd23 w [v0]) (h1 : Rd3 w [v1]) (h2 : Rd3 w [v2]) (h3 : Rd3 w [v3]) :
    Calls Try.prog 4 #[v0, v1, v2, v3] w fun e w' => e = .returned (.bool true) ∧ Below w.heap.size w w' := by
  obtain ⟨A, n, c, z, rfl, hn, _, _, hc, _⟩ := rd_ints h0
  obtain ⟨at', rfl, _, _⟩ := rd_i64 h1
  obtain ⟨a, rfl, _, _⟩ := rd_i64 h2
  obtain ⟨b, rfl, _, _⟩ := rd_i64 h3
  have HC := Lib.hid hc
  clear h0 h1 h2 h3 hc
  go_enter Try.func4, Try.ntmps4
  go_wp2_with fail
  refine (deck_new A n c z w hn HC.out).mono ?_
  rintro e w1 ⟨rfl, hb, hd⟩
  have HB := Lib.hid hb
  have HD := Lib.hid hd
  clear hb hd HC
  go_wp2_with fail
  refine (scale_any _ _ HD.out).mono ?_
  rintro e w2 ⟨g3, c3, ps, rfl, hl3, hl3', hc3, hg3, hg3', hp3, hps, hord, hk2, hd2⟩
  replace HB : Hid (Below w.heap.size w w2) := Lib.hid (HB.out.trans (hk2.below (by omega) HB.out.size))
  have HP := Lib.hid hp3
  have hst : ∀ j, j < ps.length → Co.stepP (fstOf ps j) (sndOf ps j) := fun j hj => by
    have := hps _ (last_mem ps j hj)
    simp only at this
    exact ⟨⟨this.1, by omega⟩, this.2.2.1, this.2.2.2⟩
  have HE := Lib.hid (rerr_zero hl3 hl3' hst hord)
  obtain ⟨f, hf⟩ : ∃ f, fstOf ps = f := ⟨_, rfl⟩
  obtain ⟨g, hg⟩ : ∃ f, sndOf ps = f := ⟨_, rfl⟩
  obtain ⟨m, hm⟩ : ∃ m, ps.length = m := ⟨_, rfl⟩
  rw [hf, hg, hm] at HP HE
  rw [hf, hg, hm] at hst
  rw [hf, hm] at hord
  rw [hm] at hl3 hl3' hc3 ⊢
  have HST := Lib.hid hst
  have HORD := Lib.hid hord
  clear hk2 hd2 hp3 HD hps hord hst hf hg hm
  obtain ⟨k, hk⟩ : ∃ k : Nat, Am.within at' m = k := ⟨(Am.within at' m).toNat, by have := Am.within_bound at' m (by omega); omega⟩
  have hkm : k < m := by have := Am.within_bound at' m (by omega); omega
  have HW := Lib.hid hk
  clear hk
  have hk0 : (0 : Int) ≤ k := by omega
  have hk1 : (k : Int) < m := by omega
  obtain ⟨b1, o1, e1, hbl, hc0, hc1⟩ := HP.out.get hkm
  simp only [Option.some.injEq, Addr.mk.injEq, and_true] at e1
  obtain ⟨rfl, rfl⟩ := e1
  rw [Nat.zero_add] at hc0 hc1
  obtain ⟨⟨x0, x1⟩, x2, x3⟩ := HST.out k hkm
  have C1 := Lib.hid (crate_any (some ⟨g3, 0, none⟩) m c3 f g (f k) w2 (by omega) hc3 HP.out)
  rw [Co.rate_at HE.out hkm] at C1
  obtain ⟨fk, hfk⟩ : ∃ t, f k = t := ⟨_, rfl⟩
  obtain ⟨gk, hgk⟩ : ∃ t, g k = t := ⟨_, rfl⟩
  rw [hfk] at hc0 C1 x0 x1
  rw [hgk] at hc1 C1 x2 x3
  have HFK := Lib.hid hfk
  have HGK := Lib.hid hgk
  clear hfk hgk
  go_wp2_with fail
  refine (within_any _ _ _ (by omega) (by omega)).mono ?_
  rintro e w' ⟨rfl, rfl⟩
  rw [HW.out]
  go_wp2_with fail
  refine C1.out.mono ?_
  rintro e w3 ⟨rfl, hb⟩
  replace HB : Hid (Below w.heap.size w w3) := Lib.hid (HB.out.trans (hb.mono HB.out.size))
  replace HP := Lib.hid ((HP.out.below hb).mono hb.size)
  clear hb C1 hc0 hc1 hbl
  obtain ⟨b1, o1, e1, hbl, hc0, hc1⟩ := HP.out.get hkm
  simp only [Option.some.injEq, Addr.mk.injEq, and_true] at e1
  obtain ⟨rfl, rfl⟩ := e1
  rw [Nat.zero_add] at hc0 hc1
  rw [HFK.out] at hc0
  rw [HGK.out] at hc1
  obtain ⟨k1, hk1'⟩ : ∃ k1 : Nat, k + 1 = k1 := ⟨_, rfl⟩
  have hkk : (k : Int) + 1 = (k1 : Int) := by omega
  have hkw : IntKind.i64.wrap ((k : Int) + 1) = (k1 : Int) := by rw [IntKind.wrap_i64]; omega
  by_cases hlast : k1 = m
  · have h1 : ((k1 : Int) == (m : Int)) = true := by rw [beq_iff_eq]; omega
    have h2 : (k1 == m) = true := by rw [beq_iff_eq]; exact hlast
    go_wp2_with (first | (go_at_call 11; refine (awake24_any _).mono ?_; rintro e w99 ⟨rfl, hb99⟩))
    go_ret
    exact ⟨rfl, HB.out.trans (hb99.mono HB.out.size)⟩
  · have h1 : ((k1 : Int) == (m : Int)) = false := by rw [beq_eq_false_iff_ne]; omega
    have h2 : (k1 == m) = false := by rw [beq_eq_false_iff_ne]; exact hlast
    have hk1m : k1 < m := by omega
    obtain ⟨b1, o1, e1, _, hd0, hd1⟩ := HP.out.get hk1m
    simp only [Option.some.injEq, Addr.mk.injEq, and_true] at e1
    obtain ⟨rfl, rfl⟩ := e1
    rw [Nat.zero_add] at hd0 hd1
    obtain ⟨⟨y0, y1⟩, y2, y3⟩ := HST.out k1 hk1m
    have hlt := HORD.out k1 (by omega) hk1m
    rw [show k1 - 1 = k by omega, HFK.out] at hlt
    have hbt := fun (x y : Int) => Co.rate_between (k := k) (x := x) (y := y) HE.out (by omega)
    rw [hk1', HFK.out, HGK.out] at hbt
    obtain ⟨fk1, hfk1⟩ : ∃ t, f k1 = t := ⟨_, rfl⟩
    obtain ⟨gk1, hgk1⟩ : ∃ t, g k1 = t := ⟨_, rfl⟩
    rw [hfk1] at hd0 y0 y1 hlt hbt
    rw [hgk1] at hd1 y2 y3 hbt
    obtain ⟨D, hD⟩ : ∃ D, fk1 - fk + 1 = D := ⟨_, rfl⟩
    have hD0 : 1 ≤ D := by omega
    have hD1 : D ≤ 100000001 := by omega
    have hda := Am.within_bound a D (by omega)
    have hdb := Am.within_bound b D (by omega)
    obtain ⟨xa, hxa⟩ : ∃ t, fk + Am.within a D = t := ⟨_, rfl⟩
    obtain ⟨xb, hxb⟩ : ∃ t, fk + Am.within b D = t := ⟨_, rfl⟩
    obtain ⟨x, hx⟩ : ∃ t, min xa xb = t := ⟨_, rfl⟩
    obtain ⟨y, hy⟩ : ∃ t, max xa xb = t := ⟨_, rfl⟩
    obtain ⟨p, q, hp, hq, hup, hdn⟩ := hbt x y (by omega) (by omega) (by omega)
    have HUP := Lib.hid hup
    have HDN := Lib.hid hdn
    have CX : Hid (∀ W : World, Below w3.heap.size w3 W → Calls Try.prog 12 #[.slice (some ⟨g3, 0, none⟩) m c3, .int .i64 x] W (PairPost (p, 0) W)) := Lib.hid fun W hb => by
      have := crate_any (some ⟨g3, 0, none⟩) m c3 f g x W (by omega) hc3 ((HP.out.below hb).mono hb.size)
      rw [hp] at this
      exact this
    have C3 : Hid (∀ W : World, Below w3.heap.size w3 W → Calls Try.prog 12 #[.slice (some ⟨g3, 0, none⟩) m c3, .int .i64 y] W (PairPost (q, 0) W)) := Lib.hid fun W hb => by
      have := crate_any (some ⟨g3, 0, none⟩) m c3 f g y W (by omega) hc3 ((HP.out.below hb).mono hb.size)
      rw [hq] at this
      exact this
    have hw1 : IntKind.i64.wrap (fk1 - fk) = fk1 - fk := by rw [IntKind.wrap_i64]; omega
    have hw2 : IntKind.i64.wrap (fk1 - fk + 1) = D := by rw [IntKind.wrap_i64]; omega
    have hw3 : IntKind.i64.wrap (fk + Am.within a D) = xa := by rw [IntKind.wrap_i64]; omega
    have hw4 : IntKind.i64.wrap (fk + Am.within b D) = xb := by rw [IntKind.wrap_i64]; omega
    have hk10 : (0 : Int) ≤ k1 := by omega
    have hk11 : (k1 : Int) < m := by omega
    have HFK1 := Lib.hid hfk1
    have HGK1 := Lib.hid hgk1
    clear hbt hup hdn hp hq hda hdb hD hxa hxb hfk1 hgk1 hlt
    go_wp2_with fail
    go_quiet (fail)
    go_upto_region 9 with (fail)
    obtain ⟨W, hW⟩ : ∃ W, w3.drewN nq = W := ⟨_, rfl⟩
    have C2 : Hid (∀ V : World, Below w3.heap.size w3 V → Calls Try.prog 12 #[.slice (some ⟨g3, 0, none⟩) m c3, .int .i64 x] V (PairPost (p, 0) V)) := CX
    have HBW : Hid (Below w3.heap.size w3 W) := Lib.hid (by rw [← hW]; exact below_drewN (Below.refl _ _) _)
    replace hc0 : W.cell? ⟨g3, k * 2, none⟩ = some (.int .i64 fk) := by rw [← hW]; exact hc0
    rw [hW]
    clear hW hd0 hd1 hc1 hw1 hw2
    go_cut [14, 15] (fun u v wx => u = .int .i64 xa ∧ v = .int .i64 xb ∧ Hid (Below w3.heap.size w3 wx))
    case first =>
      go_region_held3 (fun w' => w'.cell? ⟨g3, k * 2, none⟩ = some (.int .i64 fk)) (go_keep) (first
        | (go_at_call 17; refine (within_any _ _ _ (by omega) (by omega)).mono ?_; rintro e w' ⟨rfl, rfl⟩))
      all_goals
        go_wp2_with fail
        go_meet
        case rel => exact ⟨rfl, rfl, Lib.hid (HBW.out.trans (below_drewN (Below.refl _ _) 1 |>.mono HBW.out.size))⟩
    case rest =>
      obtain ⟨rfl, rfl, HV⟩ := hcut
      clear HBW hc0 hw3 hw4
      go_wp2_with fail
      refine (C2.out _ HV.out).mono ?_
      rintro e w4 ⟨rfl, hb⟩
      replace HV := Lib.hid (HV.out.trans (hb.mono HV.out.size))
      clear hb C2
      go_wp2_with fail
      refine (C3.out _ HV.out).mono ?_
      rintro e w5 ⟨rfl, hb⟩
      replace HV : Hid (Below w3.heap.size w3 w5) := Lib.hid (HV.out.trans (hb.mono HV.out.size))
      clear hb C3
      replace HB : Hid (Below w.heap.size w w5) := Lib.hid (HB.out.trans (HV.out.mono HB.out.size))
      replace HP := Lib.hid ((HP.out.below HV.out).mono HV.out.size)
      obtain ⟨b1, o1, e1, _, hc0, hc1⟩ := HP.out.get hkm
      simp only [Option.some.injEq, Addr.mk.injEq, and_true] at e1
      obtain ⟨rfl, rfl⟩ := e1
      obtain ⟨b1, o1, e1, _, hd0, hd1⟩ := HP.out.get hk1m
      simp only [Option.some.injEq, Addr.mk.injEq, and_true] at e1
      obtain ⟨rfl, rfl⟩ := e1
      rw [Nat.zero_add] at hc0 hc1 hd0 hd1
      rw [HFK.out] at hc0
      rw [HGK.out] at hc1
      rw [HFK1.out] at hd0
      rw [HGK1.out] at hd1
      by_cases hle : gk ≤ gk1
      · obtain ⟨u1, u2, u3⟩ := HUP.out hle
        go_wp2_with fail
        go_quiet (fail)
        go_wp2_with (first | (go_at_call 11; refine (awake24_any _).mono ?_; rintro e w99 ⟨rfl, hb99⟩))
        go_ret
        exact ⟨rfl, (below_drewN HB.out _).trans (hb99.mono HB.out.size)⟩
      · obtain ⟨u1, u2, u3⟩ := HDN.out (by omega)
        have hle2 : decide (gk ≤ gk1) = false := decide_eq_false hle
        go_wp2_with fail
        go_quiet (fail)
        go_wp2_with (first | (go_at_call 11; refine (awake24_any _).mono ?_; rintro e w99 ⟨rfl, hb99⟩))
        go_ret
        exact ⟨rfl, (below_drewN HB.out _).trans (hb99.mono HB.out.size)⟩

set_option maxRecDepth 100000 in
theorem lifted (os : Os) (started : os.Started) (H : Type) (enc : TypeId × Value → H) :
    ReturnsInHanded {} Try.checked os 4 .any (Rows.commissionBetweenSpec.pre6 enc Try.prog Try.f4 Rows.commissionBetweenRow.domain false) (Rows.commissionBetweenSpec.post enc Try.prog Try.f4 false true false false) := by
  refine returnsInHanded_of_change (C := Try.checked) own started (by kernel_rfl) Try.func4
    (ChangeSpec.witness6 (enc := enc) (C := Try.checked) false ⟨#[], #[.slice none 0 0, .int .i64 0, .int .i64 0, .int .i64 0], []⟩ 8 (by kernel_rfl) (by kernel_rfl) (by kernel_rfl) (by kernel_rfl)) ?_
  intro W base args ds gs before hval0 hW hcnd _
  have hval : ∀ (j : Nat) t v, Try.f4.params[j]? = some t → args[j]? = some v → Value.okWide Try.prog W .any base t v := hval0
  have hW' := hW
  obtain ⟨p, q, hA0, hV, rfl, hfz, hnd⟩ := hW
  have hA : DataW.TrodAll enc Try.prog W 0 (fun _ => true) true Try.f4.params.toList args.toList ds p := hA0
  rw [Try.params4] at hA hval
  obtain ⟨v0, vs0, d0, ds0, p0, q0, hargs, rfl, rfl, h0, r0⟩ := trodAll_cons hA
  obtain ⟨v1, vs1, d1, ds1, p1, q1, rfl, rfl, rfl, h1, r1⟩ := trodAll_cons r0
  obtain ⟨v2, vs2, d2, ds2, p2, q2, rfl, rfl, rfl, h2, r2⟩ := trodAll_cons r1
  obtain ⟨v3, vs3, d3, ds3, p3, q3, rfl, rfl, rfl, h3, r3⟩ := trodAll_cons r2
  obtain ⟨rfl, rfl, rfl⟩ := trodAll_nil r3
  obtain rfl : args = #[v0, v1, v2, v3] := by cases args; simp_all
  obtain ⟨rfl, rfl⟩ := trodVars_none hV
  have k0 := h0
  have lt0 : ∀ x ∈ p0, x.block < W.heap.size := by obtain ⟨m, hm⟩ := k0; exact DataW.trod_lt m _ _ _ hm
  obtain ⟨a0, len0, cap0, rfl⟩ := okWide_slice Try.underlying23 (hval 0 23 v0 rfl rfl)
  have r100 : Rd23 W [.slice a0 len0 cap0] := by obtain ⟨fuel, hf⟩ := h0; exact rd23 hf
  have k1 := h1
  have lt1 : ∀ x ∈ p1, x.block < W.heap.size := by obtain ⟨m, hm⟩ := k1; exact DataW.trod_lt m _ _ _ hm
  obtain ⟨a1, rfl⟩ := okWide_int Try.underlying3 (hval 1 3 v1 rfl rfl)
  have r101 : Rd3 W [.int .i64 a1] := by obtain ⟨fuel, hf⟩ := h1; exact rd3 hf
  have k2 := h2
  have lt2 : ∀ x ∈ p2, x.block < W.heap.size := by obtain ⟨m, hm⟩ := k2; exact DataW.trod_lt m _ _ _ hm
  obtain ⟨a2, rfl⟩ := okWide_int Try.underlying3 (hval 2 3 v2 rfl rfl)
  have r102 : Rd3 W [.int .i64 a2] := by obtain ⟨fuel, hf⟩ := h2; exact rd3 hf
  have k3 := h3
  have lt3 : ∀ x ∈ p3, x.block < W.heap.size := by obtain ⟨m, hm⟩ := k3; exact DataW.trod_lt m _ _ _ hm
  obtain ⟨a3, rfl⟩ := okWide_int Try.underlying3 (hval 3 3 v3 rfl rfl)
  have r103 : Rd3 W [.int .i64 a3] := by obtain ⟨fuel, hf⟩ := h3; exact rd3 hf
  clear hA0 hval0
  refine (walk _ _ _ _ W r100 r101 r102 r103).mono fun e W' ⟨he, bel⟩ => ?_
  subst he
  exact ⟨_, rfl, _, _, _, [], _, [], hW', trodAll_mk1 (shut_bool Try.underlying4 _), (trodAll_cons_mk (Below.trod laidOut (by kernel_rfl) (of_decide_eq_true (by kernel_rfl)) k0 bel lt0) (trodAll_cons_mk (Below.trod laidOut (by kernel_rfl) (of_decide_eq_true (by kernel_rfl)) k1 bel lt1) (trodAll_cons_mk (Below.trod laidOut (by kernel_rfl) (of_decide_eq_true (by kernel_rfl)) k2 bel lt2) (trodAll_cons_mk (Below.trod laidOut (by kernel_rfl) (of_decide_eq_true (by kernel_rfl)) k3 bel lt3) trodAll_mk0)))), rfl, bel.frame _, fun h => by cases h⟩

theorem over : Rows.commissionBetweenRow.holds Try.pinned (OpenSpec.ofChange Rows.commissionBetweenSpec) :=
  OpenClaim.holds_of_wide 4 Try.f4 rfl rfl rfl rfl rfl rfl rfl ⟨rfl, rfl, rfl, rfl, rfl⟩ rfl rfl rfl rfl rfl (by kernel_rfl) Try.func4 (by kernel_rfl)
    (of_decide_eq_true (by kernel_rfl)) (by unfold Func.isWrapper; first | (rw [if_pos (by decide +kernel)]; kernel_rfl) | (rw [if_neg (by decide +kernel)]; exact ⟨rfl, rfl⟩))
    (fun os started H enc _ => lifted os started H enc)

/-- the statement -/
theorem proved : Rows.CommissionBetweenSaid := over
#print axioms proved
end Go.Proofs.Ytedkdflecdggpaa.commissionBetween
