/- The law CommissionProfit: Profit returns the specified accounts or error, for all arguments. No condition. -/
import Derived.Test.YtedkdflecdggpaaRows
import Derived.Test.YtedkdflecdggpaaRead
import Derived.Test.YtedkdflecdggpaaCoAw
import Derived.Test.YtedkdflecdggpaaCoP5
import Derived.Test.YtedkdflecdggpaaCoYr
import Derived.Test.YtedkdflecdggpaaArgs24
import Derived.WalkKit
import Derived.ProofKit
import Derived.OpenShut
import Derived.ShutString
import Derived.ChangeOld
import Derived.Below
namespace Go.Proofs.Ytedkdflecdggpaa.commissionProfit
open Go.ChangeShapes Go.WideShapes Go.ChangeAt Go.RowKit
set_option linter.unusedVariables false

theorem own : ownKnob Try.prog.godebug = none := by kernel_rfl
theorem laidOut : laidOutB Try.prog = true := by kernel_rfl



set_option maxHeartbeats 4000000 in
set_option maxRecDepth 100000 in
theorem walk (v0 : Value) (v1 : Value) (v2 : Value) (v3 : Value) (v4 : Value) (w : World) (h0 : Rd37 w [v0]) (h1 : Rd3 w [v1]) (h2 : Rd3 w [v2]) (h3 : Rd3 w [v3]) (h4 : Rd23 w [v4]) :
    Calls Try.prog 5 #[v0, v1, v2, v3, v4] w fun e w' => e = .returned (.bool true) ∧ Below w.heap.size w w' := by
  obtain ⟨A0, n0, c0, f0, g0, rfl, hn0, hc0, _, hp0, _⟩ := rd_year h0
  obtain ⟨x0, rfl, _, _⟩ := rd_i64 h1
  obtain ⟨r0, rfl, _, _⟩ := rd_i64 h2
  obtain ⟨cr0, rfl, _, _⟩ := rd_i64 h3
  obtain ⟨A, n, c, z, rfl, hn, _, _, hc, _⟩ := rd_ints h4
  have HC := Lib.hid hc
  have HP0 := Lib.hid hp0
  clear h0 h1 h2 h3 h4 hc hp0
  by_cases hl1 : 60 < n0
  · go_enter Try.func5, Try.ntmps5
    go_wp2_with (first | (go_at_call 11; refine (awake24_any _).mono ?_; rintro e w99 ⟨rfl, hb99⟩))
    go_ret
    exact ⟨rfl, hb99⟩
  have hl1' : n0 ≤ 60 := by omega
  clear hl1
  go_enter Try.func5, Try.ntmps5
  go_wp2_with fail
  go_loopw [0, 1, 2, 3, 11] (fun a0 a1 a2 a3 ix wr => ∃ (A1 : Option Addr) (n1 c1 : Nat) (p l : Nat → Int) (x rt cr : Int) (k : Nat), k ≤ 2 ∧ ix = .int .i64 k ∧ a0 = .slice A1 n1 c1 ∧ a1 = .int .i64 x ∧ a2 = .int .i64 rt ∧ a3 = .int .i64 cr ∧ n1 ≤ 60 ∧ Hid (Pairs wr wr.heap.size A1 n1 p l) ∧ Hid (Below w.heap.size w wr)) (fun _ _ _ _ ix _ => 2 - (intOf ix).toNat)
  case atStart => exact ⟨A0, n0, c0, f0, g0, x0, r0, cr0, 0, by omega, rfl, rfl, rfl, rfl, rfl, hl1', HP0, Lib.hid (Below.refl _ _)⟩
  case round =>
    obtain ⟨A1, n1, c1, p, l, x, rt, cr, k, hk, rfl, rfl, rfl, rfl, rfl, hn1, HP, HB⟩ := hrel
    by_cases hlt : k < 2
    · obtain ⟨er, her⟩ : ∃ e, Co.perr n1 p l x rt cr = e := ⟨_, rfl⟩
      obtain ⟨F, hF⟩ : ∃ e, Co.acct p l x rt cr.toNat = e := ⟨_, rfl⟩
      have C1 := Lib.hid (cprofit_any A1 n1 c1 p l x rt cr wr (by omega) HP.out)
      have C2 : Hid (∀ W : World, Below wr.heap.size wr W → Calls Try.prog 19 #[.slice A1 n1 c1, .int .i64 x, .int .i64 rt, .int .i64 cr] W (ProfPost er n1 F W)) := Lib.hid fun W hb => by
        have := rprofit_any A1 n1 c1 p l x rt cr W (by omega) ((HP.out.below hb).mono hb.size)
        rw [her, hF] at this
        exact this
      rw [her, hF] at C1
      clear her hF HP
      go_wp2_with fail
      refine C1.out.mono ?_
      rintro e w1 ⟨X, mx, cx, rfl, hb, hmx, hqx⟩
      have HM := Lib.hid hmx
      have HQX := Lib.hid hqx
      have HB1 := Lib.hid hb
      clear hb hmx hqx
      go_wp2_with fail
      refine (C2.out _ HB1.out).mono ?_
      rintro e w2 ⟨Y, my, cy, rfl, hb, hmy, hqy⟩
      have hmm : mx = my := by rw [HM.out, hmy]
      subst hmm
      have HQY := Lib.hid hqy
      replace HQX : Hid (er = 0 → Quads w2 w2.heap.size X n1 F) := Lib.hid fun h => ((HQX.out h).below hb).mono hb.size
      replace HB : Hid (Below w.heap.size w w2) := Lib.hid (HB.out.trans ((HB1.out.trans (hb.mono HB1.out.size)).mono HB.out.size))
      have HME : Hid (0 < mx → er = 0 ∧ mx = n1) := Lib.hid fun h0 => by
        by_cases e : er = 0
        · exact ⟨e, by rw [hmy, if_pos e]⟩
        · rw [hmy, if_neg e] at h0; omega
      have hmx60 : mx ≤ 60 := by rw [hmy]; split <;> omega
      clear hb hmy hqy C1 C2 HB1 HM
      go_wp2_with fail
      go_loopw [16] (fun ix wq => ∃ j : Nat, j ≤ mx ∧ ix = .int .i64 j ∧ ∃ q, wq = w2.drewN q) (fun ix _ => mx - (intOf ix).toNat)
      case atStart => exact ⟨0, Nat.zero_le _, rfl, 0, rfl⟩
      case round =>
        obtain ⟨j, hj, rfl, q, rfl⟩ := hrel
        by_cases hlt2 : j < mx
        · obtain ⟨e0, e1⟩ := HME.out (by omega)
          obtain ⟨b, o, rfl, hbl, a0, a1, a2, a3⟩ := (HQX.out e0).get (j := j) (by omega)
          obtain ⟨b', o', rfl, hbl', b0, b1, b2, b3⟩ := (HQY.out e0).get (j := j) (by omega)
          obtain ⟨z0, hz0⟩ : ∃ z, F j 0 = z := ⟨_, rfl⟩
          obtain ⟨z1, hz1⟩ : ∃ z, F j 1 = z := ⟨_, rfl⟩
          obtain ⟨z2, hz2⟩ : ∃ z, F j 2 = z := ⟨_, rfl⟩
          obtain ⟨z3, hz3⟩ : ∃ z, F j 3 = z := ⟨_, rfl⟩
          rw [hz0] at a0 b0
          rw [hz1] at a1 b1
          rw [hz2] at a2 b2
          rw [hz3] at a3 b3
          have hj0 : (0 : Int) ≤ j := by omega
          have hj1 : (j : Int) < mx := by omega
          have a2' : w2.cell? ⟨b, o + j * 4 + 1 + 1, none⟩ = some (.int .i64 z2) := a2
          have a3' : w2.cell? ⟨b, o + j * 4 + 1 + 1 + 1, none⟩ = some (.int .i64 z3) := a3
          have b2' : w2.cell? ⟨b', o' + j * 4 + 1 + 1, none⟩ = some (.int .i64 z2) := b2
          have b3' : w2.cell? ⟨b', o' + j * 4 + 1 + 1 + 1, none⟩ = some (.int .i64 z3) := b3
          clear hz0 hz1 hz2 hz3 e0 e1
          go_wp2_with fail
          go_quiet (fail)
          go_wp2_with fail
          go_roundw
          case rel => exact ⟨j + 1, by omega, by go_num, _, by first | rfl | exact World.drewN_drewN _ _ _⟩
          case measure => simp [intOf]; omega
        · obtain rfl : j = mx := by omega
          obtain ⟨W, hW⟩ : ∃ W, w2.drewN q = W := ⟨_, rfl⟩
          replace HB : Hid (Below w.heap.size w W) := Lib.hid (by rw [← hW]; exact below_drewN HB.out q)
          rw [hW]
          clear hW HQX HQY HME
          go_wp2_with fail
          refine (deck_new A n c z W hn ((HC.out.below HB.out).mono HB.out.size)).mono ?_
          rintro e w3 ⟨rfl, hb, hd⟩
          have hs2 := HB.out.size
          obtain ⟨B, hB⟩ : ∃ B, W.heap.size = B := ⟨_, rfl⟩
          rw [hB] at hb hd hs2 ⊢
          replace HB : Hid (Below w.heap.size w w3) := Lib.hid (HB.out.trans (hb.mono hs2))
          have HD := Lib.hid hd
          clear hb hd hB
          go_wp2_with fail
          refine (upto_any _ 1000000 _ HD.out (by omega) (by omega)).mono ?_
          rintro e w4 ⟨x2, rfl, x20, x21, hk2, hd2⟩
          replace HB : Hid (Below w.heap.size w w4) := Lib.hid (HB.out.trans (hk2.below (by omega) HB.out.size))
          replace HD := Lib.hid hd2
          clear hk2 hd2
          go_wp2_with fail
          refine (upto_any _ 1000000 _ HD.out (by omega) (by omega)).mono ?_
          rintro e w5 ⟨r2, rfl, r20, r21, hk2, hd2⟩
          replace HB : Hid (Below w.heap.size w w5) := Lib.hid (HB.out.trans (hk2.below (by omega) HB.out.size))
          replace HD := Lib.hid hd2
          clear hk2 hd2
          go_wp2_with fail
          refine (next_any _ 6 _ HD.out (by omega) (by omega)).mono ?_
          rintro e w6 ⟨cr2, rfl, cr20, cr21, hk2, hd2⟩
          replace HB : Hid (Below w.heap.size w w6) := Lib.hid (HB.out.trans (hk2.below (by omega) HB.out.size))
          replace HD := Lib.hid hd2
          clear hk2 hd2
          go_wp2_with fail
          refine (years_any _ _ HD.out).mono ?_
          rintro e w7 ⟨A3, c3, ps, rfl, hl3, _, hp3, _, hk2, hd2⟩
          replace HB : Hid (Below w.heap.size w w7) := Lib.hid (HB.out.trans (hk2.below (by omega) HB.out.size))
          have HP3 := Lib.hid hp3
          clear hk2 hd2 hp3 HD
          go_wp2_with fail
          go_roundw
          case rel => exact ⟨A3, ps.length, c3, fstOf ps, sndOf ps, x2, r2, cr2, k + 1, by omega, by go_num, rfl, rfl, rfl, rfl, by omega, HP3, HB⟩
          case measure => simp [intOf]; omega
    · obtain rfl : k = 2 := by omega
      go_wp2_with (first | (go_at_call 11; refine (awake24_any _).mono ?_; rintro e w99 ⟨rfl, hb99⟩))
      go_ret
      exact ⟨rfl, HB.out.trans (hb99.mono HB.out.size)⟩

set_option maxRecDepth 100000 in
theorem lifted (os : Os) (started : os.Started) (H : Type) (enc : TypeId × Value → H) :
    ReturnsInHanded {} Try.checked os 5 .any (Rows.commissionProfitSpec.pre6 enc Try.prog Try.f5 Rows.commissionProfitRow.domain false) (Rows.commissionProfitSpec.post enc Try.prog Try.f5 false true false false) := by
  refine returnsInHanded_of_change (C := Try.checked) own started (by kernel_rfl) Try.func5
    (ChangeSpec.witness6 (enc := enc) (C := Try.checked) false ⟨#[], #[.slice none 0 0, .int .i64 0, .int .i64 0, .int .i64 0, .slice none 0 0], []⟩ 8 (by kernel_rfl) (by kernel_rfl) (by kernel_rfl) (by kernel_rfl)) ?_
  intro W base args ds gs before hval0 hW hcnd _
  have hval : ∀ (j : Nat) t v, Try.f5.params[j]? = some t → args[j]? = some v → Value.okWide Try.prog W .any base t v := hval0
  have hW' := hW
  obtain ⟨p, q, hA0, hV, rfl, hfz, hnd⟩ := hW
  have hA : DataW.TrodAll enc Try.prog W 0 (fun _ => true) true Try.f5.params.toList args.toList ds p := hA0
  rw [Try.params5] at hA hval
  obtain ⟨v0, vs0, d0, ds0, p0, q0, hargs, rfl, rfl, h0, r0⟩ := trodAll_cons hA
  obtain ⟨v1, vs1, d1, ds1, p1, q1, rfl, rfl, rfl, h1, r1⟩ := trodAll_cons r0
  obtain ⟨v2, vs2, d2, ds2, p2, q2, rfl, rfl, rfl, h2, r2⟩ := trodAll_cons r1
  obtain ⟨v3, vs3, d3, ds3, p3, q3, rfl, rfl, rfl, h3, r3⟩ := trodAll_cons r2
  obtain ⟨v4, vs4, d4, ds4, p4, q4, rfl, rfl, rfl, h4, r4⟩ := trodAll_cons r3
  obtain ⟨rfl, rfl, rfl⟩ := trodAll_nil r4
  obtain rfl : args = #[v0, v1, v2, v3, v4] := by cases args; simp_all
  obtain ⟨rfl, rfl⟩ := trodVars_none hV
  have k0 := h0
  have lt0 : ∀ x ∈ p0, x.block < W.heap.size := by obtain ⟨m, hm⟩ := k0; exact DataW.trod_lt m _ _ _ hm
  obtain ⟨a0, len0, cap0, rfl⟩ := okWide_slice Try.underlying37 (hval 0 37 v0 rfl rfl)
  have r100 : Rd37 W [.slice a0 len0 cap0] := by obtain ⟨fuel, hf⟩ := h0; exact rd37 hf
  have k1 := h1
  have lt1 : ∀ x ∈ p1, x.block < W.heap.size := by obtain ⟨m, hm⟩ := k1; exact DataW.trod_lt m _ _ _ hm
  obtain ⟨a1, rfl⟩ := okWide_int Try.underlying3 (hval 1 3 v1 rfl rfl)
  have r101 : Rd3 W [.int .i64 a1] := by obtain ⟨fuel, hf⟩ := h1; exact rd3 hf
  have k2 := h2
  have lt2 : ∀ x ∈ p2, x.block < W.heap.size := by obtain ⟨m, hm⟩ := k2; exact DataW.trod_lt m _ _ _ hm
  obtain ⟨a2, rfl⟩ := okWide_int Try.underlying3 (hval 2 3 v2 rfl rfl)
  have r102 : Rd3 W [.int .i64 a2] := by obtain ⟨fuel, hf⟩ := h2; exact rd3 hf
  have k3 := h3
  have lt3 : ∀ x ∈ p3, x.block < W.heap.size := by obtain ⟨m, hm⟩ := k3; exact DataW.trod_lt m _ _ _ hm
  obtain ⟨a3, rfl⟩ := okWide_int Try.underlying3 (hval 3 3 v3 rfl rfl)
  have r103 : Rd3 W [.int .i64 a3] := by obtain ⟨fuel, hf⟩ := h3; exact rd3 hf
  have k4 := h4
  have lt4 : ∀ x ∈ p4, x.block < W.heap.size := by obtain ⟨m, hm⟩ := k4; exact DataW.trod_lt m _ _ _ hm
  obtain ⟨a4, len4, cap4, rfl⟩ := okWide_slice Try.underlying23 (hval 4 23 v4 rfl rfl)
  have r104 : Rd23 W [.slice a4 len4 cap4] := by obtain ⟨fuel, hf⟩ := h4; exact rd23 hf
  clear hA0 hval0
  refine (walk _ _ _ _ _ W r100 r101 r102 r103 r104).mono fun e W' ⟨he, bel⟩ => ?_
  subst he
  exact ⟨_, rfl, _, _, _, [], _, [], hW', trodAll_mk1 (shut_bool Try.underlying4 _), (trodAll_cons_mk (Below.trod laidOut (by kernel_rfl) (of_decide_eq_true (by kernel_rfl)) k0 bel lt0) (trodAll_cons_mk (Below.trod laidOut (by kernel_rfl) (of_decide_eq_true (by kernel_rfl)) k1 bel lt1) (trodAll_cons_mk (Below.trod laidOut (by kernel_rfl) (of_decide_eq_true (by kernel_rfl)) k2 bel lt2) (trodAll_cons_mk (Below.trod laidOut (by kernel_rfl) (of_decide_eq_true (by kernel_rfl)) k3 bel lt3) (trodAll_cons_mk (Below.trod laidOut (by kernel_rfl) (of_decide_eq_true (by kernel_rfl)) k4 bel lt4) trodAll_mk0))))), rfl, bel.frame _, fun h => by cases h⟩

theorem over : Rows.commissionProfitRow.holds Try.pinned (OpenSpec.ofChange Rows.commissionProfitSpec) :=
  OpenClaim.holds_of_wide 5 Try.f5 rfl rfl rfl rfl rfl rfl rfl ⟨rfl, rfl, rfl, rfl, rfl⟩ rfl rfl rfl rfl rfl (by kernel_rfl) Try.func5 (by kernel_rfl)
    (of_decide_eq_true (by kernel_rfl)) (by unfold Func.isWrapper; first | (rw [if_pos (by decide +kernel)]; kernel_rfl) | (rw [if_neg (by decide +kernel)]; exact ⟨rfl, rfl⟩))
    (fun os started H enc _ => lifted os started H enc)

/-- the statement -/
theorem proved : Rows.CommissionProfitSaid := over
#print axioms proved
end Go.Proofs.Ytedkdflecdggpaa.commissionProfit
