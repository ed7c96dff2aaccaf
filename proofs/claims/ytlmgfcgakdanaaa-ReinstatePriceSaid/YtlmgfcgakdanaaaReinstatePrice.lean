/- The law ReinstatePrice: the price of what has been recovered, and the capacity, for all arguments. No condition. -/
import Derived.Test.YtlmgfcgakdanaaaRows
import Derived.Test.YtlmgfcgakdanaaaRead
import Derived.Test.YtlmgfcgakdanaaaPrc
import Derived.Deep.RegionHeld3
import Derived.Deep.DeepCutAuto
import Derived.Deep.CutBlock
import Derived.WalkKit
import Derived.ProofKit
import Derived.OpenShut
import Derived.ShutString
import Derived.ChangeOld
import Derived.Below
namespace Go.Proofs.Ytlmgfcgakdanaaa.reinstatePrice
open Go.ChangeShapes Go.WideShapes Go.ChangeAt Go.RowKit
set_option linter.unusedVariables false

theorem own : ownKnob Try.prog.godebug = none := by kernel_rfl
theorem laidOut : laidOutB Try.prog = true := by kernel_rfl

attribute [local go_sem ↓] exec_load_ty

set_option maxHeartbeats 4000000 in
set_option maxRecDepth 100000 in
theorem walk (c0 : List Value) (v1 : Value) (v2 : Value) (w : World) (h0 : Rd27 w c0) (h1 : Rd24 w [v1]) (h2 : Rd3 w [v2]) :
    Calls Try.prog 3 #[.agg c0.toArray, v1, v2] w fun e w' => e = .returned (.bool true) ∧ Below w.heap.size w w' := by
  obtain ⟨t, hct, hin⟩ := rd_treaty h0
  obtain ⟨Ad, nd, cd, fd, rfl, hnd, _, _, hd, _⟩ := rd_ints h1
  obtain ⟨us, rfl, _, _⟩ := rd_i64 h2
  rw [hct]
  have HIN := Lib.hid hin
  have HDD := Lib.hid hd
  have HTI := Lib.hid ty_info
  clear h0 h1 h2 hin hd hct
  go_enter Try.func3, Try.ntmps3
  go_upto_region 1 with (fail)
  have HR : Hid (RnSt w w.heap.size t (w.alloc (.cells t.cells 27))) := Lib.hid ⟨Has.new _ _ _, HIN.out.alloc (Nat.le_refl _) _, (Below.refl _ _).alloc (Nat.le_refl _) _, Nat.le_refl _⟩
  obtain ⟨w1, hw1⟩ : ∃ W, w.alloc (.cells t.cells 27) = W := ⟨_, rfl⟩
  obtain ⟨R, hR⟩ : ∃ R, w.heap.size = R := ⟨_, rfl⟩
  have HWR := Lib.hid hR
  rw [hw1, hR] at HR ⊢
  clear hw1 hR
  have x4 : w1.cell? ⟨R, 4, none⟩ = some (.slice t.Ape t.npe t.cpe) := HR.out.box.cell 4
  have x5 : w1.cell? ⟨R, 5, none⟩ = some (.slice t.Aar t.nar t.car) := HR.out.box.cell 5
  have x16 : w1.cell? ⟨R, 16, none⟩ = some (.slice t.Are t.nre t.cre) := HR.out.box.cell 16
  have x19 : w1.cell? ⟨R, 19, none⟩ = some (.slice t.Ain t.nin t.cin) := HR.out.box.cell 19
  have x20 : w1.cell? ⟨R, 20, none⟩ = some (.slice t.Apa t.npa t.cpa) := HR.out.box.cell 20
  have HBE := Lib.hid HR.out.below
  have hcases : ((30 : Int) < t.npe ∨ (t.npe : Int) ≤ 30 ∧ (30 : Int) < t.nar ∨ (t.npe : Int) ≤ 30 ∧ (t.nar : Int) ≤ 30 ∧ (30 : Int) < t.nin ∨ (t.npe : Int) ≤ 30 ∧ (t.nar : Int) ≤ 30 ∧ (t.nin : Int) ≤ 30 ∧ (30 : Int) < t.npa ∨ (t.npe : Int) ≤ 30 ∧ (t.nar : Int) ≤ 30 ∧ (t.nin : Int) ≤ 30 ∧ (t.npa : Int) ≤ 30 ∧ (30 : Int) < t.nre) ∨
      (t.npe : Int) ≤ 30 ∧ (t.nar : Int) ≤ 30 ∧ (t.nin : Int) ≤ 30 ∧ (t.npa : Int) ≤ 30 ∧ (t.nre : Int) ≤ 30 := by omega
  obtain ⟨n1, hn1⟩ : ∃ n, t.npe = n := ⟨_, rfl⟩
  obtain ⟨n2, hn2⟩ : ∃ n, t.nar = n := ⟨_, rfl⟩
  obtain ⟨n3, hn3⟩ : ∃ n, t.nin = n := ⟨_, rfl⟩
  obtain ⟨n4, hn4⟩ : ∃ n, t.npa = n := ⟨_, rfl⟩
  obtain ⟨n5, hn5⟩ : ∃ n, t.nre = n := ⟨_, rfl⟩
  rw [hn1, hn2, hn3, hn4, hn5] at hcases
  rw [hn1] at x4
  rw [hn2] at x5
  rw [hn5] at x16
  rw [hn3] at x19
  rw [hn4] at x20
  clear hn1 hn2 hn3 hn4 hn5
  rcases hcases with (hc | ⟨ha, hc⟩ | ⟨ha, hb, hc⟩ | ⟨ha, hb, hc1, hc⟩ | ⟨ha, hb, hc1, hc2, hc⟩) | ⟨ha, hb, hc, hd, he⟩
  case inr =>
    go_upto_region 3 with (fail)
    clear x4 x5 x16 x19 x20 ha hb hc hd he HBE HIN
    have hRD := HR.out.lt
    go_wp2_with fail
    refine (m2new_any Ad nd cd fd w1 hnd (HR.out.nums HDD.out)).mono ?_
    rintro e w2 ⟨rfl, hb, hdk⟩
    replace HR := Lib.hid (HR.out.next hb)
    obtain ⟨D, hD⟩ : ∃ D, w1.heap.size = D := ⟨_, rfl⟩
    rw [hD] at hdk hRD ⊢
    have HD := Lib.hid hdk
    clear hb hdk HDD hD
    go_wp2_with fail
    refine (dexcess_any D _ HD.out).mono ?_
    rintro e w3 ⟨s, rfl, hx, hin, hov, hk2, hd2⟩
    have hDl := HD.out.lt
    have hsz := hk2.size
    replace HR := Lib.hid (HR.out.up (hk2.below (Nat.le_refl D) (Nat.le_of_lt hDl)) hRD)
    have HIN := Lib.hid hin
    have HOV : Hid (s.Over (D + 1)) := Lib.hid (hov.mono (by omega))
    replace HD := Lib.hid hd2
    clear hx hin hov hk2 hd2
    go_upto_region 5 with ((refine wpList_store_has ?_ 27 (.tmp 8) (.tmp 54) ?_ w3.heap.size ?_ s.cells ?_ _ _ (Has.new w3 _ _) HTI.out ?_ ?_ ?_; rfl; rfl; rfl; rfl; rfl; rfl; intro w4 hh4 hl4))
    try simp only [Act.put]
    have hb4 : Below w3.heap.size w3 w4 := ((Below.refl _ _).alloc (Nat.le_refl _) _).trans (hl4.below (fun k hk => by omega) (by simp))
    have HS : Hid (PcSt w R D w3.heap.size t s w4) := Lib.hid ⟨HR.out.next hb4, hh4, (HIN.out.below hb4).mono hb4.size, HOV.out, HD.out.below hb4 HD.out.lt, hRD, by omega⟩
    obtain ⟨T, hT⟩ : ∃ T, w3.heap.size = T := ⟨_, rfl⟩
    rw [hT] at HS ⊢
    clear hT hb4 hh4 hl4 HR HIN HOV HD hDl hsz
    go_wp2_with fail
    refine (next_any D _ _ HS.out.dk (by omega) (by omega)).mono ?_
    rintro e w5 ⟨v, rfl, v0, v1, hk2, hd2⟩
    replace HS := Lib.hid (HS.out.call hk2 hd2)
    clear hk2 hd2
    go_upto_if 57 with (fail)
    go_cut [] (fun wx => ∃ s : Ty, Hid (PcSt w R D T t s wx))
    case first =>
      by_cases hv : v = 0
      · subst hv
        go_wp2_with fail
        refine (next_any D _ _ HS.out.dk (by omega) (by omega)).mono ?_
        rintro e w6 ⟨u, rfl, u0, u1, hk2, hd2⟩
        replace HS := Lib.hid (HS.out.call hk2 hd2)
        clear hk2 hd2
        have hTl := HS.out.lt
        go_wp2_with fail
        refine (dtreaty_any D 1 (1 + u) _ HS.out.dk (by omega) (by omega) (by omega) (by omega)).mono ?_
        rintro e w7 ⟨s2, rfl, _, _, _, hin, hov, hk2, hd2⟩
        replace HS := Lib.hid (HS.out.call hk2 hd2)
        have HIN := Lib.hid hin
        have HOV : Hid (s2.Over (T + 1)) := Lib.hid (hov.mono (by omega))
        clear hin hov hk2 hd2
        go_wp2_with ((refine wpList_store_has ?_ 27 (.tmp 8) (.tmp 62) ?_ T ?_ s2.cells ?_ _ _ HS.out.box HTI.out ?_ ?_ ?_; rfl; rfl; rfl; rfl; rfl; rfl; intro w8 hh8 hl8))
        go_meet
        exact ⟨s2, Lib.hid (HS.out.set HIN.out HOV.out hh8 hl8)⟩
      · go_wp2_with fail
        go_meet
        exact ⟨s, HS⟩
    case rest =>
      clear HS
      obtain ⟨s, HS⟩ := hcut
      go_wp2_with fail
      refine (upto_any D _ _ HS.out.dk (by omega) (by omega)).mono ?_
      rintro e w6 ⟨k, rfl, k0, k1, hk2, hd2⟩
      replace HS := Lib.hid (HS.out.call hk2 hd2)
      clear hk2 hd2
      obtain ⟨⟨a1, e1⟩, hr1⟩ : ∃ r, t.pr us = r := ⟨_, rfl⟩
      obtain ⟨⟨a2, e2⟩, hr2⟩ : ∃ r, s.pr us = r := ⟨_, rfl⟩
      obtain ⟨⟨a3, e3⟩, hr3⟩ : ∃ r, s.pr k = r := ⟨_, rfl⟩
      obtain ⟨c1, hc1⟩ : ∃ r, t.cap = r := ⟨_, rfl⟩
      obtain ⟨c2, hc2⟩ : ∃ r, s.cap = r := ⟨_, rfl⟩
      have P1 : Hid (∀ W, t.In W W.heap.size → Calls Try.prog 16 #[.agg t.cells, .int .i64 us] W (PairPost (a1, e1) W)) := Lib.hid fun W h => by rw [← hr1]; exact price_any t us W h
      have Q1 : Hid (∀ W, t.In W W.heap.size → Calls Try.prog 17 #[.agg t.cells, .int .i64 us] W (PairPost (a1, e1) W)) := Lib.hid fun W h => by rw [← hr1]; exact rprice_any t us W h
      have P2 : Hid (∀ W, s.In W W.heap.size → Calls Try.prog 16 #[.agg s.cells, .int .i64 us] W (PairPost (a2, e2) W)) := Lib.hid fun W h => by rw [← hr2]; exact price_any s us W h
      have Q2 : Hid (∀ W, s.In W W.heap.size → Calls Try.prog 17 #[.agg s.cells, .int .i64 us] W (PairPost (a2, e2) W)) := Lib.hid fun W h => by rw [← hr2]; exact rprice_any s us W h
      have P3 : Hid (∀ W, s.In W W.heap.size → Calls Try.prog 16 #[.agg s.cells, .int .i64 k] W (PairPost (a3, e3) W)) := Lib.hid fun W h => by rw [← hr3]; exact price_any s k W h
      have Q3 : Hid (∀ W, s.In W W.heap.size → Calls Try.prog 17 #[.agg s.cells, .int .i64 k] W (PairPost (a3, e3) W)) := Lib.hid fun W h => by rw [← hr3]; exact rprice_any s k W h
      have K1 : Hid (∀ W, t.In W W.heap.size → Calls Try.prog 18 #[.agg t.cells] W (IntPost c1 W)) := Lib.hid fun W h => by rw [← hc1]; exact capacity_any t W h
      have L1 : Hid (∀ W, t.In W W.heap.size → Calls Try.prog 19 #[.agg t.cells] W (IntPost c1 W)) := Lib.hid fun W h => by rw [← hc1]; exact rcapacity_any t W h
      have K2 : Hid (∀ W, s.In W W.heap.size → Calls Try.prog 18 #[.agg s.cells] W (IntPost c2 W)) := Lib.hid fun W h => by rw [← hc2]; exact capacity_any s W h
      have L2 : Hid (∀ W, s.In W W.heap.size → Calls Try.prog 19 #[.agg s.cells] W (IntPost c2 W)) := Lib.hid fun W h => by rw [← hc2]; exact rcapacity_any s W h
      clear hr1 hr2 hr3 hc1 hc2
      go_wp2_with ((refine wpList_load_has ?_ 27 (.tmp 3) ?_ R ?_ _ _ _ HS.out.raw.box Try.underlying27 ?_ HTI.out ?_; rfl; rfl; rfl; rfl))
      refine (P1.out _ HS.out.raw.inn).mono ?_
      rintro e x1 ⟨rfl, hb⟩
      replace HS := Lib.hid (HS.out.next hb)
      clear hb P1
      try simp only
      go_wp2_with ((refine wpList_load_has ?_ 27 (.tmp 3) ?_ R ?_ _ _ _ HS.out.raw.box Try.underlying27 ?_ HTI.out ?_; rfl; rfl; rfl; rfl))
      refine (Q1.out _ HS.out.raw.inn).mono ?_
      rintro e x2 ⟨rfl, hb⟩
      replace HS := Lib.hid (HS.out.next hb)
      clear hb Q1
      try simp only
      go_wp2_with ((refine wpList_load_has ?_ 27 (.tmp 8) ?_ T ?_ _ _ _ HS.out.box Try.underlying27 ?_ HTI.out ?_; rfl; rfl; rfl; rfl))
      refine (P2.out _ HS.out.ins).mono ?_
      rintro e x3 ⟨rfl, hb⟩
      replace HS := Lib.hid (HS.out.next hb)
      clear hb P2
      try simp only
      go_wp2_with ((refine wpList_load_has ?_ 27 (.tmp 8) ?_ T ?_ _ _ _ HS.out.box Try.underlying27 ?_ HTI.out ?_; rfl; rfl; rfl; rfl))
      refine (Q2.out _ HS.out.ins).mono ?_
      rintro e x4 ⟨rfl, hb⟩
      replace HS := Lib.hid (HS.out.next hb)
      clear hb Q2
      try simp only
      go_wp2_with ((refine wpList_load_has ?_ 27 (.tmp 8) ?_ T ?_ _ _ _ HS.out.box Try.underlying27 ?_ HTI.out ?_; rfl; rfl; rfl; rfl))
      refine (P3.out _ HS.out.ins).mono ?_
      rintro e x5 ⟨rfl, hb⟩
      replace HS := Lib.hid (HS.out.next hb)
      clear hb P3
      try simp only
      go_wp2_with ((refine wpList_load_has ?_ 27 (.tmp 8) ?_ T ?_ _ _ _ HS.out.box Try.underlying27 ?_ HTI.out ?_; rfl; rfl; rfl; rfl))
      refine (Q3.out _ HS.out.ins).mono ?_
      rintro e x6 ⟨rfl, hb⟩
      replace HS := Lib.hid (HS.out.next hb)
      clear hb Q3
      try simp only
      go_upto_region 14 with (fail)
      replace HS : Hid (PcSt w R D T t s x6.drew) := Lib.hid HS.out.drew
      go_region_held3 (fun w' => TyAt w' (.pointer (some ⟨R, 0, none⟩)) ∧ tyCells w' (.pointer (some ⟨R, 0, none⟩)) = t.cells ∧ TyAt w' (.pointer (some ⟨T, 0, none⟩)) ∧ tyCells w' (.pointer (some ⟨T, 0, none⟩)) = s.cells) (exact HS.out.two) (first
        | (go_at_call 18; refine (K1.out _ HS.out.raw.inn).mono ?_; rintro e wa ⟨rfl, hb⟩; replace HS := Lib.hid (HS.out.next hb); clear hb K1)
        | (go_at_call 19; refine (L1.out _ HS.out.raw.inn).mono ?_; rintro e wb ⟨rfl, hb⟩; replace HS := Lib.hid (HS.out.next hb); clear hb L1)
        | (go_at_call 18; refine (K2.out _ HS.out.ins).mono ?_; rintro e wd ⟨rfl, hb⟩; replace HS := Lib.hid (HS.out.next hb); clear hb K2)
        | (go_at_call 19; refine (L2.out _ HS.out.ins).mono ?_; rintro e we ⟨rfl, hb⟩; replace HS := Lib.hid (HS.out.next hb); clear hb L2)
        | (go_at_call 10; refine (awake28_any _).mono ?_; rintro e wf ⟨rfl, hb⟩; replace HS := Lib.hid (HS.out.next hb); clear hb))
      all_goals
        go_wp2_with fail
        go_ret
        exact ⟨rfl, HS.out.raw.below⟩
  all_goals
    go_wp2_with (first | (go_at_call 10; refine (awake28_any _).mono ?_; rintro e w9 ⟨rfl, hb9⟩))
    go_ret
    exact ⟨rfl, by have := HWR.out; exact HBE.out.trans (hb9.mono HBE.out.size)⟩

set_option maxRecDepth 100000 in
theorem lifted (os : Os) (started : os.Started) (H : Type) (enc : TypeId × Value → H) :
    ReturnsInHanded {} Try.checked os 3 .any (Rows.reinstatePriceSpec.pre6 enc Try.prog Try.f3 Rows.reinstatePriceRow.domain false) (Rows.reinstatePriceSpec.post enc Try.prog Try.f3 false true false false) := by
  refine returnsInHanded_of_change (C := Try.checked) own started (by kernel_rfl) Try.func3
    (ChangeSpec.witness6 (enc := enc) (C := Try.checked) false ⟨#[], #[.agg #[.int .i64 0, .int .i64 0, .int .i64 0, .int .i64 0, .slice none 0 0, .slice none 0 0, .int .i64 0, .int .i64 0, .int .i64 0, .int .i64 0, .int .i64 0, .int .i64 0, .int .i64 0, .int .i64 0, .int .i64 0, .int .i64 0, .slice none 0 0, .bool false, .int .i64 0, .slice none 0 0, .slice none 0 0], .slice none 0 0, .int .i64 0], []⟩ 8 (by kernel_rfl) (by kernel_rfl) (by kernel_rfl) (by kernel_rfl)) ?_
  intro W base args ds gs before hval0 hW hcnd _
  have hval : ∀ (j : Nat) t v, Try.f3.params[j]? = some t → args[j]? = some v → Value.okWide Try.prog W .any base t v := hval0
  have hW' := hW
  obtain ⟨p, q, hA0, hV, rfl, hfz, hnd⟩ := hW
  have hA : DataW.TrodAll enc Try.prog W 0 (fun _ => true) true Try.f3.params.toList args.toList ds p := hA0
  rw [Try.params3] at hA hval
  obtain ⟨v0, vs0, d0, ds0, p0, q0, hargs, rfl, rfl, h0, r0⟩ := trodAll_cons hA
  obtain ⟨v1, vs1, d1, ds1, p1, q1, rfl, rfl, rfl, h1, r1⟩ := trodAll_cons r0
  obtain ⟨v2, vs2, d2, ds2, p2, q2, rfl, rfl, rfl, h2, r2⟩ := trodAll_cons r1
  obtain ⟨rfl, rfl, rfl⟩ := trodAll_nil r2
  obtain rfl : args = #[v0, v1, v2] := by cases args; simp_all
  obtain ⟨rfl, rfl⟩ := trodVars_none hV
  have k0 := h0
  have lt0 : ∀ x ∈ p0, x.block < W.heap.size := by obtain ⟨m, hm⟩ := k0; exact DataW.trod_lt m _ _ _ hm
  obtain ⟨⟨c0⟩, rfl, _⟩ := okWide_struct Try.underlying27 (hval 0 27 v0 rfl rfl)
  have r100 : Rd27 W c0 := by obtain ⟨fuel, hf⟩ := h0; exact rd27 hf
  have k1 := h1
  have lt1 : ∀ x ∈ p1, x.block < W.heap.size := by obtain ⟨m, hm⟩ := k1; exact DataW.trod_lt m _ _ _ hm
  obtain ⟨a1, len1, cap1, rfl⟩ := okWide_slice Try.underlying24 (hval 1 24 v1 rfl rfl)
  have r101 : Rd24 W [.slice a1 len1 cap1] := by obtain ⟨fuel, hf⟩ := h1; exact rd24 hf
  have k2 := h2
  have lt2 : ∀ x ∈ p2, x.block < W.heap.size := by obtain ⟨m, hm⟩ := k2; exact DataW.trod_lt m _ _ _ hm
  obtain ⟨a2, rfl⟩ := okWide_int Try.underlying3 (hval 2 3 v2 rfl rfl)
  have r102 : Rd3 W [.int .i64 a2] := by obtain ⟨fuel, hf⟩ := h2; exact rd3 hf
  clear hA0 hval0
  refine (walk c0 _ _ W r100 r101 r102).mono fun e W' ⟨he, bel⟩ => ?_
  subst he
  exact ⟨_, rfl, _, _, _, [], _, [], hW', trodAll_mk1 (shut_bool Try.underlying4 _), (trodAll_cons_mk (Below.trod laidOut (by kernel_rfl) (of_decide_eq_true (by kernel_rfl)) k0 bel lt0) (trodAll_cons_mk (Below.trod laidOut (by kernel_rfl) (of_decide_eq_true (by kernel_rfl)) k1 bel lt1) (trodAll_cons_mk (Below.trod laidOut (by kernel_rfl) (of_decide_eq_true (by kernel_rfl)) k2 bel lt2) trodAll_mk0))), rfl, bel.frame _, fun h => by cases h⟩

theorem over : Rows.reinstatePriceRow.holds Try.pinned (OpenSpec.ofChange Rows.reinstatePriceSpec) :=
  OpenClaim.holds_of_wide 3 Try.f3 rfl rfl rfl rfl rfl rfl rfl ⟨rfl, rfl, rfl, rfl, rfl⟩ rfl rfl rfl rfl rfl (by kernel_rfl) Try.func3 (by kernel_rfl)
    (of_decide_eq_true (by kernel_rfl)) (by unfold Func.isWrapper; first | (rw [if_pos (by decide +kernel)]; kernel_rfl) | (rw [if_neg (by decide +kernel)]; exact ⟨rfl, rfl⟩))
    (fun os started H enc _ => lifted os started H enc)

/-- the statement -/
theorem proved : Rows.ReinstatePriceSaid := over
#print axioms proved
end Go.Proofs.Ytlmgfcgakdanaaa.reinstatePrice
