/- The law EndorsePoints: ChangePoints returns the specified hours, and what is in force is the same at two hours without a change point between them. No condition. -/
import Derived.Test.YtlbkhhbbkedhkaaGreatDoorRows
import Derived.Test.YtlbkhhbbkedhkaaGreatDoorRead
import Derived.Test.YtlbkhhbbkedhkaaGreatDoorMa31
import Derived.Test.YtlbkhhbbkedhkaaGreatDoorTie
import Derived.Test.YtlbkhhbbkedhkaaGreatDoorCards
import Derived.SevenTiedAt
import Derived.Test.YtlbkhhbbkedhkaaGreatDoorMb03
import Derived.WalkKit
import Derived.ProofKit
import Derived.OpenShut
import Derived.ShutString
import Derived.ChangeOld
import Derived.Below
namespace Go.Proofs.YtlbkhhbbkedhkaaGreatDoor.endorsePoints
open Go.ChangeShapes Go.WideShapes Go.ChangeAt Go.RowKit
set_option linter.unusedVariables false

theorem own : ownKnob Tryz.prog.godebug = none := by kernel_rfl
theorem laidOut : laidOutB Tryz.prog = true := by kernel_rfl



set_option maxHeartbeats 4000000 in
set_option maxRecDepth 100000 in
theorem walk (c0 : List Value) (v1 : Value) (v2 : Value) (v3 : Value) (w : World) (ht : Tab w) (h0 : Rd25 w c0) (h1 : Rd26 w [v1]) (h2 : Rd3 w [v2]) (h3 : Rd3 w [v3]) :
    Calls Tryz.prog 3 #[.agg c0.toArray, v1, v2, v3] w fun e w' => e = .returned (.bool true) ∧ Below w.heap.size w w' := by
  obtain ⟨y, Ay, Ey, cay, cey, rfl, hy⟩ := h0
  obtain ⟨Ad, nd, cd, fd, rfl, hnd, _, _, hd, _⟩ := rd_ints h1
  obtain ⟨kn, rfl, kn0, kn1⟩ := rd_i64 h2
  obtain ⟨kk, rfl, kk0, kk1⟩ := rd_i64 h3
  have HT := Lib.hid ht
  have HDD := Lib.hid hd
  have HYW := Lib.hid hy
  clear h1 h2 h3 hd ht hy
  have HPY : Hid (∀ W, Below w.heap.size w W → Calls Tryz.prog 8 #[.agg #[.slice Ay y.nc cay, .slice Ey y.ne cey]] W (IntsPost (ptsOf y) W)) := Lib.hid fun W hb => points_any y Ay Ey cay cey W (HT.out.below hb HT.out.pos) (HYW.out.below hb hb.size)
  have HRY : Hid (∀ W, Below w.heap.size w W → Calls Tryz.prog 10 #[.agg #[.slice Ay y.nc cay, .slice Ey y.ne cey]] W (IntsPost (ptsOf y) W)) := Lib.hid fun W hb => rpoints_any y Ay Ey cay cey W (HYW.out.below hb hb.size)
  have hfy := ptsOf_few y
  obtain ⟨py, hpy⟩ : ∃ z, ptsOf y = z := ⟨_, rfl⟩
  rw [hpy] at HPY HRY hfy
  clear hpy HYW
  go_enter Tryz.func3, Tryz.ntmps3
  go_upto_region 1 with (fail)
  have HB : Hid (Below w.heap.size w (w.alloc (.cells #[.slice Ay y.nc cay, .slice Ey y.ne cey] 25))) := Lib.hid ((Below.refl _ _).alloc (Nat.le_refl _) _)
  have HW := Lib.hid (Has.new w #[.slice Ay y.nc cay, .slice Ey y.ne cey] 25)
  obtain ⟨G, hG⟩ : ∃ G, w.heap.size = G := ⟨_, rfl⟩
  obtain ⟨W, hW⟩ : ∃ W, w.alloc (.cells #[.slice Ay y.nc cay, .slice Ey y.ne cey] 25) = W := ⟨_, rfl⟩
  rw [hW] at HB HW ⊢
  rw [hG] at HW
  try rw [hG]
  clear hW
  obtain ⟨nc, hnc⟩ : ∃ z, y.nc = z := ⟨_, rfl⟩
  obtain ⟨ne, hne⟩ : ∃ z, y.ne = z := ⟨_, rfl⟩
  rw [hnc, hne] at HPY HRY HW ⊢
  clear hnc hne
  obtain ⟨g0, g1, g2⟩ := HW.out.rules
  by_cases hbig : nc ≤ 60 ∧ ne ≤ 20
  · have hn1 : (nc : Int) ≤ 60 := by omega
    have hn2 : (ne : Int) ≤ 20 := by omega
    go_wp2_with fail
    refine (made_any Ad nd cd fd kn W hnd ((HDD.out.below HB.out).mono HB.out.size) ⟨kn0, kn1⟩).mono ?_
    rintro r w1 ⟨x, Ax, Ex, ca, ce, a, rfl, hx, hxo, hxn, ha, hb⟩
    have HXO := Lib.hid hxo
    replace HW := Lib.hid (HW.out.below hb g2)
    replace HB := Lib.hid (HB.out.trans (hb.mono HB.out.size))
    have HX := Lib.hid hx
    clear hb hx hxo g0 g1 g2
    go_upto_region 4 with (fail)
    have HV := Lib.hid (Has.new w1 #[.slice Ax x.nc ca, .slice Ex x.ne ce] 25)
    replace HX := Lib.hid (HX.out.below ((Below.refl _ _).alloc (Nat.le_refl _) (.cells #[.slice Ax x.nc ca, .slice Ex x.ne ce] 25)) (show w1.heap.size ≤ (w1.alloc (.cells #[.slice Ax x.nc ca, .slice Ex x.ne ce] 25)).heap.size by simp))
    replace HW := Lib.hid (HW.out.alloc (.cells #[.slice Ax x.nc ca, .slice Ex x.ne ce] 25))
    replace HB := Lib.hid (HB.out.alloc HB.out.size (.cells #[.slice Ax x.nc ca, .slice Ex x.ne ce] 25))
    obtain ⟨T, hT⟩ : ∃ z, w1.heap.size = z := ⟨_, rfl⟩
    obtain ⟨w2, hw2⟩ : ∃ z, w1.alloc (.cells #[.slice Ax x.nc ca, .slice Ex x.ne ce] 25) = z := ⟨_, rfl⟩
    rw [hw2] at HV HX HW HB ⊢
    rw [hT] at HV ⊢
    clear hT hw2
    have htl : T < w2.heap.size := HV.out.lt
    have hgl : G < w2.heap.size := HW.out.lt
    go_wp2_with fail
    refine (made_any Ad nd cd fd kk w2 hnd ((HDD.out.below HB.out).mono HB.out.size) ⟨kk0, kk1⟩).mono ?_
    rintro r w3 ⟨x2, Ax2, Ex2, ca2, ce2, b, rfl, _, _, _, hb0, hb⟩
    replace HW := Lib.hid (HW.out.below hb hgl)
    replace HV := Lib.hid (HV.out.below hb htl)
    replace HX := Lib.hid (HX.out.below hb hb.size)
    replace HB := Lib.hid (HB.out.trans (hb.mono HB.out.size))
    have hs23 := hb.size
    clear hb HDD
    go_upto_region 5 with (fail)
    replace HW := Lib.hid (HW.out.alloc (.cells #[.slice Ax2 x2.nc ca2, .slice Ex2 x2.ne ce2] 25))
    replace HV := Lib.hid (HV.out.alloc (.cells #[.slice Ax2 x2.nc ca2, .slice Ex2 x2.ne ce2] 25))
    replace HX := Lib.hid (HX.out.below ((Below.refl _ _).alloc (Nat.le_refl _) (.cells #[.slice Ax2 x2.nc ca2, .slice Ex2 x2.ne ce2] 25)) (show w3.heap.size ≤ (w3.alloc (.cells #[.slice Ax2 x2.nc ca2, .slice Ex2 x2.ne ce2] 25)).heap.size by simp))
    replace HB := Lib.hid (HB.out.alloc HB.out.size (.cells #[.slice Ax2 x2.nc ca2, .slice Ex2 x2.ne ce2] 25))
    obtain ⟨w4, hw4⟩ : ∃ z, w3.alloc (.cells #[.slice Ax2 x2.nc ca2, .slice Ex2 x2.ne ce2] 25) = z := ⟨_, rfl⟩
    rw [hw4] at HV HX HW HB ⊢
    clear hw4 htl hgl hs23
    obtain ⟨t0, t1, t2⟩ := HV.out.rules
    obtain ⟨g0, g1, g2⟩ := HW.out.rules
    go_upto_region 6 with (fail)
    have hab : 0 ≤ min a b ∧ min a b ≤ max a b ∧ max a b ≤ 876599 := by omega
    obtain ⟨aa, haa⟩ : ∃ z, min a b = z := ⟨_, rfl⟩
    obtain ⟨bb, hbb⟩ : ∃ z, max a b = z := ⟨_, rfl⟩
    rw [haa, hbb] at hab ⊢
    obtain ⟨ab0, ab1, ab2⟩ := hab
    have HTW := Lib.hid fun W (hb : Below w4.heap.size w4 W) => HT.out.below (HB.out.trans (hb.mono HB.out.size)) HT.out.pos
    have HPX : Hid (∀ W, Below w4.heap.size w4 W → Calls Tryz.prog 8 #[.agg #[.slice Ax x.nc ca, .slice Ex x.ne ce]] W (IntsPost (ptsOf x) W)) := Lib.hid fun W hb => points_any x Ax Ex ca ce W (HTW.out W hb) (HX.out.below hb hb.size)
    have HRX : Hid (∀ W, Below w4.heap.size w4 W → Calls Tryz.prog 10 #[.agg #[.slice Ax x.nc ca, .slice Ex x.ne ce]] W (IntsPost (ptsOf x) W)) := Lib.hid fun W hb => rpoints_any x Ax Ex ca ce W (HX.out.below hb hb.size)
    have HIF : Hid (∀ (h : Int) W, 0 ≤ h → h ≤ 876599 → Below w4.heap.size w4 W → Calls Tryz.prog 11 #[.agg #[.slice Ax x.nc ca, .slice Ex x.ne ce], .int .i64 h] W (InfP (infL x (actOf x h)) W)) := Lib.hid fun h W h0 h1 hb => inforce_any x Ax Ex ca ce h W (HTW.out W hb) (HX.out.below hb hb.size) HXO.out hxn.1 h0 h1
    have hfx := ptsOf_few x
    have HSM : Hid ((∀ j, j < (ptsOf x).length → ¬ (aa < nth (ptsOf x) j ∧ nth (ptsOf x) j ≤ bb)) → infL x (actOf x aa) = infL x (actOf x bb)) := Lib.hid fun hno => infL_same ab1 fun p hp => by
      rw [← ptsOf_yes HXO.out] at hp
      obtain ⟨j, hj, rfl⟩ := List.getElem_of_mem hp
      have := hno j hj
      rwa [nth_eq _ _ hj] at this
    obtain ⟨px, hpx⟩ : ∃ z, ptsOf x = z := ⟨_, rfl⟩
    obtain ⟨xa, hxa⟩ : ∃ z, infL x (actOf x aa) = z := ⟨_, rfl⟩
    have HIA : Hid (∀ W, Below w4.heap.size w4 W → Calls Tryz.prog 11 #[.agg #[.slice Ax x.nc ca, .slice Ex x.ne ce], .int .i64 aa] W (InfP xa W)) := Lib.hid fun W hb => by
      rw [← hxa]; exact HIF.out aa W ab0 (by omega) hb
    have HIB : Hid ((∀ j, j < px.length → ¬ (aa < nth px j ∧ nth px j ≤ bb)) → ∀ W, Below w4.heap.size w4 W → Calls Tryz.prog 11 #[.agg #[.slice Ax x.nc ca, .slice Ex x.ne ce], .int .i64 bb] W (InfP xa W)) := Lib.hid fun hno W hb => by
      rw [← hpx] at hno
      rw [← hxa, HSM.out hno]; exact HIF.out bb W (by omega) ab2 hb
    rw [hpx] at HPX HRX hfx
    obtain ⟨xn, hxn1⟩ : ∃ z, x.nc = z := ⟨_, rfl⟩
    obtain ⟨xe, hxe1⟩ : ∃ z, x.ne = z := ⟨_, rfl⟩
    rw [hxn1, hxe1] at HPX HRX HIA HIB HV ⊢
    clear HIF HSM hpx hxa hxn1 hxe1 HXO HX haa hbb t0 t1 t2 g0 g1 g2
    obtain ⟨t0, t1, t2⟩ := HV.out.rules
    go_wp2_with fail
    refine (HPX.out _ (Below.refl _ _)).mono ?_
    rintro r w5 ⟨Al, cl, rfl, hi5, hb5⟩
    have HI5 : Hid (Ints w5 w5.heap.size Al px) := Lib.hid hi5
    have HB5 := Lib.hid hb5
    have HWB5 : Hid (Below w.heap.size w w5) := Lib.hid (HB.out.trans (hb5.mono HB.out.size))
    have HW5 := Lib.hid (HW.out.below hb5 HW.out.lt)
    have HV5 := Lib.hid (HV.out.below hb5 HV.out.lt)
    clear hi5 hb5 t0 t1 t2 HPX HW HV
    have HSS : Hid (∀ V, Below w5.heap.size w5 V → (V.cell? ⟨G, 0, none⟩ = some (.slice Ay nc cay) ∧ V.cell? ⟨G, 1, none⟩ = some (.slice Ey ne cey)) ∧ V.cell? ⟨T, 0, none⟩ = some (.slice Ax xn ca) ∧ V.cell? ⟨T, 1, none⟩ = some (.slice Ex xe ce)) := Lib.hid fun V hb =>
      ⟨⟨by rw [(HW5.out.below hb HW5.out.lt).cell]; rfl, by rw [(HW5.out.below hb HW5.out.lt).cell]; rfl⟩, by rw [(HV5.out.below hb HV5.out.lt).cell]; rfl, by rw [(HV5.out.below hb HV5.out.lt).cell]; rfl⟩
    have HBB : Hid (Below w5.heap.size w5 w5.drew) := Lib.hid (Below.drew (Below.refl _ _))
    go_upto_region 7 with (fail)
    go_region_held3 (fun V => (V.cell? ⟨G, 0, none⟩ = some (.slice Ay nc cay) ∧ V.cell? ⟨G, 1, none⟩ = some (.slice Ey ne cey)) ∧ V.cell? ⟨T, 0, none⟩ = some (.slice Ax xn ca) ∧ V.cell? ⟨T, 1, none⟩ = some (.slice Ex xe ce)) (first | exact HSS.out _ HBB.out) (first
      | (go_at_call 8; refine (HPY.out _ (HWB5.out.trans (HBB.out.mono HWB5.out.size))).mono ?_; rintro r w6 ⟨A6, c6, rfl, hi6, hb6⟩; have HI6 : Hid (Ints w6 w6.heap.size A6 py) := Lib.hid hi6; replace HBB : Hid (Below w5.heap.size w5 w6) := Lib.hid (HBB.out.trans (hb6.mono HBB.out.size)); clear hi6 hb6 HPY)
      | (go_at_call 10; refine (HRY.out _ (HWB5.out.trans (HBB.out.mono HWB5.out.size))).mono ?_; rintro r w7 ⟨A7, c7, rfl, hi7, hb7⟩; have HI7 : Hid (Ints w7 w7.heap.size A7 py) := Lib.hid hi7; replace HI6 : Hid (Ints w7 w7.heap.size A6 py) := Lib.hid (Cells.mono (Cells.below HI6.out hb7) hb7.size); replace HBB : Hid (Below w5.heap.size w5 w7) := Lib.hid (HBB.out.trans (hb7.mono HBB.out.size)); clear hi7 hb7 HRY)
      | (go_at_call 9; refine (same_yes A6 A7 py.length c6 c7 (nth py) w7.heap.size w7.heap.size _ (by omega) HI6.out HI7.out).mono ?_; rintro r w8 ⟨rfl, q8, rfl⟩; replace HBB : Hid (Below w5.heap.size w5 (w7.drewN q8)) := Lib.hid (below_drewN HBB.out q8); clear HI6 HI7)
      | (go_at_call 10; refine (HRX.out _ (HB5.out.trans (HBB.out.mono HB5.out.size))).mono ?_; rintro r w9 ⟨A9, c9, rfl, hi9, hb9⟩; have HI9 : Hid (Ints w9 w9.heap.size A9 px) := Lib.hid hi9; replace HBB : Hid (Below w5.heap.size w5 w9) := Lib.hid (HBB.out.trans (hb9.mono HBB.out.size)); clear hi9 hb9 HRX)
      | (go_at_call 9; refine (same_yes Al A9 px.length cl c9 (nth px) w9.heap.size w9.heap.size _ (by omega) (Cells.mono (Cells.below HI5.out HBB.out) HBB.out.size) HI9.out).mono ?_; rintro r w10 ⟨rfl, q10, rfl⟩; replace HBB : Hid (Below w5.heap.size w5 (w9.drewN q10)) := Lib.hid (below_drewN HBB.out q10); clear HI9))
    obtain ⟨wz, hwz⟩ : ∃ z, w9.drewN q10 = z := ⟨_, rfl⟩
    rw [hwz] at HBB ⊢
    have HIZ : Hid (Ints wz wz.heap.size Al px) := Lib.hid (Cells.mono (Cells.below HI5.out HBB.out) HBB.out.size)
    have HVZ := Lib.hid (HV5.out.below HBB.out HV5.out.lt)
    have HBZ : Hid (Below w4.heap.size w4 wz) := Lib.hid (HB5.out.trans (HBB.out.mono HB5.out.size))
    have HWZ : Hid (Below w.heap.size w wz) := Lib.hid (HB.out.trans (HBZ.out.mono HB.out.size))
    have HTZ := Lib.hid (HTW.out wz HBZ.out)
    clear hwz HSS HBB HI5 HV5 HW5 HB5 HWB5
    go_wp2_with fail
    go_loopw [14] (fun i wr => ∃ j : Nat, j ≤ px.length ∧ i = .int .i64 j ∧ Hid (∀ q, q < j → ¬ (aa < nth px q ∧ nth px q ≤ bb)) ∧ wr = wz) (fun i _ => px.length - (intOf i).toNat)
    case atStart => exact ⟨0, Nat.zero_le _, rfl, Lib.hid fun q hq => by omega, rfl⟩
    case round =>
      obtain ⟨j, hj, rfl, HNO, rfl⟩ := hrel
      by_cases hlt : j < px.length
      · obtain ⟨bp, op, hAp, hbp, hcp⟩ := Nums.get (f := nth px) HIZ.out hlt
        subst hAp
        have hj0 : (0 : Int) ≤ j := by omega
        have hj1 : (j : Int) < px.length := by omega
        have HNN : Hid (¬ (aa < nth px j ∧ nth px j ≤ bb) → ∀ q, q < j + 1 → ¬ (aa < nth px q ∧ nth px q ≤ bb)) := Lib.hid fun h q hq => by
          by_cases e : q = j
          · subst e; exact h
          · exact HNO.out q (by omega)
        obtain ⟨pj, hpj⟩ : ∃ z, nth px j = z := ⟨_, rfl⟩
        rw [hpj] at hcp HNN
        clear hpj HNO
        by_cases hp1 : aa < pj
        · by_cases hp2 : pj ≤ bb
          · go_wp2_with fail
            refine (awake_any wr HTZ.out).mono ?_
            rintro e w11 ⟨rfl, hb11⟩
            go_wp2_with fail
            go_ret
            exact ⟨rfl, HWZ.out.trans (hb11.mono HWZ.out.size)⟩
          · have HN2 := Lib.hid (HNN.out fun c => hp2 c.2)
            have hp3 : bb < pj := by omega
            clear hp2 HNN
            go_wp2_with fail
            go_roundw
            case rel => exact ⟨j + 1, by omega, by go_num, HN2, trivial⟩
            case measure => simp [intOf]; omega
        · have HN2 := Lib.hid (HNN.out fun c => hp1 c.1)
          have hp3 : pj ≤ aa := by omega
          clear hp1 HNN
          go_wp2_with fail
          go_roundw
          case rel => exact ⟨j + 1, by omega, by go_num, HN2, trivial⟩
          case measure => simp [intOf]; omega
      · obtain rfl : px.length = j := by omega
        have hdd : decide ((px.length : Int) < px.length) = false := by rw [decide_eq_false_iff_not]; omega
        have HI2 := Lib.hid (HIB.out HNO.out)
        clear hlt HNO HIB
        obtain ⟨t0, t1, t2⟩ := HVZ.out.rules
        go_wp2_with fail
        refine (HIA.out _ HBZ.out).mono ?_
        rintro r w10 hr
        obtain ⟨A1, n1, c1, cs1, e1, rfl, hcl, hb10, htk⟩ := hr.take
        have HTK := Lib.hid htk
        have HC1 := Lib.hid hcl
        have HVA := Lib.hid (HVZ.out.below hb10 t2)
        have HB10 : Hid (Below w4.heap.size w4 w10) := Lib.hid (HBZ.out.trans (hb10.mono HBZ.out.size))
        clear hr hcl htk t0 t1 t2 hb10 HIA
        obtain ⟨t0, t1, t2⟩ := HVA.out.rules
        go_wp2_with fail
        refine (HI2.out _ HB10.out).mono ?_
        rintro r w11 hr
        obtain ⟨A2, c2, rfl, hcl2, hb11⟩ := HTK.out _ _ _ hr
        have HC1' : Hid (ClsAt w11 w11.heap.size A1 n1 cs1) := Lib.hid (HC1.out.below hb11 hb11.size)
        have HC2 := Lib.hid hcl2
        have HB11 : Hid (Below w4.heap.size w4 w11) := Lib.hid (HB10.out.trans (hb11.mono HB10.out.size))
        have HT11 := Lib.hid (HTW.out w11 HB11.out)
        have HW11 : Hid (Below w.heap.size w w11) := Lib.hid (HB.out.trans (HB11.out.mono HB.out.size))
        clear hr hcl2 hb11 HTK HI2 HC1 t0 t1 t2
        go_wp2_with fail
        refine (rsameclauses_yes A1 A2 n1 c1 c2 cs1 w11 HC1'.out HC2.out).mono ?_
        rintro e w12 ⟨rfl, hb12⟩
        have HT12 := Lib.hid (HT11.out.below hb12 HT11.out.pos)
        have HW12 : Hid (Below w.heap.size w w12) := Lib.hid (HW11.out.trans (hb12.mono HW11.out.size))
        clear hb12
        go_wp2_with fail
        refine (awake_any w12 HT12.out).mono ?_
        rintro e w13 ⟨rfl, hb13⟩
        go_wp2_with fail
        go_ret
        exact ⟨rfl, HW12.out.trans (hb13.mono HW12.out.size)⟩
  · have HTB := Lib.hid (HT.out.below HB.out HT.out.pos)
    by_cases hn60 : 60 < nc
    · have hn1 : (60 : Int) < nc := by omega
      go_wp2_with fail
      refine (awake_any W HTB.out).mono ?_
      rintro e w11 ⟨rfl, hb11⟩
      go_wp2_with fail
      go_ret
      exact ⟨rfl, HB.out.trans (hb11.mono HB.out.size)⟩
    · have hn1 : (nc : Int) ≤ 60 := by omega
      have hn2 : (20 : Int) < ne := by omega
      go_wp2_with fail
      refine (awake_any W HTB.out).mono ?_
      rintro e w11 ⟨rfl, hb11⟩
      go_wp2_with fail
      go_ret
      exact ⟨rfl, HB.out.trans (hb11.mono HB.out.size)⟩

set_option maxRecDepth 100000 in
theorem lifted (os : Os) (started : os.Started) (H : Type) (enc : TypeId × Value → H) :
    ReturnsInHanded {} Tryz.checked os 3 .any (fun w args => (Rows.endorsePointsSpec.pre enc Tryz.prog Tryz.f3 [] false w args ∧ laidMetH Tryz.prog opsLaid w) ∧ sizedMet enc Tryz.prog Tryz.f3 (OpenSpec.ofChange Rows.endorsePointsSpec) false w args) (Rows.endorsePointsSpec.post enc Tryz.prog Tryz.f3 false true false false) := by
  refine returnsInHanded_of_change_and (C := Tryz.checked) (X := fun w _ => laidMetH Tryz.prog opsLaid w) (fun _ _ _ hh h => h.of_heap hh) own started (by kernel_rfl) Tryz.func3
    (ChangeSpec.witness_shaped (enc := enc) (C := Tryz.checked) (os := os) (X := fun w _ => laidMetH Tryz.prog opsLaid w) false (World.doorLaid Tryz.prog 400 os) #[.agg #[.slice none 0 0, .slice none 0 0], .slice none 0 0, .int .i64 0, .int .i64 0] 8 rfl (World.shaped_of_RefB (by kernel_rfl) (by kernel_rfl)) (by kernel_rfl) (by kernel_rfl) (by kernel_rfl) (door_met os _)) ?_
  intro W base args ds gs before hval0 hW _ _ hL _
  have hval : ∀ (j : Nat) t v, Tryz.f3.params[j]? = some t → args[j]? = some v → Value.okWide Tryz.prog W .any base t v := hval0
  have hW' := hW
  obtain ⟨p, q, hA0, hV, rfl, hfz, hnd⟩ := hW
  have hA : DataW.TrodAll enc Tryz.prog W 0 (fun _ => true) true Tryz.f3.params.toList args.toList ds p := hA0
  rw [Tryz.params3] at hA hval
  obtain ⟨v0, vs0, d0, ds0, p0, q0, hargs, rfl, rfl, h0, r0⟩ := trodAll_cons hA
  obtain ⟨v1, vs1, d1, ds1, p1, q1, rfl, rfl, rfl, h1, r1⟩ := trodAll_cons r0
  obtain ⟨v2, vs2, d2, ds2, p2, q2, rfl, rfl, rfl, h2, r2⟩ := trodAll_cons r1
  obtain ⟨v3, vs3, d3, ds3, p3, q3, rfl, rfl, rfl, h3, r3⟩ := trodAll_cons r2
  obtain ⟨rfl, rfl, rfl⟩ := trodAll_nil r3
  obtain rfl : args = #[v0, v1, v2, v3] := by cases args; simp_all
  obtain ⟨rfl, rfl⟩ := trodVars_none hV
  have k0 := h0
  have lt0 : ∀ x ∈ p0, x.block < W.heap.size := by obtain ⟨m, hm⟩ := k0; exact DataW.trod_lt m _ _ _ hm
  obtain ⟨⟨c0⟩, rfl, _⟩ := okWide_struct Tryz.underlying25 (hval 0 25 v0 rfl rfl)
  have r100 : Rd25 W c0 := by obtain ⟨fuel, hf⟩ := h0; exact rd25 hf
  have k1 := h1
  have lt1 : ∀ x ∈ p1, x.block < W.heap.size := by obtain ⟨m, hm⟩ := k1; exact DataW.trod_lt m _ _ _ hm
  obtain ⟨a1, len1, cap1, rfl⟩ := okWide_slice Tryz.underlying26 (hval 1 26 v1 rfl rfl)
  have r101 : Rd26 W [.slice a1 len1 cap1] := by obtain ⟨fuel, hf⟩ := h1; exact rd26 hf
  have k2 := h2
  have lt2 : ∀ x ∈ p2, x.block < W.heap.size := by obtain ⟨m, hm⟩ := k2; exact DataW.trod_lt m _ _ _ hm
  obtain ⟨a2, rfl⟩ := okWide_int Tryz.underlying3 (hval 2 3 v2 rfl rfl)
  have r102 : Rd3 W [.int .i64 a2] := by obtain ⟨fuel, hf⟩ := h2; exact rd3 hf
  have k3 := h3
  have lt3 : ∀ x ∈ p3, x.block < W.heap.size := by obtain ⟨m, hm⟩ := k3; exact DataW.trod_lt m _ _ _ hm
  obtain ⟨a3, rfl⟩ := okWide_int Tryz.underlying3 (hval 3 3 v3 rfl rfl)
  have r103 : Rd3 W [.int .i64 a3] := by obtain ⟨fuel, hf⟩ := h3; exact rd3 hf
  clear hA0 hval0
  refine (walk c0 _ _ _ W (tab_of_laid hL) r100 r101 r102 r103).mono fun e W' ⟨he, bel⟩ => ?_
  subst he
  exact ⟨_, rfl, _, _, _, [], _, [], hW', trodAll_mk1 (shut_bool Tryz.underlying4 _), (trodAll_cons_mk (Below.trod laidOut (by kernel_rfl) (of_decide_eq_true (by kernel_rfl)) k0 bel lt0) (trodAll_cons_mk (Below.trod laidOut (by kernel_rfl) (of_decide_eq_true (by kernel_rfl)) k1 bel lt1) (trodAll_cons_mk (Below.trod laidOut (by kernel_rfl) (of_decide_eq_true (by kernel_rfl)) k2 bel lt2) (trodAll_cons_mk (Below.trod laidOut (by kernel_rfl) (of_decide_eq_true (by kernel_rfl)) k3 bel lt3) trodAll_mk0)))), rfl, bel.frame _, fun h => by cases h⟩

theorem over : Rows.endorsePointsRow.holds Tryz.pinned (OpenSpec.ofChange Rows.endorsePointsSpec) :=
  OpenClaim.holds_of_wide 3 Tryz.f3 rfl rfl rfl rfl rfl rfl rfl ⟨rfl, rfl, rfl, rfl, rfl⟩ rfl rfl rfl rfl rfl (by kernel_rfl) Tryz.func3 (by kernel_rfl)
    (of_decide_eq_true (by kernel_rfl)) (by unfold Func.isWrapper; first | (rw [if_pos (by decide +kernel)]; kernel_rfl) | (rw [if_neg (by decide +kernel)]; exact ⟨rfl, rfl⟩))
    (fun os started H enc _ => lifted os started H enc)

/-- the statement: the tied card -/
theorem proved : Rows.EndorsePointsCardSaid :=
  Claim7.holds_tied_plain_at .later [] [.data] true (true, "95c76f1712f627399a8c6fef5c025c31d4f32c88ce87d29905735f8224b85ccd") false
    over (fun _ h => by cases h) (by kernel_rfl) (fun _ h => by cases h) endorsePoints_row_tie rfl ⟨rfl, rfl⟩ (by kernel_rfl) rfl
    (fun f fn hf hfn => by
      obtain rfl : f = 3 := Option.some.inj ((show Tryz.prog.funcNamed "treaty/treatylaw09.EndorsePoints" = some 3 by kernel_rfl).symm.trans hf) |>.symm
      obtain rfl : fn = Tryz.f3 := (Option.some.inj (Tryz.func3.symm.trans hfn)).symm
      exact ⟨by kernel_rfl, fun j t ht => by
        rw [Tryz.params3] at ht
        have hm : t ∈ [25, 26, 3, 3] := by simpa using Array.mem_of_getElem? ht
        have hall : ([25, 26, 3, 3].all fun u => !Tryz.prog.wantsStandIn u) = true := by kernel_rfl
        exact (show Tryz.prog.wantsStandIn t = false by simpa using List.all_eq_true.1 hall t hm)⟩)
    (by kernel_rfl)
#print axioms proved
end Go.Proofs.YtlbkhhbbkedhkaaGreatDoor.endorsePoints
