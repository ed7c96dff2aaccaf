/- The law EndorseOutside: an endorsement has no effect outside of its period, wherever it stands. No condition. -/
import Derived.Test.YtlbkhhbbkedhkaaGreatDoorRows
import Derived.Test.YtlbkhhbbkedhkaaGreatDoorRead
import Derived.Test.YtlbkhhbbkedhkaaGreatDoorMa31
import Derived.Test.YtlbkhhbbkedhkaaGreatDoorTie
import Derived.Test.YtlbkhhbbkedhkaaGreatDoorCards
import Derived.SevenTiedAt
import Derived.Test.YtlbkhhbbkedhkaaGreatDoorMc03
import Derived.WalkKit
import Derived.ProofKit
import Derived.OpenShut
import Derived.ShutString
import Derived.ChangeOld
import Derived.Below
namespace Go.Proofs.YtlbkhhbbkedhkaaGreatDoor.endorseOutside
open Go.ChangeShapes Go.WideShapes Go.ChangeAt Go.RowKit
set_option linter.unusedVariables false
set_option linter.unusedSimpArgs false

theorem own : ownKnob Tryz.prog.godebug = none := by kernel_rfl
theorem laidOut : laidOutB Tryz.prog = true := by kernel_rfl



set_option maxHeartbeats 4000000 in
set_option maxRecDepth 100000 in
theorem walk (v0 : Value) (v1 : Value) (v2 : Value) (c3 : List Value) (w : World) (ht : Tab w) (h0 : Rd26 w [v0]) (h1 : Rd3 w [v1]) (h2 : Rd3 w [v2]) (h3 : Rd38 w c3) :
    Calls Tryz.prog 4 #[v0, v1, v2, .agg c3.toArray] w fun e w' => e = .returned (.bool true) ∧ Below w.heap.size w w' := by
  obtain ⟨Ad, nd, cd, fd, rfl, hnd, _, _, hd, _⟩ := rd_ints h0
  obtain ⟨kn, rfl, kn0, kn1⟩ := rd_i64 h1
  obtain ⟨ka, rfl, ka0, ka1⟩ := rd_i64 h2
  obtain ⟨v0, v1, rfl, hv0, hv1⟩ := h3
  obtain ⟨pf, rfl, pf0, pf1⟩ := rd_i64 hv0
  obtain ⟨pt, rfl, pt0, pt1⟩ := rd_i64 hv1
  have HT := Lib.hid ht
  have HDD := Lib.hid hd
  clear h0 h1 h2 hv0 hv1 hd ht
  go_enter Tryz.func4, Tryz.ntmps4
  go_upto_region 1 with (fail)
  have HB : Hid (Below w.heap.size w (w.alloc (.cells #[.int .i64 pf, .int .i64 pt] 38))) := Lib.hid ((Below.refl _ _).alloc (Nat.le_refl _) _)
  have HP := Lib.hid (Has.new w #[.int .i64 pf, .int .i64 pt] 38)
  obtain ⟨P, hP⟩ : ∃ G, w.heap.size = G := ⟨_, rfl⟩
  have HPE := Lib.hid hP
  obtain ⟨W, hW⟩ : ∃ W, w.alloc (.cells #[.int .i64 pf, .int .i64 pt] 38) = W := ⟨_, rfl⟩
  have hWs : W.heap.size = P + 1 := by rw [← hW, ← hP]; simp
  have HWS := Lib.hid hWs
  clear hWs
  rw [hW] at HB HP ⊢
  rw [hP] at HP
  try rw [hP]
  clear hW hP
  go_wp2_with fail
  refine (made_strong Ad nd cd fd kn W hnd ((HDD.out.below HB.out).mono HB.out.size) ⟨kn0, kn1⟩).mono ?_
  rintro r w1 ⟨x, Ax, Ex, ca, ce, h, rfl, hx, hxo, ⟨hxc, hxn, hxcap, hxnil⟩, ⟨hh0, hh1⟩, hb⟩
  have HXO := Lib.hid hxo
  replace HP := Lib.hid (HP.out.below hb HP.out.lt)
  have hP1 : P < w1.heap.size := HP.out.lt
  replace HB := Lib.hid (HB.out.trans (hb.mono HB.out.size))
  have HX : Hid (∀ V : World, (∀ q, P + 1 < q → q < w1.heap.size → V.heap[q]? = w1.heap[q]?) → w1.heap.size ≤ V.heap.size → WrAt V V.heap.size x Ax Ex) := Lib.hid fun V hV hs => hx V (fun q h1 h2 => hV q (by rw [HWS.out] at h1; exact h1) h2) hs
  clear hb hx hxo HDD
  go_upto_region 2 with (fail)
  have HV := Lib.hid (Has.new w1 #[.slice Ax x.nc ca, .slice Ex x.ne ce] 25)
  replace HP := Lib.hid (HP.out.alloc (.cells #[.slice Ax x.nc ca, .slice Ex x.ne ce] 25))
  have HBX : Hid (Below w1.heap.size w1 (w1.alloc (.cells #[.slice Ax x.nc ca, .slice Ex x.ne ce] 25))) := Lib.hid ((Below.refl _ _).alloc (Nat.le_refl _) _)
  replace HB := Lib.hid (HB.out.alloc HB.out.size (.cells #[.slice Ax x.nc ca, .slice Ex x.ne ce] 25))
  obtain ⟨T, hT⟩ : ∃ z, w1.heap.size = z := ⟨_, rfl⟩
  have HTE := Lib.hid hT
  obtain ⟨w2, hw2⟩ : ∃ z, w1.alloc (.cells #[.slice Ax x.nc ca, .slice Ex x.ne ce] 25) = z := ⟨_, rfl⟩
  rw [hw2] at HV HP HB HBX ⊢
  rw [hT] at HV HBX ⊢
  clear hT hw2
  obtain ⟨p0, p1, p2⟩ := HP.out.rules
  go_wp2_with fail
  refine (within_any pf 876599 _ (by omega) (by omega)).mono ?_
  rintro e w' ⟨rfl, rfl⟩
  obtain ⟨f0, f1⟩ := Am.within_bound pf 876599 (by omega)
  obtain ⟨f, hf⟩ : ∃ z, Am.within pf 876599 = z := ⟨_, rfl⟩
  rw [hf] at f0 f1 ⊢
  clear hf
  go_upto_region 3 with (fail)
  have HPA := Lib.hid (HP.out.put 0 (.int .i64 f))
  have hPT : P < T := by rw [← HTE.out]; exact hP1
  have HVA := Lib.hid (HV.out.far (p := ⟨P, 0, none⟩) (show T ≠ P by omega) (.int .i64 f))
  have HKA : Hid (∀ q, q ≠ P → (w2.setCell ⟨P, 0, none⟩ (.int .i64 f)).heap[q]? = w2.heap[q]?) := Lib.hid fun q hq => Below.heap_setCell w2 ⟨P, 0, none⟩ _ q hq
  have HBA : Hid (Below w.heap.size w (w2.setCell ⟨P, 0, none⟩ (.int .i64 f))) := Lib.hid (HB.out.setCell (by rw [HPE.out]; exact Nat.le_refl _) _)
  have hsA : (w2.setCell ⟨P, 0, none⟩ (.int .i64 f)).heap.size = w2.heap.size := by simp
  have HSA := Lib.hid hsA
  obtain ⟨wA, hwA⟩ : ∃ z, w2.setCell ⟨P, 0, none⟩ (.int .i64 f) = z := ⟨_, rfl⟩
  rw [hwA] at HPA HVA HKA HBA HSA ⊢
  replace HPA : Hid (Has wA P #[.int .i64 f, .int .i64 pt] 38) := HPA
  clear hwA hsA p0 p1 p2
  obtain ⟨i0, i1⟩ := Am.within_bound pt (876599 - f) (by omega)
  have HWI : Hid (∀ W, Calls Tryz.prog 13 #[.int .i64 pt, .int .i64 (876599 - f)] W fun e w' => e = .returned (.int .i64 (Am.within pt (876599 - f))) ∧ W = w') := Lib.hid fun W => within_any pt (876599 - f) W (by omega) (by omega)
  obtain ⟨tq, htq⟩ : ∃ z, Am.within pt (876599 - f) = z := ⟨_, rfl⟩
  rw [htq] at i0 i1 HWI
  clear htq
  have hw1 : IntKind.i64.wrap (876599 - f) = 876599 - f := by rw [IntKind.wrap_i64]; omega
  have hw2 : IntKind.i64.wrap (f + 1) = f + 1 := by rw [IntKind.wrap_i64]; omega
  have hw3 : IntKind.i64.wrap (f + 1 + tq) = f + 1 + tq := by rw [IntKind.wrap_i64]; omega
  obtain ⟨p0, p1, p2⟩ := HPA.out.rules
  go_cut [10] from 27 to 37 (fun hx wx => hx = .int .i64 h ∧ wA.drew.setCell ⟨P, 1, none⟩ (.int .i64 (f + 1 + tq)) = wx)
  case first =>
    go_region_law (first | (go_simp; go_at_call 13; refine (HWI.out _).mono ?_; rintro e w' ⟨rfl, rfl⟩))
    all_goals
      go_wp2_with fail
      go_meet
      case rel => exact ⟨rfl, rfl⟩
  case rest =>
    obtain ⟨rfl, hwx⟩ := hcut
    have HP3 : Hid (Has wc P #[.int .i64 f, .int .i64 (f + 1 + tq)] 38) := Lib.hid (by rw [← hwx]; exact HPA.out.drew.put 1 _)
    have HV3 : Hid (Has wc T #[.slice Ax x.nc ca, .slice Ex x.ne ce] 25) := Lib.hid (by rw [← hwx]; exact HVA.out.drew.far (p := ⟨P, 1, none⟩) (show T ≠ P by omega) _)
    have HB3 : Hid (Below w.heap.size w wc) := Lib.hid (by rw [← hwx]; exact (HBA.out.drew).setCell (by rw [HPE.out]; exact Nat.le_refl _) _)
    have HXW : Hid (∀ V, Below wc.heap.size wc V → WrAt V V.heap.size x Ax Ex) := Lib.hid fun V hb => by
      have hs1 : w2.heap.size = wc.heap.size := by rw [← hwx]; simp; exact HSA.out.symm
      have hs2 := HBX.out.size
      have hs3 := HTE.out
      refine HX.out V (fun q h1 h2 => ?_) (by have := hb.size; omega)
      rw [hb.block q (by omega), ← hwx, Below.heap_setCell _ ⟨P, 1, none⟩ _ q (show q ≠ P by omega)]
      exact (HKA.out q (by omega)).trans (HBX.out.block q (by omega))
    have HTW := Lib.hid fun V (hb : Below wc.heap.size wc V) => HT.out.below (HB3.out.trans (hb.mono HB3.out.size)) HT.out.pos
    obtain ⟨t2, ht2⟩ : ∃ z, f + 1 + tq = z := ⟨_, rfl⟩
    have hft : f < t2 ∧ t2 ≤ 876599 := by omega
    rw [ht2] at HP3
    clear hwx ht2 HPA HVA HBA HKA HSA HBX HX HP HV HB HT HWI hw1 hw2 hw3 i0 i1 p0 p1 p2 HPE HTE HWS
    obtain ⟨p0, p1, p2⟩ := HP3.out.rules
    have HIW : Hid (∀ V, Below wc.heap.size wc V → Calls Tryz.prog 11 #[.agg #[.slice Ax x.nc ca, .slice Ex x.ne ce], .int .i64 h] V (InfP (infL x (actOf x h)) V)) := Lib.hid fun V hb => inforce_any x Ax Ex ca ce h V (HTW.out V hb) (HXW.out V hb) HXO.out hxc hh0 hh1
    obtain ⟨hcl3, hbg3, PN, hce3, hen3⟩ := HXW.out wc (Below.refl _ _)
    have HCE : Hid (Cells wc wc.heap.size Ex (x.ne * 4) (enF x.es PN)) := Lib.hid hce3
    have HIV : Hid (∀ (k : Nat) (a : NA) (V : World) (g cap : Nat), k ≤ x.ne → ¬ (f ≤ h ∧ h < t2) → Below wc.heap.size wc V → Cells V V.heap.size (some ⟨g, 0, none⟩) ((x.ne + 1) * 4) (enF (insE x.es k (outE f t2)) (insP PN k a)) → EnAt V V.heap.size (outE f t2) a → Calls Tryz.prog 11 #[.agg #[.slice Ax x.nc ca, .slice (some ⟨g, 0, none⟩) (x.ne + 1) cap], .int .i64 h] V (InfP (infL x (actOf x h)) V)) := Lib.hid fun k a V g cap hk hno hb hcc hea => by
      rw [← infL_ins (x := x) (k := k) (y := outE f t2) (h := h) hk (by unfold inB' outE; simp only [decide_eq_false_iff_not]; omega)]
      refine inforce_any (insX x k (outE f t2)) Ax (some ⟨g, 0, none⟩) ca cap h V (HTW.out V hb) ⟨(HXW.out V hb).1, show x.ne + 1 ≤ big by unfold big; omega, insP PN k a, hcc, fun i hi => ?_⟩ (insX_ok HXO.out hk (by omega) (outE_ok ⟨f0, hft⟩)) hxc hh0 hh1
      show EnAt V V.heap.size (insE x.es k (outE f t2) i) (insP PN k a i)
      have hi : i < x.ne + 1 := hi
      unfold insE insP
      by_cases c1 : i < k
      · rw [if_pos c1, if_pos c1]; exact (hen3 i (by omega)).below hb hb.size
      · rw [if_neg c1, if_neg c1]
        by_cases c2 : i = k
        · rw [if_pos c2, if_pos c2]; exact hea
        · rw [if_neg c2, if_neg c2]; exact (hen3 (i - 1) (by omega)).below hb hb.size
    obtain ⟨R, hR⟩ : ∃ z, infL x (actOf x h) = z := ⟨_, rfl⟩
    obtain ⟨es, hes⟩ : ∃ z, x.es = z := ⟨_, rfl⟩
    obtain ⟨nc, hnc⟩ : ∃ z, x.nc = z := ⟨_, rfl⟩
    obtain ⟨ne, hne⟩ : ∃ z, x.ne = z := ⟨_, rfl⟩
    rw [hR, hnc, hne] at HIW
    rw [hR, hes, hnc, hne] at HIV
    rw [hes, hne] at HCE
    rw [hnc, hne] at HV3 ⊢
    rw [hne] at hxn hxcap hxnil
    have HNIL := Lib.hid hxnil
    clear hR hes hnc hne hxnil hcl3 hbg3 hce3 hen3 HXW HXO
    obtain ⟨v0, v1, v2⟩ := HV3.out.rules
    go_upto_region 4 with (fail)
    go_cut [47] from 38 to 46 (fun cx wx => cx = .bool (decide (f ≤ h ∧ h < t2)) ∧ wc = wx)
    case first =>
      by_cases hf1 : f ≤ h
      · by_cases hf2 : h < t2
        · go_wp2_with fail
          go_meet
          case rel => exact ⟨by simp [hf1, hf2], rfl⟩
        · have hf3 : t2 ≤ h := by omega
          go_wp2_with fail
          go_meet
          case rel => exact ⟨by simp [hf1, hf2], rfl⟩
      · have hf3 : h < f := by omega
        go_wp2_with fail
        go_meet
        case rel => exact ⟨by simp; omega, rfl⟩
    case rest =>
      obtain ⟨rfl, rfl⟩ := hcut
      by_cases hin : f ≤ h ∧ h < t2
      · have hind : decide (f ≤ h ∧ h < t2) = true := decide_eq_true hin
        rw [hind]
        clear hind hin
        go_wp2_with fail
        refine (awake_any wc (HTW.out wc (Below.refl _ _))).mono ?_
        rintro e w11 ⟨rfl, hb11⟩
        go_wp2_with fail
        go_ret
        exact ⟨rfl, HB3.out.trans (hb11.mono HB3.out.size)⟩
      · have HNO := Lib.hid hin
        have hind : decide (f ≤ h ∧ h < t2) = false := decide_eq_false hin
        rw [hind]
        clear hind hin
        have hwn : IntKind.i64.wrap ((ne : Int) + 1) = ((ne + 1 : Nat) : Int) := by rw [IntKind.wrap_i64]; omega
        go_wp2_with fail
        refine (within_any ka (ne + 1 : Nat) _ (by omega) (by omega)).mono ?_
        rintro e w' ⟨rfl, rfl⟩
        obtain ⟨i0, i1⟩ := Am.within_bound ka (ne + 1 : Nat) (by omega)
        obtain ⟨k, hk⟩ : ∃ k : Nat, Am.within ka (ne + 1 : Nat) = k := ⟨(Am.within ka (ne + 1 : Nat)).toNat, by omega⟩
        rw [hk] at i0 i1 ⊢
        have hkn : k ≤ ne := by omega
        have hki : (k : Int) ≤ ne := by omega
        have hkc : (k : Int) ≤ ce := by omega
        have hk0 : (0 : Int) ≤ k := by omega
        clear hk i1
        go_upto_region 8 with (fail)
        have HU := Lib.hid (Has.new wc #[.slice Ax nc ca, .slice Ex ne ce] 25)
        have HB4 : Hid (Below wc.heap.size wc (wc.alloc (.cells #[.slice Ax nc ca, .slice Ex ne ce] 25))) := Lib.hid ((Below.refl _ _).alloc (Nat.le_refl _) _)
        obtain ⟨U, hU⟩ : ∃ z, wc.heap.size = z := ⟨_, rfl⟩
        have HUE := Lib.hid hU
        obtain ⟨w4, hw4⟩ : ∃ z, wc.alloc (.cells #[.slice Ax nc ca, .slice Ex ne ce] 25) = z := ⟨_, rfl⟩
        rw [hw4] at HU HB4 ⊢
        rw [hU] at HU ⊢
        clear hU hw4 v0 v1 v2 p0 p1 p2
        have HV4 := Lib.hid (HV3.out.below HB4.out HV3.out.lt)
        have HP4 := Lib.hid (HP3.out.below HB4.out HP3.out.lt)
        have HC4 : Hid (Cells w4 U Ex (ne * 4) (enF es PN)) := Lib.hid (by rw [← HUE.out]; exact Cells.below HCE.out HB4.out)
        have hUl : U < w4.heap.size := HU.out.lt
        have hTU : T < U := by rw [← HUE.out]; exact HV3.out.lt
        have hPU : P < U := by rw [← HUE.out]; exact HP3.out.lt
        clear HCE HV3 HP3
        obtain ⟨j0, hj0, hz0, hz1, hz2⟩ := info_parts en_all
        have HI := Lib.hid hj0
        have HZ0 := Lib.hid hz0
        have HZ1 := Lib.hid hz1
        have HZ2 := Lib.hid hz2
        clear hj0 hz0 hz1 hz2
        go_cut [10] from 56 to 62 (fun hx wx => hx = .int .i64 h ∧ ∃ g1 cap1 : Nat, Hid (Has wx U #[.slice Ax nc ca, .slice (some ⟨g1, 0, none⟩) k cap1] 25) ∧ Hid (wx.ownsRow w4.heap.size 49 4 (.slice (some ⟨g1, 0, none⟩) k cap1) k ((List.range (k * 4)).map (enF es PN))) ∧ Hid (Below U w4 wx))
        case first =>
          by_cases hn0 : ne = 0
          · obtain ⟨rfl, rfl⟩ := HNIL.out hn0
            subst hn0
            obtain rfl : k = 0 := by omega
            have hnilA : (none : Option Addr) = none → (0 : Nat) = 0 ∧ (0 : Nat) = 0 := fun _ => ⟨rfl, rfl⟩
            have HO0 := Lib.hid (own_empty w4 49 4)
            have HB5 : Hid (Below w4.heap.size w4 (w4.alloc (.cells #[] 49))) := Lib.hid ((Below.refl _ _).alloc (Nat.le_refl _) _)
            obtain ⟨u0, u1, u2⟩ := HU.out.rules
            obtain ⟨v0, v1, v2⟩ := HV4.out.rules
            have HC5 : Hid (Cells (w4.alloc (.cells #[] 49)) U none (0 * 4) (enF es PN)) := Lib.hid (Cells.less (Cells.below HC4.out (HB5.out.mono (by omega))) (by omega))
            go_wp2_with (at_builtin; refine wpList_append_cells _ rfl _ _ 23 rfl w4.heap.size 49 j0 _ 4 64 Tryz.underlying23 HI.out HZ0.out HZ1.out HZ2.out rfl (by omega) _ 0 [] rfl HO0.out U none 0 0 (enF es PN) rfl HC5.out hnilA (fun j hj => enF_one) (by unfold maxLen; omega) (by omega) (by simp) ?_; intro vv w5 hown hgrow hor; (have hg1 : ∃ g, vv.ownBlock = some g := by rcases hor with h9 | h9 <;> exact ⟨_, h9⟩); (obtain ⟨g1, hg1⟩ := hg1); (obtain ⟨cap1, hvv, hgb1⟩ := own_form hown hg1); subst hvv; (have hgz := fun j => (World.cell?_of_block (w := w4.alloc (.cells #[] 49)) (a := ⟨U, j, none⟩) (hgrow.block U (by simp; omega) (fun e => absurd (show U = w4.heap.size by injection e) (by omega))))); (have hgf := fun j => (World.frozen?_of_block (w := w4.alloc (.cells #[] 49)) (a := ⟨U, j, none⟩) (hgrow.block U (by simp; omega) (fun e => absurd (show U = w4.heap.size by injection e) (by omega))))))
            try simp only [Nat.zero_add, List.nil_append] at hown ⊢
            have HR6 : Hid ((w5.setCell ⟨U, 1, none⟩ (.slice (some ⟨g1, 0, none⟩) 0 cap1)).ownsRow w4.heap.size 49 4 (.slice (some ⟨g1, 0, none⟩) 0 cap1) 0 ((List.range (0 * 4)).map (enF es PN))) := Lib.hid (own_keeps (b := U) hown ((Keeps.refl U w5).put 1 _) hUl)
            have HU6 : Hid (Has (w5.setCell ⟨U, 1, none⟩ (.slice (some ⟨g1, 0, none⟩) 0 cap1)) U #[.slice Ax nc ca, .slice (some ⟨g1, 0, none⟩) 0 cap1] 25) := Lib.hid (Has.put (cs := #[.slice Ax nc ca, .slice none 0 0]) ((hgrow.block U (by simp; omega) (fun e => absurd (show U = w4.heap.size by injection e) (by omega))).trans (HU.out.alloc _)) 1 _)
            have hq6 : ∀ q, (Value.slice (some ⟨w4.heap.size, 0, none⟩) 0 0).ownBlock = some q → U ≤ q := fun q hq => by
              have h9 : w4.heap.size = q := by injection hq
              omega
            have HB6 : Hid (Below U w4 (w5.setCell ⟨U, 1, none⟩ (.slice (some ⟨g1, 0, none⟩) 0 cap1))) := Lib.hid (Below.setCell (Below.grown (HB5.out.mono (by omega)) hgrow (by simp; omega) hq6) (Nat.le_refl U) _)
            go_meet
            case rel => exact ⟨rfl, g1, cap1, HU6, HR6, HB6⟩
          · have hsrc : ∃ bl ol, Ex = some ⟨bl, ol, none⟩ := by
              obtain ⟨bl, ol, e, _, _⟩ := Cells.plain HC4.out (by omega)
              exact ⟨bl, ol, e⟩
            obtain ⟨bl, ol, rfl⟩ := hsrc
            have hnilA : ((some ⟨bl, ol, none⟩) : Option Addr) = none → k = 0 ∧ ce = 0 := fun e => by cases e
            have HO0 := Lib.hid (own_empty w4 49 4)
            have HB5 : Hid (Below w4.heap.size w4 (w4.alloc (.cells #[] 49))) := Lib.hid ((Below.refl _ _).alloc (Nat.le_refl _) _)
            obtain ⟨u0, u1, u2⟩ := HU.out.rules
            obtain ⟨v0, v1, v2⟩ := HV4.out.rules
            have HC5 : Hid (Cells (w4.alloc (.cells #[] 49)) U (some ⟨bl, ol, none⟩) (k * 4) (enF es PN)) := Lib.hid (Cells.less (Cells.below HC4.out (HB5.out.mono (by omega))) (by omega))
            go_wp2_with (at_builtin; refine wpList_append_cells _ rfl _ _ 23 rfl w4.heap.size 49 j0 _ 4 64 Tryz.underlying23 HI.out HZ0.out HZ1.out HZ2.out rfl (by omega) _ 0 [] rfl HO0.out U (some ⟨bl, ol, none⟩) k ce (enF es PN) rfl HC5.out hnilA (fun j hj => enF_one) (by unfold maxLen; omega) (by omega) (by simp) ?_; intro vv w5 hown hgrow hor; (have hg1 : ∃ g, vv.ownBlock = some g := by rcases hor with h9 | h9 <;> exact ⟨_, h9⟩); (obtain ⟨g1, hg1⟩ := hg1); (obtain ⟨cap1, hvv, hgb1⟩ := own_form hown hg1); subst hvv; (have hgz := fun j => (World.cell?_of_block (w := w4.alloc (.cells #[] 49)) (a := ⟨U, j, none⟩) (hgrow.block U (by simp; omega) (fun e => absurd (show U = w4.heap.size by injection e) (by omega))))); (have hgf := fun j => (World.frozen?_of_block (w := w4.alloc (.cells #[] 49)) (a := ⟨U, j, none⟩) (hgrow.block U (by simp; omega) (fun e => absurd (show U = w4.heap.size by injection e) (by omega))))))
            try simp only [Nat.zero_add, List.nil_append] at hown ⊢
            have HR6 : Hid ((w5.setCell ⟨U, 1, none⟩ (.slice (some ⟨g1, 0, none⟩) k cap1)).ownsRow w4.heap.size 49 4 (.slice (some ⟨g1, 0, none⟩) k cap1) k ((List.range (k * 4)).map (enF es PN))) := Lib.hid (own_keeps (b := U) hown ((Keeps.refl U w5).put 1 _) hUl)
            have HU6 : Hid (Has (w5.setCell ⟨U, 1, none⟩ (.slice (some ⟨g1, 0, none⟩) k cap1)) U #[.slice Ax nc ca, .slice (some ⟨g1, 0, none⟩) k cap1] 25) := Lib.hid (Has.put (cs := #[.slice Ax nc ca, .slice (some ⟨bl, ol, none⟩) ne ce]) ((hgrow.block U (by simp; omega) (fun e => absurd (show U = w4.heap.size by injection e) (by omega))).trans (HU.out.alloc _)) 1 _)
            have hq6 : ∀ q, (Value.slice (some ⟨w4.heap.size, 0, none⟩) 0 0).ownBlock = some q → U ≤ q := fun q hq => by
              have h9 : w4.heap.size = q := by injection hq
              omega
            have HB6 : Hid (Below U w4 (w5.setCell ⟨U, 1, none⟩ (.slice (some ⟨g1, 0, none⟩) k cap1))) := Lib.hid (Below.setCell (Below.grown (HB5.out.mono (by omega)) hgrow (by simp; omega) hq6) (Nat.le_refl U) _)
            go_meet
            case rel => exact ⟨rfl, g1, cap1, HU6, HR6, HB6⟩
        case rest =>
          have hw46 := wc.heap.size
          obtain ⟨rfl, g1, cap1, HU6, HR6, HB6⟩ := hcut
          obtain ⟨w6, hw6⟩ : ∃ z, wc = z := ⟨_, rfl⟩
          rw [hw6] at HU6 HR6 HB6 ⊢
          clear hw6 hw46
          have HP6 := Lib.hid (HP4.out.below HB6.out hPU)
          have hs6 := HB6.out.size
          have HPS : Hid (∀ V, Below w4.heap.size w6 V → V.cell? ⟨P, 0, none⟩ = some (.int .i64 f) ∧ V.cell? ⟨P, 1, none⟩ = some (.int .i64 t2)) := Lib.hid fun V hb => ⟨by rw [(HP6.out.below hb (by omega)).cell]; rfl, by rw [(HP6.out.below hb (by omega)).cell]; rfl⟩
          have HBC : Hid (Below w6.heap.size w6 w6.drew) := Lib.hid (Below.drew (Below.refl _ _))
          go_upto_region 9 with (fail)
          go_cut [10] from 63 to 72 (fun hx wx => hx = .int .i64 h ∧ ∃ g2 cap2 Rm Cc : Nat, Hid (Has wx U #[.slice Ax nc ca, .slice (some ⟨g2, 0, none⟩) (k + 1) cap2] 25) ∧ Hid (wx.ownsRow w4.heap.size 49 4 (.slice (some ⟨g2, 0, none⟩) (k + 1) cap2) (k + 1) ((List.range (k * 4)).map (enF es PN) ++ [.int .i64 f, .int .i64 t2, .slice (some ⟨Rm, 0, none⟩) 1 1, .slice (some ⟨Cc, 0, none⟩) 1 1])) ∧ Hid (Has wx Rm #[.string { data := #[110, 111, 116, 104, 105, 110, 103] }] 9) ∧ Hid (Has wx Cc (covR { data := #[99, 45, 97, 97] }) 46) ∧ Hid (Below U w6 wx) ∧ (Rm ≠ g2 ∧ Cc ≠ g2) ∧ (w6.heap.size ≤ Rm ∧ w6.heap.size ≤ Cc))
          case first =>
            refine wp_region_held_drew (S := fun V => V.cell? ⟨P, 0, none⟩ = some (.int .i64 f) ∧ V.cell? ⟨P, 1, none⟩ = some (.int .i64 t2)) (by kernel_rfl) (HPS.out _ (HBC.out.mono (by omega))) (fun hHeld => ?_)
            refine wpAnyH_take (i := 0) (v := ?v1) rfl (by kernel_rfl) (by kernel_rfl) (by kernel_rfl) (fun _ _ _ h => h) (Or.inl ⟨by rfl, ?hy1⟩) (by assumption) ?rest1
            case hy1 => (intro wx hSw; (try dsimp only at hSw); go_simp; try with_reducible rfl)
            try simp only [Act.put, List.setIfInBounds_toArray, List.set_cons_zero, List.set_cons_succ]
            refine wpAnyH_take (i := 2) (v := ?v2) rfl (by kernel_rfl) (by kernel_rfl) (by kernel_rfl) (fun _ _ _ h => h) (Or.inl ⟨by rfl, ?hy2⟩) (by assumption) ?rest2
            case hy2 => (intro wx hSw; (try dsimp only at hSw); go_simp; try with_reducible rfl)
            try simp only [Act.put, List.setIfInBounds_toArray, List.set_cons_zero, List.set_cons_succ]
            refine wpAnyH_ready (rs := [1, 3, 4]) (by kernel_rfl) (by simp) ?_
            refine AllReadyH.cons rfl (fun K hK => ?_) ?_
            · have HUq := Lib.hid (HU6.out.below HBC.out HU6.out.lt)
              obtain ⟨q0, q1, q2⟩ := HUq.out.rules
              go_simp
              clear HUq q0 q1 q2
              refine hK.out _ _ ?_ (fun hHeld => ?_)
              · exact HPS.out _ (HBC.out.mono (by omega))
              clear hK K
              try simp only [Act.put, List.setIfInBounds_toArray, List.set_cons_zero, List.set_cons_succ]
              refine wpAnyH_ready (rs := [3, 4]) (by kernel_rfl) (by simp) ?_
              refine AllReadyH.cons rfl (fun K hK => ?_) ?_
              · go_simp; try rw [show (w6.alloc (.cells #[.string { data := #[110, 111, 116, 104, 105, 110, 103] }] 9)).drew = w6.drew.alloc (.cells #[.string { data := #[110, 111, 116, 104, 105, 110, 103] }] 9) from rfl]
                have hs0 := HBC.out.size
                have HS := Lib.hid (Has.new w6.drew #[.string { data := #[110, 111, 116, 104, 105, 110, 103] }] 9)
                have hsz : (w6.drew.alloc (.cells #[.string { data := #[110, 111, 116, 104, 105, 110, 103] }] 9)).heap.size = w6.drew.heap.size + 1 := by simp
                replace HBC := Lib.hid (HBC.out.alloc hs0 (.cells #[.string { data := #[110, 111, 116, 104, 105, 110, 103] }] 9))
                obtain ⟨wS, hwS⟩ : ∃ z, w6.drew.alloc (.cells #[.string { data := #[110, 111, 116, 104, 105, 110, 103] }] 9) = z := ⟨_, rfl⟩
                obtain ⟨Rm, hRm⟩ : ∃ z, w6.drew.heap.size = z := ⟨_, rfl⟩
                have hRmw : w6.heap.size ≤ Rm := by rw [← hRm]; exact hs0
                rw [hwS] at HBC hsz HS ⊢
                rw [hRm] at hsz HS
                try rw [hRm]
                try rw [show w6.heap.size = Rm from hRm]
                have hRl : Rm < wS.heap.size := by omega
                clear hsz hwS hRm hs0
                refine hK.out _ _ ?_ (fun hHeld => ?_)
                · exact HPS.out _ (HBC.out.mono (by omega))
                clear hK K
                try simp only [Act.put, List.setIfInBounds_toArray, List.set_cons_zero, List.set_cons_succ]
                refine wpAnyH_ready (rs := [4]) (by kernel_rfl) (by simp) ?_
                refine AllReadyH.cons rfl (fun K hK => ?_) ?_
                · go_simp
                  go_at_call 14
                  refine (cover_any _ _).mono ?_
                  rintro r wK ⟨rfl, hbk⟩
                  replace HS := Lib.hid (HS.out.below hbk HS.out.lt)
                  replace hRl : Rm < wK.heap.size := HS.out.lt
                  replace HBC : Hid (Below w6.heap.size w6 wK) := Lib.hid (HBC.out.trans (hbk.mono HBC.out.size))
                  clear hbk
                  go_simp
                  refine hK.out _ _ ?_ (fun hHeld => ?_)
                  · exact HPS.out _ (HBC.out.mono (by omega))
                  clear hK K
                  try simp only [Act.put, List.setIfInBounds_toArray, List.set_cons_zero, List.set_cons_succ]
                  refine wpAnyH_ready (rs := [5]) (by kernel_rfl) (by simp) ?_
                  refine AllReadyH.cons rfl (fun K hK => ?_) ?_
                  · go_simp
                    have hs0 := HBC.out.size
                    have HL := Lib.hid (Has.new wK (covR { data := #[99, 45, 97, 97] }) 46)
                    have hsz : (wK.alloc (.cells (covR { data := #[99, 45, 97, 97] }) 46)).heap.size = wK.heap.size + 1 := by simp
                    replace HS := Lib.hid (HS.out.alloc (.cells (covR { data := #[99, 45, 97, 97] }) 46))
                    replace HBC := Lib.hid (HBC.out.alloc hs0 (.cells (covR { data := #[99, 45, 97, 97] }) 46))
                    obtain ⟨wL, hwL⟩ : ∃ z, wK.alloc (.cells (covR { data := #[99, 45, 97, 97] }) 46) = z := ⟨_, rfl⟩
                    obtain ⟨Cc, hCc⟩ : ∃ z, wK.heap.size = z := ⟨_, rfl⟩
                    have hCcw : w6.heap.size ≤ Cc := by rw [← hCc]; exact hs0
                    rw [hwL] at HBC hsz HL HS ⊢
                    rw [hCc] at hsz HL
                    try rw [hCc]
                    try rw [show w6.heap.size = Cc from hCc]
                    have hCl : Cc < wL.heap.size := by omega
                    replace hRl : Rm < wL.heap.size := HS.out.lt
                    clear hsz hwL hCc hs0
                    refine hK.out _ _ ?_ (fun hHeld => ?_)
                    · exact HPS.out _ (HBC.out.mono (by omega))
                    clear hK K
                    try simp only [Act.put, List.setIfInBounds_toArray, List.set_cons_zero, List.set_cons_succ]
                    refine wpAnyH_take (i := 6) (v := ?v3) rfl (by kernel_rfl) (by kernel_rfl) (by kernel_rfl) (fun _ _ _ h => h) (Or.inl ⟨by rfl, ?hy3⟩) (by assumption) ?rest3
                    case hy3 => (intro wx hSw; (try dsimp only at hSw); go_simp; try with_reducible rfl)
                    show wpAnyH _ _ _ _ _ _ _ (Act.put _ (some 69) _) _
                    try simp only [Act.put, List.setIfInBounds_toArray, List.set_cons_zero, List.set_cons_succ]
                    refine wpAnyH_ready (rs := [7]) (by kernel_rfl) (by simp) ?_
                    refine AllReadyH.cons rfl (fun K hK => ?_) ?_
                    · go_simp
                      have hs0 := HBC.out.size
                      have HE := Lib.hid (Has.new wL #[.int .i64 f, .int .i64 t2, .slice (some ⟨Rm, 0, none⟩) 1 1, .slice (some ⟨Cc, 0, none⟩) 1 1] 49)
                      have hsz : (wL.alloc (.cells #[.int .i64 f, .int .i64 t2, .slice (some ⟨Rm, 0, none⟩) 1 1, .slice (some ⟨Cc, 0, none⟩) 1 1] 49)).heap.size = wL.heap.size + 1 := by simp
                      replace HS := Lib.hid (HS.out.alloc (.cells #[.int .i64 f, .int .i64 t2, .slice (some ⟨Rm, 0, none⟩) 1 1, .slice (some ⟨Cc, 0, none⟩) 1 1] 49))
                      replace HL := Lib.hid (HL.out.alloc (.cells #[.int .i64 f, .int .i64 t2, .slice (some ⟨Rm, 0, none⟩) 1 1, .slice (some ⟨Cc, 0, none⟩) 1 1] 49))
                      replace HBC := Lib.hid (HBC.out.alloc hs0 (.cells #[.int .i64 f, .int .i64 t2, .slice (some ⟨Rm, 0, none⟩) 1 1, .slice (some ⟨Cc, 0, none⟩) 1 1] 49))
                      obtain ⟨wE, hwE⟩ : ∃ z, wL.alloc (.cells #[.int .i64 f, .int .i64 t2, .slice (some ⟨Rm, 0, none⟩) 1 1, .slice (some ⟨Cc, 0, none⟩) 1 1] 49) = z := ⟨_, rfl⟩
                      obtain ⟨C1, hC1⟩ : ∃ z, wL.heap.size = z := ⟨_, rfl⟩
                      have hC1w : w6.heap.size ≤ C1 := by rw [← hC1]; exact hs0
                      have hRC : Rm < C1 ∧ Cc < C1 := by rw [← hC1]; exact ⟨hRl, hCl⟩
                      rw [hwE] at HBC hsz HE HS HL ⊢
                      rw [hC1] at hsz HE
                      try rw [hC1]
                      try rw [show w6.heap.size = C1 from hC1]
                      clear hRl hCl
                      clear hsz hwE hC1 hs0
                      refine hK.out _ _ ?_ (fun hHeld => ?_)
                      · exact HPS.out _ (HBC.out.mono (by omega))
                      clear hK K
                      try simp only [Act.put, List.setIfInBounds_toArray, List.set_cons_zero, List.set_cons_succ]
                      refine wpAnyH_ready (rs := [8]) (by kernel_rfl) (by simp) ?_
                      refine AllReadyH.cons rfl (fun K hK => ?_) ?_
                      · have hs0 := HBC.out.size
                        have HRq := Lib.hid (own_below HR6.out HBC.out)
                        refine step_append_lies _ (by rfl) _ _ _ (by rfl) w4.heap.size 49 j0 _ 4 64 Tryz.underlying23 HI.out HZ0.out HZ1.out HZ2.out rfl (by omega) (.slice (some ⟨g1, 0, none⟩) k cap1) k ((List.range (k * 4)).map (enF es PN)) (by rfl) HRq.out ⟨C1, 0, none⟩ 1 1 [.int .i64 f, .int .i64 t2, .slice (some ⟨Rm, 0, none⟩) 1 1, .slice (some ⟨Cc, 0, none⟩) 1 1] (by rfl) rfl (World.news_of_block (cs := #[.int .i64 f, .int .i64 t2, .slice (some ⟨Rm, 0, none⟩) 1 1, .slice (some ⟨Cc, 0, none⟩) 1 1]) (t := 49) (fr := (0, 0)) HE.out) (List.all_eq_true.1 rfl) (by omega) (by unfold maxLen; omega) (by omega) (by omega) _ rfl ?_
                        intro g2 cap2 wG hown hgrow hat hlt
                        show K (Act.put _ (some 71) _) _
                        have hg16 : g1 < w6.heap.size := (own_lt (k := g1) HR6.out rfl).1
                        have hgq : ∀ q, w6.heap.size ≤ q → some q ≠ (Value.slice (some ⟨g1, 0, none⟩) k cap1).ownBlock := fun q hq e => absurd (show q = g1 by injection e) (by omega)
                        replace HS := Lib.hid ((hgrow.block Rm HS.out.lt (hgq Rm hRmw)).trans HS.out)
                        replace HL := Lib.hid ((hgrow.block Cc HL.out.lt (hgq Cc hCcw)).trans HL.out)
                        have hne : Rm ≠ g2 ∧ Cc ≠ g2 := by
                          rcases hat with h9 | h9
                          · have h8 : g1 = g2 := by injection h9
                            omega
                          · have := HE.out.lt
                            omega
                        have hgo : ∀ q, (Value.slice (some ⟨g1, 0, none⟩) k cap1).ownBlock = some q → w4.heap.size ≤ q := fun q hq => (own_lt HR6.out hq).2
                        have HBE : Hid (Below w4.heap.size w6 wG) := Lib.hid (Below.grown (HBC.out.mono (by omega)) hgrow (by omega) hgo)
                        have HO2 := Lib.hid hown
                        have HUg := Lib.hid (HU6.out.below HBE.out hUl)
                        clear hown hgrow hat hlt hs0 HRq hg16 hgq hgo HE hRC
                        refine hK.out _ _ ?_ (fun hHeld => ?_)
                        · exact HPS.out _ HBE.out
                        clear hK K
                        try simp only [Act.put, List.setIfInBounds_toArray, List.set_cons_zero, List.set_cons_succ]
                        refine wpAnyH_take (i := 9) (v := ?v4) rfl (by kernel_rfl) (by kernel_rfl) (by kernel_rfl) (fun _ _ _ h => h) (Or.inl ⟨by rfl, ?hy4⟩) (by assumption) ?rest4
                        case hy4 => (intro wx hSw; (try dsimp only at hSw); go_simp; try with_reducible rfl)
                        try simp only [Act.put, List.setIfInBounds_toArray, List.set_cons_zero, List.set_cons_succ]
                        refine wpAnyH_ready (rs := [10]) (by kernel_rfl) (by simp) ?_
                        refine AllReadyH.cons rfl (fun K hK => ?_) ?_
                        · obtain ⟨q0, q1, q2⟩ := HUg.out.rules
                          go_simp
                          obtain ⟨wT, hwT⟩ : ∃ z, wG.setCell ⟨U, 1, none⟩ (.slice (some ⟨g2, 0, none⟩) (k + 1) cap2) = z := ⟨_, rfl⟩
                          have HT9 : Hid (Has wT U #[.slice Ax nc ca, .slice (some ⟨g2, 0, none⟩) (k + 1) cap2] 25) := Lib.hid (by rw [← hwT]; exact Has.put (cs := #[.slice Ax nc ca, .slice (some ⟨g1, 0, none⟩) k cap1]) HUg.out 1 _)
                          have HO9 := Lib.hid (show wT.ownsRow w4.heap.size _ _ _ _ _ by rw [← hwT]; exact own_keeps (b := U) HO2.out ((Keeps.refl U wG).put 1 _) hUl)
                          have HS9 : Hid (Has wT Rm #[.string { data := #[110, 111, 116, 104, 105, 110, 103] }] 9) := Lib.hid (by rw [← hwT]; exact Has.far (p := ⟨U, 1, none⟩) HS.out (show Rm ≠ U by omega) _)
                          have HL9 : Hid (Has wT Cc (covR { data := #[99, 45, 97, 97] }) 46) := Lib.hid (by rw [← hwT]; exact Has.far (p := ⟨U, 1, none⟩) HL.out (show Cc ≠ U by omega) _)
                          have HB9 : Hid (Below U w6 wT) := Lib.hid (by rw [← hwT]; exact Below.setCell (HBE.out.mono (by omega)) (Nat.le_refl U) _)
                          have hP9 : wT.cell? ⟨P, 0, none⟩ = some (.int .i64 f) ∧ wT.cell? ⟨P, 1, none⟩ = some (.int .i64 t2) := ⟨by rw [(HP6.out.below HB9.out hPU).cell]; rfl, by rw [(HP6.out.below HB9.out hPU).cell]; rfl⟩
                          try rw [hwT]
                          clear q0 q1 q2 hwT HUg HO2 HS HL HBE
                          refine hK.out _ _ ?_ (fun hHeld => ?_)
                          · exact hP9
                          clear hK K
                          try simp only [Act.put, List.setIfInBounds_toArray, List.set_cons_zero, List.set_cons_succ]
                          refine wpAnyH_done (by kernel_rfl) ?_ _
                          go_wp2_with fail
                          go_meet
                          case rel => exact ⟨rfl, g2, cap2, Rm, Cc, HT9, HO9, HS9, HL9, HB9, hne, hRmw, hCcw⟩
                        exact AllReadyH.nil
                      exact AllReadyH.nil
                    exact AllReadyH.nil
                  exact AllReadyH.nil
                exact AllReadyH.nil
              refine AllReadyH.cons rfl (fun K hK => ?_) ?_
              · go_simp
                go_at_call 14
                refine (cover_any _ _).mono ?_
                rintro r wK ⟨rfl, hbk⟩
                replace HBC : Hid (Below w6.heap.size w6 wK) := Lib.hid (HBC.out.trans (hbk.mono HBC.out.size))
                clear hbk
                go_simp
                refine hK.out _ _ ?_ (fun hHeld => ?_)
                · exact HPS.out _ (HBC.out.mono (by omega))
                clear hK K
                try simp only [Act.put, List.setIfInBounds_toArray, List.set_cons_zero, List.set_cons_succ]
                refine wpAnyH_ready (rs := [3, 5]) (by kernel_rfl) (by simp) ?_
                refine AllReadyH.cons rfl (fun K hK => ?_) ?_
                · go_simp
                  have hs0 := HBC.out.size
                  have HS := Lib.hid (Has.new wK #[.string { data := #[110, 111, 116, 104, 105, 110, 103] }] 9)
                  have hsz : (wK.alloc (.cells #[.string { data := #[110, 111, 116, 104, 105, 110, 103] }] 9)).heap.size = wK.heap.size + 1 := by simp
                  replace HBC := Lib.hid (HBC.out.alloc hs0 (.cells #[.string { data := #[110, 111, 116, 104, 105, 110, 103] }] 9))
                  obtain ⟨wS, hwS⟩ : ∃ z, wK.alloc (.cells #[.string { data := #[110, 111, 116, 104, 105, 110, 103] }] 9) = z := ⟨_, rfl⟩
                  obtain ⟨Rm, hRm⟩ : ∃ z, wK.heap.size = z := ⟨_, rfl⟩
                  have hRmw : w6.heap.size ≤ Rm := by rw [← hRm]; exact hs0
                  rw [hwS] at HBC hsz HS ⊢
                  rw [hRm] at hsz HS
                  try rw [hRm]
                  try rw [show w6.heap.size = Rm from hRm]
                  have hRl : Rm < wS.heap.size := by omega
                  clear hsz hwS hRm hs0
                  refine hK.out _ _ ?_ (fun hHeld => ?_)
                  · exact HPS.out _ (HBC.out.mono (by omega))
                  clear hK K
                  try simp only [Act.put, List.setIfInBounds_toArray, List.set_cons_zero, List.set_cons_succ]
                  refine wpAnyH_ready (rs := [5]) (by kernel_rfl) (by simp) ?_
                  refine AllReadyH.cons rfl (fun K hK => ?_) ?_
                  · go_simp
                    have hs0 := HBC.out.size
                    have HL := Lib.hid (Has.new wS (covR { data := #[99, 45, 97, 97] }) 46)
                    have hsz : (wS.alloc (.cells (covR { data := #[99, 45, 97, 97] }) 46)).heap.size = wS.heap.size + 1 := by simp
                    replace HS := Lib.hid (HS.out.alloc (.cells (covR { data := #[99, 45, 97, 97] }) 46))
                    replace HBC := Lib.hid (HBC.out.alloc hs0 (.cells (covR { data := #[99, 45, 97, 97] }) 46))
                    obtain ⟨wL, hwL⟩ : ∃ z, wS.alloc (.cells (covR { data := #[99, 45, 97, 97] }) 46) = z := ⟨_, rfl⟩
                    obtain ⟨Cc, hCc⟩ : ∃ z, wS.heap.size = z := ⟨_, rfl⟩
                    have hCcw : w6.heap.size ≤ Cc := by rw [← hCc]; exact hs0
                    rw [hwL] at HBC hsz HL HS ⊢
                    rw [hCc] at hsz HL
                    try rw [hCc]
                    try rw [show w6.heap.size = Cc from hCc]
                    have hCl : Cc < wL.heap.size := by omega
                    replace hRl : Rm < wL.heap.size := HS.out.lt
                    clear hsz hwL hCc hs0
                    refine hK.out _ _ ?_ (fun hHeld => ?_)
                    · exact HPS.out _ (HBC.out.mono (by omega))
                    clear hK K
                    try simp only [Act.put, List.setIfInBounds_toArray, List.set_cons_zero, List.set_cons_succ]
                    refine wpAnyH_take (i := 6) (v := ?v5) rfl (by kernel_rfl) (by kernel_rfl) (by kernel_rfl) (fun _ _ _ h => h) (Or.inl ⟨by rfl, ?hy5⟩) (by assumption) ?rest5
                    case hy5 => (intro wx hSw; (try dsimp only at hSw); go_simp; try with_reducible rfl)
                    show wpAnyH _ _ _ _ _ _ _ (Act.put _ (some 69) _) _
                    try simp only [Act.put, List.setIfInBounds_toArray, List.set_cons_zero, List.set_cons_succ]
                    refine wpAnyH_ready (rs := [7]) (by kernel_rfl) (by simp) ?_
                    refine AllReadyH.cons rfl (fun K hK => ?_) ?_
                    · go_simp
                      have hs0 := HBC.out.size
                      have HE := Lib.hid (Has.new wL #[.int .i64 f, .int .i64 t2, .slice (some ⟨Rm, 0, none⟩) 1 1, .slice (some ⟨Cc, 0, none⟩) 1 1] 49)
                      have hsz : (wL.alloc (.cells #[.int .i64 f, .int .i64 t2, .slice (some ⟨Rm, 0, none⟩) 1 1, .slice (some ⟨Cc, 0, none⟩) 1 1] 49)).heap.size = wL.heap.size + 1 := by simp
                      replace HS := Lib.hid (HS.out.alloc (.cells #[.int .i64 f, .int .i64 t2, .slice (some ⟨Rm, 0, none⟩) 1 1, .slice (some ⟨Cc, 0, none⟩) 1 1] 49))
                      replace HL := Lib.hid (HL.out.alloc (.cells #[.int .i64 f, .int .i64 t2, .slice (some ⟨Rm, 0, none⟩) 1 1, .slice (some ⟨Cc, 0, none⟩) 1 1] 49))
                      replace HBC := Lib.hid (HBC.out.alloc hs0 (.cells #[.int .i64 f, .int .i64 t2, .slice (some ⟨Rm, 0, none⟩) 1 1, .slice (some ⟨Cc, 0, none⟩) 1 1] 49))
                      obtain ⟨wE, hwE⟩ : ∃ z, wL.alloc (.cells #[.int .i64 f, .int .i64 t2, .slice (some ⟨Rm, 0, none⟩) 1 1, .slice (some ⟨Cc, 0, none⟩) 1 1] 49) = z := ⟨_, rfl⟩
                      obtain ⟨C1, hC1⟩ : ∃ z, wL.heap.size = z := ⟨_, rfl⟩
                      have hC1w : w6.heap.size ≤ C1 := by rw [← hC1]; exact hs0
                      have hRC : Rm < C1 ∧ Cc < C1 := by rw [← hC1]; exact ⟨hRl, hCl⟩
                      rw [hwE] at HBC hsz HE HS HL ⊢
                      rw [hC1] at hsz HE
                      try rw [hC1]
                      try rw [show w6.heap.size = C1 from hC1]
                      clear hRl hCl
                      clear hsz hwE hC1 hs0
                      refine hK.out _ _ ?_ (fun hHeld => ?_)
                      · exact HPS.out _ (HBC.out.mono (by omega))
                      clear hK K
                      try simp only [Act.put, List.setIfInBounds_toArray, List.set_cons_zero, List.set_cons_succ]
                      refine wpAnyH_ready (rs := [8]) (by kernel_rfl) (by simp) ?_
                      refine AllReadyH.cons rfl (fun K hK => ?_) ?_
                      · have hs0 := HBC.out.size
                        have HRq := Lib.hid (own_below HR6.out HBC.out)
                        refine step_append_lies _ (by rfl) _ _ _ (by rfl) w4.heap.size 49 j0 _ 4 64 Tryz.underlying23 HI.out HZ0.out HZ1.out HZ2.out rfl (by omega) (.slice (some ⟨g1, 0, none⟩) k cap1) k ((List.range (k * 4)).map (enF es PN)) (by rfl) HRq.out ⟨C1, 0, none⟩ 1 1 [.int .i64 f, .int .i64 t2, .slice (some ⟨Rm, 0, none⟩) 1 1, .slice (some ⟨Cc, 0, none⟩) 1 1] (by rfl) rfl (World.news_of_block (cs := #[.int .i64 f, .int .i64 t2, .slice (some ⟨Rm, 0, none⟩) 1 1, .slice (some ⟨Cc, 0, none⟩) 1 1]) (t := 49) (fr := (0, 0)) HE.out) (List.all_eq_true.1 rfl) (by omega) (by unfold maxLen; omega) (by omega) (by omega) _ rfl ?_
                        intro g2 cap2 wG hown hgrow hat hlt
                        show K (Act.put _ (some 71) _) _
                        have hg16 : g1 < w6.heap.size := (own_lt (k := g1) HR6.out rfl).1
                        have hgq : ∀ q, w6.heap.size ≤ q → some q ≠ (Value.slice (some ⟨g1, 0, none⟩) k cap1).ownBlock := fun q hq e => absurd (show q = g1 by injection e) (by omega)
                        replace HS := Lib.hid ((hgrow.block Rm HS.out.lt (hgq Rm hRmw)).trans HS.out)
                        replace HL := Lib.hid ((hgrow.block Cc HL.out.lt (hgq Cc hCcw)).trans HL.out)
                        have hne : Rm ≠ g2 ∧ Cc ≠ g2 := by
                          rcases hat with h9 | h9
                          · have h8 : g1 = g2 := by injection h9
                            omega
                          · have := HE.out.lt
                            omega
                        have hgo : ∀ q, (Value.slice (some ⟨g1, 0, none⟩) k cap1).ownBlock = some q → w4.heap.size ≤ q := fun q hq => (own_lt HR6.out hq).2
                        have HBE : Hid (Below w4.heap.size w6 wG) := Lib.hid (Below.grown (HBC.out.mono (by omega)) hgrow (by omega) hgo)
                        have HO2 := Lib.hid hown
                        have HUg := Lib.hid (HU6.out.below HBE.out hUl)
                        clear hown hgrow hat hlt hs0 HRq hg16 hgq hgo HE hRC
                        refine hK.out _ _ ?_ (fun hHeld => ?_)
                        · exact HPS.out _ HBE.out
                        clear hK K
                        try simp only [Act.put, List.setIfInBounds_toArray, List.set_cons_zero, List.set_cons_succ]
                        refine wpAnyH_take (i := 9) (v := ?v6) rfl (by kernel_rfl) (by kernel_rfl) (by kernel_rfl) (fun _ _ _ h => h) (Or.inl ⟨by rfl, ?hy6⟩) (by assumption) ?rest6
                        case hy6 => (intro wx hSw; (try dsimp only at hSw); go_simp; try with_reducible rfl)
                        try simp only [Act.put, List.setIfInBounds_toArray, List.set_cons_zero, List.set_cons_succ]
                        refine wpAnyH_ready (rs := [10]) (by kernel_rfl) (by simp) ?_
                        refine AllReadyH.cons rfl (fun K hK => ?_) ?_
                        · obtain ⟨q0, q1, q2⟩ := HUg.out.rules
                          go_simp
                          obtain ⟨wT, hwT⟩ : ∃ z, wG.setCell ⟨U, 1, none⟩ (.slice (some ⟨g2, 0, none⟩) (k + 1) cap2) = z := ⟨_, rfl⟩
                          have HT9 : Hid (Has wT U #[.slice Ax nc ca, .slice (some ⟨g2, 0, none⟩) (k + 1) cap2] 25) := Lib.hid (by rw [← hwT]; exact Has.put (cs := #[.slice Ax nc ca, .slice (some ⟨g1, 0, none⟩) k cap1]) HUg.out 1 _)
                          have HO9 := Lib.hid (show wT.ownsRow w4.heap.size _ _ _ _ _ by rw [← hwT]; exact own_keeps (b := U) HO2.out ((Keeps.refl U wG).put 1 _) hUl)
                          have HS9 : Hid (Has wT Rm #[.string { data := #[110, 111, 116, 104, 105, 110, 103] }] 9) := Lib.hid (by rw [← hwT]; exact Has.far (p := ⟨U, 1, none⟩) HS.out (show Rm ≠ U by omega) _)
                          have HL9 : Hid (Has wT Cc (covR { data := #[99, 45, 97, 97] }) 46) := Lib.hid (by rw [← hwT]; exact Has.far (p := ⟨U, 1, none⟩) HL.out (show Cc ≠ U by omega) _)
                          have HB9 : Hid (Below U w6 wT) := Lib.hid (by rw [← hwT]; exact Below.setCell (HBE.out.mono (by omega)) (Nat.le_refl U) _)
                          have hP9 : wT.cell? ⟨P, 0, none⟩ = some (.int .i64 f) ∧ wT.cell? ⟨P, 1, none⟩ = some (.int .i64 t2) := ⟨by rw [(HP6.out.below HB9.out hPU).cell]; rfl, by rw [(HP6.out.below HB9.out hPU).cell]; rfl⟩
                          try rw [hwT]
                          clear q0 q1 q2 hwT HUg HO2 HS HL HBE
                          refine hK.out _ _ ?_ (fun hHeld => ?_)
                          · exact hP9
                          clear hK K
                          try simp only [Act.put, List.setIfInBounds_toArray, List.set_cons_zero, List.set_cons_succ]
                          refine wpAnyH_done (by kernel_rfl) ?_ _
                          go_wp2_with fail
                          go_meet
                          case rel => exact ⟨rfl, g2, cap2, Rm, Cc, HT9, HO9, HS9, HL9, HB9, hne, hRmw, hCcw⟩
                        exact AllReadyH.nil
                      exact AllReadyH.nil
                    exact AllReadyH.nil
                  exact AllReadyH.nil
                refine AllReadyH.cons rfl (fun K hK => ?_) ?_
                · go_simp
                  have hs0 := HBC.out.size
                  have HL := Lib.hid (Has.new wK (covR { data := #[99, 45, 97, 97] }) 46)
                  have hsz : (wK.alloc (.cells (covR { data := #[99, 45, 97, 97] }) 46)).heap.size = wK.heap.size + 1 := by simp
                  replace HBC := Lib.hid (HBC.out.alloc hs0 (.cells (covR { data := #[99, 45, 97, 97] }) 46))
                  obtain ⟨wL, hwL⟩ : ∃ z, wK.alloc (.cells (covR { data := #[99, 45, 97, 97] }) 46) = z := ⟨_, rfl⟩
                  obtain ⟨Cc, hCc⟩ : ∃ z, wK.heap.size = z := ⟨_, rfl⟩
                  have hCcw : w6.heap.size ≤ Cc := by rw [← hCc]; exact hs0
                  rw [hwL] at HBC hsz HL ⊢
                  rw [hCc] at hsz HL
                  try rw [hCc]
                  try rw [show w6.heap.size = Cc from hCc]
                  have hCl : Cc < wL.heap.size := by omega
                  clear hsz hwL hCc hs0
                  refine hK.out _ _ ?_ (fun hHeld => ?_)
                  · exact HPS.out _ (HBC.out.mono (by omega))
                  clear hK K
                  try simp only [Act.put, List.setIfInBounds_toArray, List.set_cons_zero, List.set_cons_succ]
                  refine wpAnyH_ready (rs := [3]) (by kernel_rfl) (by simp) ?_
                  refine AllReadyH.cons rfl (fun K hK => ?_) ?_
                  · go_simp
                    have hs0 := HBC.out.size
                    have HS := Lib.hid (Has.new wL #[.string { data := #[110, 111, 116, 104, 105, 110, 103] }] 9)
                    have hsz : (wL.alloc (.cells #[.string { data := #[110, 111, 116, 104, 105, 110, 103] }] 9)).heap.size = wL.heap.size + 1 := by simp
                    replace HL := Lib.hid (HL.out.alloc (.cells #[.string { data := #[110, 111, 116, 104, 105, 110, 103] }] 9))
                    replace HBC := Lib.hid (HBC.out.alloc hs0 (.cells #[.string { data := #[110, 111, 116, 104, 105, 110, 103] }] 9))
                    obtain ⟨wS, hwS⟩ : ∃ z, wL.alloc (.cells #[.string { data := #[110, 111, 116, 104, 105, 110, 103] }] 9) = z := ⟨_, rfl⟩
                    obtain ⟨Rm, hRm⟩ : ∃ z, wL.heap.size = z := ⟨_, rfl⟩
                    have hRmw : w6.heap.size ≤ Rm := by rw [← hRm]; exact hs0
                    rw [hwS] at HBC hsz HS HL ⊢
                    rw [hRm] at hsz HS
                    try rw [hRm]
                    try rw [show w6.heap.size = Rm from hRm]
                    have hRl : Rm < wS.heap.size := by omega
                    replace hCl : Cc < wS.heap.size := HL.out.lt
                    clear hsz hwS hRm hs0
                    refine hK.out _ _ ?_ (fun hHeld => ?_)
                    · exact HPS.out _ (HBC.out.mono (by omega))
                    clear hK K
                    try simp only [Act.put, List.setIfInBounds_toArray, List.set_cons_zero, List.set_cons_succ]
                    refine wpAnyH_take (i := 6) (v := ?v7) rfl (by kernel_rfl) (by kernel_rfl) (by kernel_rfl) (fun _ _ _ h => h) (Or.inl ⟨by rfl, ?hy7⟩) (by assumption) ?rest7
                    case hy7 => (intro wx hSw; (try dsimp only at hSw); go_simp; try with_reducible rfl)
                    show wpAnyH _ _ _ _ _ _ _ (Act.put _ (some 69) _) _
                    try simp only [Act.put, List.setIfInBounds_toArray, List.set_cons_zero, List.set_cons_succ]
                    refine wpAnyH_ready (rs := [7]) (by kernel_rfl) (by simp) ?_
                    refine AllReadyH.cons rfl (fun K hK => ?_) ?_
                    · go_simp
                      have hs0 := HBC.out.size
                      have HE := Lib.hid (Has.new wS #[.int .i64 f, .int .i64 t2, .slice (some ⟨Rm, 0, none⟩) 1 1, .slice (some ⟨Cc, 0, none⟩) 1 1] 49)
                      have hsz : (wS.alloc (.cells #[.int .i64 f, .int .i64 t2, .slice (some ⟨Rm, 0, none⟩) 1 1, .slice (some ⟨Cc, 0, none⟩) 1 1] 49)).heap.size = wS.heap.size + 1 := by simp
                      replace HS := Lib.hid (HS.out.alloc (.cells #[.int .i64 f, .int .i64 t2, .slice (some ⟨Rm, 0, none⟩) 1 1, .slice (some ⟨Cc, 0, none⟩) 1 1] 49))
                      replace HL := Lib.hid (HL.out.alloc (.cells #[.int .i64 f, .int .i64 t2, .slice (some ⟨Rm, 0, none⟩) 1 1, .slice (some ⟨Cc, 0, none⟩) 1 1] 49))
                      replace HBC := Lib.hid (HBC.out.alloc hs0 (.cells #[.int .i64 f, .int .i64 t2, .slice (some ⟨Rm, 0, none⟩) 1 1, .slice (some ⟨Cc, 0, none⟩) 1 1] 49))
                      obtain ⟨wE, hwE⟩ : ∃ z, wS.alloc (.cells #[.int .i64 f, .int .i64 t2, .slice (some ⟨Rm, 0, none⟩) 1 1, .slice (some ⟨Cc, 0, none⟩) 1 1] 49) = z := ⟨_, rfl⟩
                      obtain ⟨C1, hC1⟩ : ∃ z, wS.heap.size = z := ⟨_, rfl⟩
                      have hC1w : w6.heap.size ≤ C1 := by rw [← hC1]; exact hs0
                      have hRC : Rm < C1 ∧ Cc < C1 := by rw [← hC1]; exact ⟨hRl, hCl⟩
                      rw [hwE] at HBC hsz HE HS HL ⊢
                      rw [hC1] at hsz HE
                      try rw [hC1]
                      try rw [show w6.heap.size = C1 from hC1]
                      clear hRl hCl
                      clear hsz hwE hC1 hs0
                      refine hK.out _ _ ?_ (fun hHeld => ?_)
                      · exact HPS.out _ (HBC.out.mono (by omega))
                      clear hK K
                      try simp only [Act.put, List.setIfInBounds_toArray, List.set_cons_zero, List.set_cons_succ]
                      refine wpAnyH_ready (rs := [8]) (by kernel_rfl) (by simp) ?_
                      refine AllReadyH.cons rfl (fun K hK => ?_) ?_
                      · have hs0 := HBC.out.size
                        have HRq := Lib.hid (own_below HR6.out HBC.out)
                        refine step_append_lies _ (by rfl) _ _ _ (by rfl) w4.heap.size 49 j0 _ 4 64 Tryz.underlying23 HI.out HZ0.out HZ1.out HZ2.out rfl (by omega) (.slice (some ⟨g1, 0, none⟩) k cap1) k ((List.range (k * 4)).map (enF es PN)) (by rfl) HRq.out ⟨C1, 0, none⟩ 1 1 [.int .i64 f, .int .i64 t2, .slice (some ⟨Rm, 0, none⟩) 1 1, .slice (some ⟨Cc, 0, none⟩) 1 1] (by rfl) rfl (World.news_of_block (cs := #[.int .i64 f, .int .i64 t2, .slice (some ⟨Rm, 0, none⟩) 1 1, .slice (some ⟨Cc, 0, none⟩) 1 1]) (t := 49) (fr := (0, 0)) HE.out) (List.all_eq_true.1 rfl) (by omega) (by unfold maxLen; omega) (by omega) (by omega) _ rfl ?_
                        intro g2 cap2 wG hown hgrow hat hlt
                        show K (Act.put _ (some 71) _) _
                        have hg16 : g1 < w6.heap.size := (own_lt (k := g1) HR6.out rfl).1
                        have hgq : ∀ q, w6.heap.size ≤ q → some q ≠ (Value.slice (some ⟨g1, 0, none⟩) k cap1).ownBlock := fun q hq e => absurd (show q = g1 by injection e) (by omega)
                        replace HS := Lib.hid ((hgrow.block Rm HS.out.lt (hgq Rm hRmw)).trans HS.out)
                        replace HL := Lib.hid ((hgrow.block Cc HL.out.lt (hgq Cc hCcw)).trans HL.out)
                        have hne : Rm ≠ g2 ∧ Cc ≠ g2 := by
                          rcases hat with h9 | h9
                          · have h8 : g1 = g2 := by injection h9
                            omega
                          · have := HE.out.lt
                            omega
                        have hgo : ∀ q, (Value.slice (some ⟨g1, 0, none⟩) k cap1).ownBlock = some q → w4.heap.size ≤ q := fun q hq => (own_lt HR6.out hq).2
                        have HBE : Hid (Below w4.heap.size w6 wG) := Lib.hid (Below.grown (HBC.out.mono (by omega)) hgrow (by omega) hgo)
                        have HO2 := Lib.hid hown
                        have HUg := Lib.hid (HU6.out.below HBE.out hUl)
                        clear hown hgrow hat hlt hs0 HRq hg16 hgq hgo HE hRC
                        refine hK.out _ _ ?_ (fun hHeld => ?_)
                        · exact HPS.out _ HBE.out
                        clear hK K
                        try simp only [Act.put, List.setIfInBounds_toArray, List.set_cons_zero, List.set_cons_succ]
                        refine wpAnyH_take (i := 9) (v := ?v8) rfl (by kernel_rfl) (by kernel_rfl) (by kernel_rfl) (fun _ _ _ h => h) (Or.inl ⟨by rfl, ?hy8⟩) (by assumption) ?rest8
                        case hy8 => (intro wx hSw; (try dsimp only at hSw); go_simp; try with_reducible rfl)
                        try simp only [Act.put, List.setIfInBounds_toArray, List.set_cons_zero, List.set_cons_succ]
                        refine wpAnyH_ready (rs := [10]) (by kernel_rfl) (by simp) ?_
                        refine AllReadyH.cons rfl (fun K hK => ?_) ?_
                        · obtain ⟨q0, q1, q2⟩ := HUg.out.rules
                          go_simp
                          obtain ⟨wT, hwT⟩ : ∃ z, wG.setCell ⟨U, 1, none⟩ (.slice (some ⟨g2, 0, none⟩) (k + 1) cap2) = z := ⟨_, rfl⟩
                          have HT9 : Hid (Has wT U #[.slice Ax nc ca, .slice (some ⟨g2, 0, none⟩) (k + 1) cap2] 25) := Lib.hid (by rw [← hwT]; exact Has.put (cs := #[.slice Ax nc ca, .slice (some ⟨g1, 0, none⟩) k cap1]) HUg.out 1 _)
                          have HO9 := Lib.hid (show wT.ownsRow w4.heap.size _ _ _ _ _ by rw [← hwT]; exact own_keeps (b := U) HO2.out ((Keeps.refl U wG).put 1 _) hUl)
                          have HS9 : Hid (Has wT Rm #[.string { data := #[110, 111, 116, 104, 105, 110, 103] }] 9) := Lib.hid (by rw [← hwT]; exact Has.far (p := ⟨U, 1, none⟩) HS.out (show Rm ≠ U by omega) _)
                          have HL9 : Hid (Has wT Cc (covR { data := #[99, 45, 97, 97] }) 46) := Lib.hid (by rw [← hwT]; exact Has.far (p := ⟨U, 1, none⟩) HL.out (show Cc ≠ U by omega) _)
                          have HB9 : Hid (Below U w6 wT) := Lib.hid (by rw [← hwT]; exact Below.setCell (HBE.out.mono (by omega)) (Nat.le_refl U) _)
                          have hP9 : wT.cell? ⟨P, 0, none⟩ = some (.int .i64 f) ∧ wT.cell? ⟨P, 1, none⟩ = some (.int .i64 t2) := ⟨by rw [(HP6.out.below HB9.out hPU).cell]; rfl, by rw [(HP6.out.below HB9.out hPU).cell]; rfl⟩
                          try rw [hwT]
                          clear q0 q1 q2 hwT HUg HO2 HS HL HBE
                          refine hK.out _ _ ?_ (fun hHeld => ?_)
                          · exact hP9
                          clear hK K
                          try simp only [Act.put, List.setIfInBounds_toArray, List.set_cons_zero, List.set_cons_succ]
                          refine wpAnyH_done (by kernel_rfl) ?_ _
                          go_wp2_with fail
                          go_meet
                          case rel => exact ⟨rfl, g2, cap2, Rm, Cc, HT9, HO9, HS9, HL9, HB9, hne, hRmw, hCcw⟩
                        exact AllReadyH.nil
                      exact AllReadyH.nil
                    exact AllReadyH.nil
                  exact AllReadyH.nil
                exact AllReadyH.nil
              exact AllReadyH.nil
            refine AllReadyH.cons rfl (fun K hK => ?_) ?_
            · go_simp; try rw [show (w6.alloc (.cells #[.string { data := #[110, 111, 116, 104, 105, 110, 103] }] 9)).drew = w6.drew.alloc (.cells #[.string { data := #[110, 111, 116, 104, 105, 110, 103] }] 9) from rfl]
              have hs0 := HBC.out.size
              have HS := Lib.hid (Has.new w6.drew #[.string { data := #[110, 111, 116, 104, 105, 110, 103] }] 9)
              have hsz : (w6.drew.alloc (.cells #[.string { data := #[110, 111, 116, 104, 105, 110, 103] }] 9)).heap.size = w6.drew.heap.size + 1 := by simp
              replace HBC := Lib.hid (HBC.out.alloc hs0 (.cells #[.string { data := #[110, 111, 116, 104, 105, 110, 103] }] 9))
              obtain ⟨wS, hwS⟩ : ∃ z, w6.drew.alloc (.cells #[.string { data := #[110, 111, 116, 104, 105, 110, 103] }] 9) = z := ⟨_, rfl⟩
              obtain ⟨Rm, hRm⟩ : ∃ z, w6.drew.heap.size = z := ⟨_, rfl⟩
              have hRmw : w6.heap.size ≤ Rm := by rw [← hRm]; exact hs0
              rw [hwS] at HBC hsz HS ⊢
              rw [hRm] at hsz HS
              try rw [hRm]
              try rw [show w6.heap.size = Rm from hRm]
              have hRl : Rm < wS.heap.size := by omega
              clear hsz hwS hRm hs0
              refine hK.out _ _ ?_ (fun hHeld => ?_)
              · exact HPS.out _ (HBC.out.mono (by omega))
              clear hK K
              try simp only [Act.put, List.setIfInBounds_toArray, List.set_cons_zero, List.set_cons_succ]
              refine wpAnyH_ready (rs := [1, 4]) (by kernel_rfl) (by simp) ?_
              refine AllReadyH.cons rfl (fun K hK => ?_) ?_
              · have HUq := Lib.hid (HU6.out.below HBC.out HU6.out.lt)
                obtain ⟨q0, q1, q2⟩ := HUq.out.rules
                go_simp
                clear HUq q0 q1 q2
                refine hK.out _ _ ?_ (fun hHeld => ?_)
                · exact HPS.out _ (HBC.out.mono (by omega))
                clear hK K
                try simp only [Act.put, List.setIfInBounds_toArray, List.set_cons_zero, List.set_cons_succ]
                refine wpAnyH_ready (rs := [4]) (by kernel_rfl) (by simp) ?_
                refine AllReadyH.cons rfl (fun K hK => ?_) ?_
                · go_simp
                  go_at_call 14
                  refine (cover_any _ _).mono ?_
                  rintro r wK ⟨rfl, hbk⟩
                  replace HS := Lib.hid (HS.out.below hbk HS.out.lt)
                  replace hRl : Rm < wK.heap.size := HS.out.lt
                  replace HBC : Hid (Below w6.heap.size w6 wK) := Lib.hid (HBC.out.trans (hbk.mono HBC.out.size))
                  clear hbk
                  go_simp
                  refine hK.out _ _ ?_ (fun hHeld => ?_)
                  · exact HPS.out _ (HBC.out.mono (by omega))
                  clear hK K
                  try simp only [Act.put, List.setIfInBounds_toArray, List.set_cons_zero, List.set_cons_succ]
                  refine wpAnyH_ready (rs := [5]) (by kernel_rfl) (by simp) ?_
                  refine AllReadyH.cons rfl (fun K hK => ?_) ?_
                  · go_simp
                    have hs0 := HBC.out.size
                    have HL := Lib.hid (Has.new wK (covR { data := #[99, 45, 97, 97] }) 46)
                    have hsz : (wK.alloc (.cells (covR { data := #[99, 45, 97, 97] }) 46)).heap.size = wK.heap.size + 1 := by simp
                    replace HS := Lib.hid (HS.out.alloc (.cells (covR { data := #[99, 45, 97, 97] }) 46))
                    replace HBC := Lib.hid (HBC.out.alloc hs0 (.cells (covR { data := #[99, 45, 97, 97] }) 46))
                    obtain ⟨wL, hwL⟩ : ∃ z, wK.alloc (.cells (covR { data := #[99, 45, 97, 97] }) 46) = z := ⟨_, rfl⟩
                    obtain ⟨Cc, hCc⟩ : ∃ z, wK.heap.size = z := ⟨_, rfl⟩
                    have hCcw : w6.heap.size ≤ Cc := by rw [← hCc]; exact hs0
                    rw [hwL] at HBC hsz HL HS ⊢
                    rw [hCc] at hsz HL
                    try rw [hCc]
                    try rw [show w6.heap.size = Cc from hCc]
                    have hCl : Cc < wL.heap.size := by omega
                    replace hRl : Rm < wL.heap.size := HS.out.lt
                    clear hsz hwL hCc hs0
                    refine hK.out _ _ ?_ (fun hHeld => ?_)
                    · exact HPS.out _ (HBC.out.mono (by omega))
                    clear hK K
                    try simp only [Act.put, List.setIfInBounds_toArray, List.set_cons_zero, List.set_cons_succ]
                    refine wpAnyH_take (i := 6) (v := ?v9) rfl (by kernel_rfl) (by kernel_rfl) (by kernel_rfl) (fun _ _ _ h => h) (Or.inl ⟨by rfl, ?hy9⟩) (by assumption) ?rest9
                    case hy9 => (intro wx hSw; (try dsimp only at hSw); go_simp; try with_reducible rfl)
                    show wpAnyH _ _ _ _ _ _ _ (Act.put _ (some 69) _) _
                    try simp only [Act.put, List.setIfInBounds_toArray, List.set_cons_zero, List.set_cons_succ]
                    refine wpAnyH_ready (rs := [7]) (by kernel_rfl) (by simp) ?_
                    refine AllReadyH.cons rfl (fun K hK => ?_) ?_
                    · go_simp
                      have hs0 := HBC.out.size
                      have HE := Lib.hid (Has.new wL #[.int .i64 f, .int .i64 t2, .slice (some ⟨Rm, 0, none⟩) 1 1, .slice (some ⟨Cc, 0, none⟩) 1 1] 49)
                      have hsz : (wL.alloc (.cells #[.int .i64 f, .int .i64 t2, .slice (some ⟨Rm, 0, none⟩) 1 1, .slice (some ⟨Cc, 0, none⟩) 1 1] 49)).heap.size = wL.heap.size + 1 := by simp
                      replace HS := Lib.hid (HS.out.alloc (.cells #[.int .i64 f, .int .i64 t2, .slice (some ⟨Rm, 0, none⟩) 1 1, .slice (some ⟨Cc, 0, none⟩) 1 1] 49))
                      replace HL := Lib.hid (HL.out.alloc (.cells #[.int .i64 f, .int .i64 t2, .slice (some ⟨Rm, 0, none⟩) 1 1, .slice (some ⟨Cc, 0, none⟩) 1 1] 49))
                      replace HBC := Lib.hid (HBC.out.alloc hs0 (.cells #[.int .i64 f, .int .i64 t2, .slice (some ⟨Rm, 0, none⟩) 1 1, .slice (some ⟨Cc, 0, none⟩) 1 1] 49))
                      obtain ⟨wE, hwE⟩ : ∃ z, wL.alloc (.cells #[.int .i64 f, .int .i64 t2, .slice (some ⟨Rm, 0, none⟩) 1 1, .slice (some ⟨Cc, 0, none⟩) 1 1] 49) = z := ⟨_, rfl⟩
                      obtain ⟨C1, hC1⟩ : ∃ z, wL.heap.size = z := ⟨_, rfl⟩
                      have hC1w : w6.heap.size ≤ C1 := by rw [← hC1]; exact hs0
                      have hRC : Rm < C1 ∧ Cc < C1 := by rw [← hC1]; exact ⟨hRl, hCl⟩
                      rw [hwE] at HBC hsz HE HS HL ⊢
                      rw [hC1] at hsz HE
                      try rw [hC1]
                      try rw [show w6.heap.size = C1 from hC1]
                      clear hRl hCl
                      clear hsz hwE hC1 hs0
                      refine hK.out _ _ ?_ (fun hHeld => ?_)
                      · exact HPS.out _ (HBC.out.mono (by omega))
                      clear hK K
                      try simp only [Act.put, List.setIfInBounds_toArray, List.set_cons_zero, List.set_cons_succ]
                      refine wpAnyH_ready (rs := [8]) (by kernel_rfl) (by simp) ?_
                      refine AllReadyH.cons rfl (fun K hK => ?_) ?_
                      · have hs0 := HBC.out.size
                        have HRq := Lib.hid (own_below HR6.out HBC.out)
                        refine step_append_lies _ (by rfl) _ _ _ (by rfl) w4.heap.size 49 j0 _ 4 64 Tryz.underlying23 HI.out HZ0.out HZ1.out HZ2.out rfl (by omega) (.slice (some ⟨g1, 0, none⟩) k cap1) k ((List.range (k * 4)).map (enF es PN)) (by rfl) HRq.out ⟨C1, 0, none⟩ 1 1 [.int .i64 f, .int .i64 t2, .slice (some ⟨Rm, 0, none⟩) 1 1, .slice (some ⟨Cc, 0, none⟩) 1 1] (by rfl) rfl (World.news_of_block (cs := #[.int .i64 f, .int .i64 t2, .slice (some ⟨Rm, 0, none⟩) 1 1, .slice (some ⟨Cc, 0, none⟩) 1 1]) (t := 49) (fr := (0, 0)) HE.out) (List.all_eq_true.1 rfl) (by omega) (by unfold maxLen; omega) (by omega) (by omega) _ rfl ?_
                        intro g2 cap2 wG hown hgrow hat hlt
                        show K (Act.put _ (some 71) _) _
                        have hg16 : g1 < w6.heap.size := (own_lt (k := g1) HR6.out rfl).1
                        have hgq : ∀ q, w6.heap.size ≤ q → some q ≠ (Value.slice (some ⟨g1, 0, none⟩) k cap1).ownBlock := fun q hq e => absurd (show q = g1 by injection e) (by omega)
                        replace HS := Lib.hid ((hgrow.block Rm HS.out.lt (hgq Rm hRmw)).trans HS.out)
                        replace HL := Lib.hid ((hgrow.block Cc HL.out.lt (hgq Cc hCcw)).trans HL.out)
                        have hne : Rm ≠ g2 ∧ Cc ≠ g2 := by
                          rcases hat with h9 | h9
                          · have h8 : g1 = g2 := by injection h9
                            omega
                          · have := HE.out.lt
                            omega
                        have hgo : ∀ q, (Value.slice (some ⟨g1, 0, none⟩) k cap1).ownBlock = some q → w4.heap.size ≤ q := fun q hq => (own_lt HR6.out hq).2
                        have HBE : Hid (Below w4.heap.size w6 wG) := Lib.hid (Below.grown (HBC.out.mono (by omega)) hgrow (by omega) hgo)
                        have HO2 := Lib.hid hown
                        have HUg := Lib.hid (HU6.out.below HBE.out hUl)
                        clear hown hgrow hat hlt hs0 HRq hg16 hgq hgo HE hRC
                        refine hK.out _ _ ?_ (fun hHeld => ?_)
                        · exact HPS.out _ HBE.out
                        clear hK K
                        try simp only [Act.put, List.setIfInBounds_toArray, List.set_cons_zero, List.set_cons_succ]
                        refine wpAnyH_take (i := 9) (v := ?v10) rfl (by kernel_rfl) (by kernel_rfl) (by kernel_rfl) (fun _ _ _ h => h) (Or.inl ⟨by rfl, ?hy10⟩) (by assumption) ?rest10
                        case hy10 => (intro wx hSw; (try dsimp only at hSw); go_simp; try with_reducible rfl)
                        try simp only [Act.put, List.setIfInBounds_toArray, List.set_cons_zero, List.set_cons_succ]
                        refine wpAnyH_ready (rs := [10]) (by kernel_rfl) (by simp) ?_
                        refine AllReadyH.cons rfl (fun K hK => ?_) ?_
                        · obtain ⟨q0, q1, q2⟩ := HUg.out.rules
                          go_simp
                          obtain ⟨wT, hwT⟩ : ∃ z, wG.setCell ⟨U, 1, none⟩ (.slice (some ⟨g2, 0, none⟩) (k + 1) cap2) = z := ⟨_, rfl⟩
                          have HT9 : Hid (Has wT U #[.slice Ax nc ca, .slice (some ⟨g2, 0, none⟩) (k + 1) cap2] 25) := Lib.hid (by rw [← hwT]; exact Has.put (cs := #[.slice Ax nc ca, .slice (some ⟨g1, 0, none⟩) k cap1]) HUg.out 1 _)
                          have HO9 := Lib.hid (show wT.ownsRow w4.heap.size _ _ _ _ _ by rw [← hwT]; exact own_keeps (b := U) HO2.out ((Keeps.refl U wG).put 1 _) hUl)
                          have HS9 : Hid (Has wT Rm #[.string { data := #[110, 111, 116, 104, 105, 110, 103] }] 9) := Lib.hid (by rw [← hwT]; exact Has.far (p := ⟨U, 1, none⟩) HS.out (show Rm ≠ U by omega) _)
                          have HL9 : Hid (Has wT Cc (covR { data := #[99, 45, 97, 97] }) 46) := Lib.hid (by rw [← hwT]; exact Has.far (p := ⟨U, 1, none⟩) HL.out (show Cc ≠ U by omega) _)
                          have HB9 : Hid (Below U w6 wT) := Lib.hid (by rw [← hwT]; exact Below.setCell (HBE.out.mono (by omega)) (Nat.le_refl U) _)
                          have hP9 : wT.cell? ⟨P, 0, none⟩ = some (.int .i64 f) ∧ wT.cell? ⟨P, 1, none⟩ = some (.int .i64 t2) := ⟨by rw [(HP6.out.below HB9.out hPU).cell]; rfl, by rw [(HP6.out.below HB9.out hPU).cell]; rfl⟩
                          try rw [hwT]
                          clear q0 q1 q2 hwT HUg HO2 HS HL HBE
                          refine hK.out _ _ ?_ (fun hHeld => ?_)
                          · exact hP9
                          clear hK K
                          try simp only [Act.put, List.setIfInBounds_toArray, List.set_cons_zero, List.set_cons_succ]
                          refine wpAnyH_done (by kernel_rfl) ?_ _
                          go_wp2_with fail
                          go_meet
                          case rel => exact ⟨rfl, g2, cap2, Rm, Cc, HT9, HO9, HS9, HL9, HB9, hne, hRmw, hCcw⟩
                        exact AllReadyH.nil
                      exact AllReadyH.nil
                    exact AllReadyH.nil
                  exact AllReadyH.nil
                exact AllReadyH.nil
              refine AllReadyH.cons rfl (fun K hK => ?_) ?_
              · go_simp
                go_at_call 14
                refine (cover_any _ _).mono ?_
                rintro r wK ⟨rfl, hbk⟩
                replace HS := Lib.hid (HS.out.below hbk HS.out.lt)
                replace hRl : Rm < wK.heap.size := HS.out.lt
                replace HBC : Hid (Below w6.heap.size w6 wK) := Lib.hid (HBC.out.trans (hbk.mono HBC.out.size))
                clear hbk
                go_simp
                refine hK.out _ _ ?_ (fun hHeld => ?_)
                · exact HPS.out _ (HBC.out.mono (by omega))
                clear hK K
                try simp only [Act.put, List.setIfInBounds_toArray, List.set_cons_zero, List.set_cons_succ]
                refine wpAnyH_ready (rs := [1, 5]) (by kernel_rfl) (by simp) ?_
                refine AllReadyH.cons rfl (fun K hK => ?_) ?_
                · have HUq := Lib.hid (HU6.out.below HBC.out HU6.out.lt)
                  obtain ⟨q0, q1, q2⟩ := HUq.out.rules
                  go_simp
                  clear HUq q0 q1 q2
                  refine hK.out _ _ ?_ (fun hHeld => ?_)
                  · exact HPS.out _ (HBC.out.mono (by omega))
                  clear hK K
                  try simp only [Act.put, List.setIfInBounds_toArray, List.set_cons_zero, List.set_cons_succ]
                  refine wpAnyH_ready (rs := [5]) (by kernel_rfl) (by simp) ?_
                  refine AllReadyH.cons rfl (fun K hK => ?_) ?_
                  · go_simp
                    have hs0 := HBC.out.size
                    have HL := Lib.hid (Has.new wK (covR { data := #[99, 45, 97, 97] }) 46)
                    have hsz : (wK.alloc (.cells (covR { data := #[99, 45, 97, 97] }) 46)).heap.size = wK.heap.size + 1 := by simp
                    replace HS := Lib.hid (HS.out.alloc (.cells (covR { data := #[99, 45, 97, 97] }) 46))
                    replace HBC := Lib.hid (HBC.out.alloc hs0 (.cells (covR { data := #[99, 45, 97, 97] }) 46))
                    obtain ⟨wL, hwL⟩ : ∃ z, wK.alloc (.cells (covR { data := #[99, 45, 97, 97] }) 46) = z := ⟨_, rfl⟩
                    obtain ⟨Cc, hCc⟩ : ∃ z, wK.heap.size = z := ⟨_, rfl⟩
                    have hCcw : w6.heap.size ≤ Cc := by rw [← hCc]; exact hs0
                    rw [hwL] at HBC hsz HL HS ⊢
                    rw [hCc] at hsz HL
                    try rw [hCc]
                    try rw [show w6.heap.size = Cc from hCc]
                    have hCl : Cc < wL.heap.size := by omega
                    replace hRl : Rm < wL.heap.size := HS.out.lt
                    clear hsz hwL hCc hs0
                    refine hK.out _ _ ?_ (fun hHeld => ?_)
                    · exact HPS.out _ (HBC.out.mono (by omega))
                    clear hK K
                    try simp only [Act.put, List.setIfInBounds_toArray, List.set_cons_zero, List.set_cons_succ]
                    refine wpAnyH_take (i := 6) (v := ?v11) rfl (by kernel_rfl) (by kernel_rfl) (by kernel_rfl) (fun _ _ _ h => h) (Or.inl ⟨by rfl, ?hy11⟩) (by assumption) ?rest11
                    case hy11 => (intro wx hSw; (try dsimp only at hSw); go_simp; try with_reducible rfl)
                    show wpAnyH _ _ _ _ _ _ _ (Act.put _ (some 69) _) _
                    try simp only [Act.put, List.setIfInBounds_toArray, List.set_cons_zero, List.set_cons_succ]
                    refine wpAnyH_ready (rs := [7]) (by kernel_rfl) (by simp) ?_
                    refine AllReadyH.cons rfl (fun K hK => ?_) ?_
                    · go_simp
                      have hs0 := HBC.out.size
                      have HE := Lib.hid (Has.new wL #[.int .i64 f, .int .i64 t2, .slice (some ⟨Rm, 0, none⟩) 1 1, .slice (some ⟨Cc, 0, none⟩) 1 1] 49)
                      have hsz : (wL.alloc (.cells #[.int .i64 f, .int .i64 t2, .slice (some ⟨Rm, 0, none⟩) 1 1, .slice (some ⟨Cc, 0, none⟩) 1 1] 49)).heap.size = wL.heap.size + 1 := by simp
                      replace HS := Lib.hid (HS.out.alloc (.cells #[.int .i64 f, .int .i64 t2, .slice (some ⟨Rm, 0, none⟩) 1 1, .slice (some ⟨Cc, 0, none⟩) 1 1] 49))
                      replace HL := Lib.hid (HL.out.alloc (.cells #[.int .i64 f, .int .i64 t2, .slice (some ⟨Rm, 0, none⟩) 1 1, .slice (some ⟨Cc, 0, none⟩) 1 1] 49))
                      replace HBC := Lib.hid (HBC.out.alloc hs0 (.cells #[.int .i64 f, .int .i64 t2, .slice (some ⟨Rm, 0, none⟩) 1 1, .slice (some ⟨Cc, 0, none⟩) 1 1] 49))
                      obtain ⟨wE, hwE⟩ : ∃ z, wL.alloc (.cells #[.int .i64 f, .int .i64 t2, .slice (some ⟨Rm, 0, none⟩) 1 1, .slice (some ⟨Cc, 0, none⟩) 1 1] 49) = z := ⟨_, rfl⟩
                      obtain ⟨C1, hC1⟩ : ∃ z, wL.heap.size = z := ⟨_, rfl⟩
                      have hC1w : w6.heap.size ≤ C1 := by rw [← hC1]; exact hs0
                      have hRC : Rm < C1 ∧ Cc < C1 := by rw [← hC1]; exact ⟨hRl, hCl⟩
                      rw [hwE] at HBC hsz HE HS HL ⊢
                      rw [hC1] at hsz HE
                      try rw [hC1]
                      try rw [show w6.heap.size = C1 from hC1]
                      clear hRl hCl
                      clear hsz hwE hC1 hs0
                      refine hK.out _ _ ?_ (fun hHeld => ?_)
                      · exact HPS.out _ (HBC.out.mono (by omega))
                      clear hK K
                      try simp only [Act.put, List.setIfInBounds_toArray, List.set_cons_zero, List.set_cons_succ]
                      refine wpAnyH_ready (rs := [8]) (by kernel_rfl) (by simp) ?_
                      refine AllReadyH.cons rfl (fun K hK => ?_) ?_
                      · have hs0 := HBC.out.size
                        have HRq := Lib.hid (own_below HR6.out HBC.out)
                        refine step_append_lies _ (by rfl) _ _ _ (by rfl) w4.heap.size 49 j0 _ 4 64 Tryz.underlying23 HI.out HZ0.out HZ1.out HZ2.out rfl (by omega) (.slice (some ⟨g1, 0, none⟩) k cap1) k ((List.range (k * 4)).map (enF es PN)) (by rfl) HRq.out ⟨C1, 0, none⟩ 1 1 [.int .i64 f, .int .i64 t2, .slice (some ⟨Rm, 0, none⟩) 1 1, .slice (some ⟨Cc, 0, none⟩) 1 1] (by rfl) rfl (World.news_of_block (cs := #[.int .i64 f, .int .i64 t2, .slice (some ⟨Rm, 0, none⟩) 1 1, .slice (some ⟨Cc, 0, none⟩) 1 1]) (t := 49) (fr := (0, 0)) HE.out) (List.all_eq_true.1 rfl) (by omega) (by unfold maxLen; omega) (by omega) (by omega) _ rfl ?_
                        intro g2 cap2 wG hown hgrow hat hlt
                        show K (Act.put _ (some 71) _) _
                        have hg16 : g1 < w6.heap.size := (own_lt (k := g1) HR6.out rfl).1
                        have hgq : ∀ q, w6.heap.size ≤ q → some q ≠ (Value.slice (some ⟨g1, 0, none⟩) k cap1).ownBlock := fun q hq e => absurd (show q = g1 by injection e) (by omega)
                        replace HS := Lib.hid ((hgrow.block Rm HS.out.lt (hgq Rm hRmw)).trans HS.out)
                        replace HL := Lib.hid ((hgrow.block Cc HL.out.lt (hgq Cc hCcw)).trans HL.out)
                        have hne : Rm ≠ g2 ∧ Cc ≠ g2 := by
                          rcases hat with h9 | h9
                          · have h8 : g1 = g2 := by injection h9
                            omega
                          · have := HE.out.lt
                            omega
                        have hgo : ∀ q, (Value.slice (some ⟨g1, 0, none⟩) k cap1).ownBlock = some q → w4.heap.size ≤ q := fun q hq => (own_lt HR6.out hq).2
                        have HBE : Hid (Below w4.heap.size w6 wG) := Lib.hid (Below.grown (HBC.out.mono (by omega)) hgrow (by omega) hgo)
                        have HO2 := Lib.hid hown
                        have HUg := Lib.hid (HU6.out.below HBE.out hUl)
                        clear hown hgrow hat hlt hs0 HRq hg16 hgq hgo HE hRC
                        refine hK.out _ _ ?_ (fun hHeld => ?_)
                        · exact HPS.out _ HBE.out
                        clear hK K
                        try simp only [Act.put, List.setIfInBounds_toArray, List.set_cons_zero, List.set_cons_succ]
                        refine wpAnyH_take (i := 9) (v := ?v12) rfl (by kernel_rfl) (by kernel_rfl) (by kernel_rfl) (fun _ _ _ h => h) (Or.inl ⟨by rfl, ?hy12⟩) (by assumption) ?rest12
                        case hy12 => (intro wx hSw; (try dsimp only at hSw); go_simp; try with_reducible rfl)
                        try simp only [Act.put, List.setIfInBounds_toArray, List.set_cons_zero, List.set_cons_succ]
                        refine wpAnyH_ready (rs := [10]) (by kernel_rfl) (by simp) ?_
                        refine AllReadyH.cons rfl (fun K hK => ?_) ?_
                        · obtain ⟨q0, q1, q2⟩ := HUg.out.rules
                          go_simp
                          obtain ⟨wT, hwT⟩ : ∃ z, wG.setCell ⟨U, 1, none⟩ (.slice (some ⟨g2, 0, none⟩) (k + 1) cap2) = z := ⟨_, rfl⟩
                          have HT9 : Hid (Has wT U #[.slice Ax nc ca, .slice (some ⟨g2, 0, none⟩) (k + 1) cap2] 25) := Lib.hid (by rw [← hwT]; exact Has.put (cs := #[.slice Ax nc ca, .slice (some ⟨g1, 0, none⟩) k cap1]) HUg.out 1 _)
                          have HO9 := Lib.hid (show wT.ownsRow w4.heap.size _ _ _ _ _ by rw [← hwT]; exact own_keeps (b := U) HO2.out ((Keeps.refl U wG).put 1 _) hUl)
                          have HS9 : Hid (Has wT Rm #[.string { data := #[110, 111, 116, 104, 105, 110, 103] }] 9) := Lib.hid (by rw [← hwT]; exact Has.far (p := ⟨U, 1, none⟩) HS.out (show Rm ≠ U by omega) _)
                          have HL9 : Hid (Has wT Cc (covR { data := #[99, 45, 97, 97] }) 46) := Lib.hid (by rw [← hwT]; exact Has.far (p := ⟨U, 1, none⟩) HL.out (show Cc ≠ U by omega) _)
                          have HB9 : Hid (Below U w6 wT) := Lib.hid (by rw [← hwT]; exact Below.setCell (HBE.out.mono (by omega)) (Nat.le_refl U) _)
                          have hP9 : wT.cell? ⟨P, 0, none⟩ = some (.int .i64 f) ∧ wT.cell? ⟨P, 1, none⟩ = some (.int .i64 t2) := ⟨by rw [(HP6.out.below HB9.out hPU).cell]; rfl, by rw [(HP6.out.below HB9.out hPU).cell]; rfl⟩
                          try rw [hwT]
                          clear q0 q1 q2 hwT HUg HO2 HS HL HBE
                          refine hK.out _ _ ?_ (fun hHeld => ?_)
                          · exact hP9
                          clear hK K
                          try simp only [Act.put, List.setIfInBounds_toArray, List.set_cons_zero, List.set_cons_succ]
                          refine wpAnyH_done (by kernel_rfl) ?_ _
                          go_wp2_with fail
                          go_meet
                          case rel => exact ⟨rfl, g2, cap2, Rm, Cc, HT9, HO9, HS9, HL9, HB9, hne, hRmw, hCcw⟩
                        exact AllReadyH.nil
                      exact AllReadyH.nil
                    exact AllReadyH.nil
                  exact AllReadyH.nil
                refine AllReadyH.cons rfl (fun K hK => ?_) ?_
                · go_simp
                  have hs0 := HBC.out.size
                  have HL := Lib.hid (Has.new wK (covR { data := #[99, 45, 97, 97] }) 46)
                  have hsz : (wK.alloc (.cells (covR { data := #[99, 45, 97, 97] }) 46)).heap.size = wK.heap.size + 1 := by simp
                  replace HS := Lib.hid (HS.out.alloc (.cells (covR { data := #[99, 45, 97, 97] }) 46))
                  replace HBC := Lib.hid (HBC.out.alloc hs0 (.cells (covR { data := #[99, 45, 97, 97] }) 46))
                  obtain ⟨wL, hwL⟩ : ∃ z, wK.alloc (.cells (covR { data := #[99, 45, 97, 97] }) 46) = z := ⟨_, rfl⟩
                  obtain ⟨Cc, hCc⟩ : ∃ z, wK.heap.size = z := ⟨_, rfl⟩
                  have hCcw : w6.heap.size ≤ Cc := by rw [← hCc]; exact hs0
                  rw [hwL] at HBC hsz HL HS ⊢
                  rw [hCc] at hsz HL
                  try rw [hCc]
                  try rw [show w6.heap.size = Cc from hCc]
                  have hCl : Cc < wL.heap.size := by omega
                  replace hRl : Rm < wL.heap.size := HS.out.lt
                  clear hsz hwL hCc hs0
                  refine hK.out _ _ ?_ (fun hHeld => ?_)
                  · exact HPS.out _ (HBC.out.mono (by omega))
                  clear hK K
                  try simp only [Act.put, List.setIfInBounds_toArray, List.set_cons_zero, List.set_cons_succ]
                  refine wpAnyH_take (i := 6) (v := ?v13) rfl (by kernel_rfl) (by kernel_rfl) (by kernel_rfl) (fun _ _ _ h => h) (Or.inl ⟨by rfl, ?hy13⟩) (by assumption) ?rest13
                  case hy13 => (intro wx hSw; (try dsimp only at hSw); go_simp; try with_reducible rfl)
                  show wpAnyH _ _ _ _ _ _ _ (Act.put _ (some 69) _) _
                  try simp only [Act.put, List.setIfInBounds_toArray, List.set_cons_zero, List.set_cons_succ]
                  refine wpAnyH_ready (rs := [1, 7]) (by kernel_rfl) (by simp) ?_
                  refine AllReadyH.cons rfl (fun K hK => ?_) ?_
                  · have HUq := Lib.hid (HU6.out.below HBC.out HU6.out.lt)
                    obtain ⟨q0, q1, q2⟩ := HUq.out.rules
                    go_simp
                    clear HUq q0 q1 q2
                    refine hK.out _ _ ?_ (fun hHeld => ?_)
                    · exact HPS.out _ (HBC.out.mono (by omega))
                    clear hK K
                    try simp only [Act.put, List.setIfInBounds_toArray, List.set_cons_zero, List.set_cons_succ]
                    refine wpAnyH_ready (rs := [7]) (by kernel_rfl) (by simp) ?_
                    refine AllReadyH.cons rfl (fun K hK => ?_) ?_
                    · go_simp
                      have hs0 := HBC.out.size
                      have HE := Lib.hid (Has.new wL #[.int .i64 f, .int .i64 t2, .slice (some ⟨Rm, 0, none⟩) 1 1, .slice (some ⟨Cc, 0, none⟩) 1 1] 49)
                      have hsz : (wL.alloc (.cells #[.int .i64 f, .int .i64 t2, .slice (some ⟨Rm, 0, none⟩) 1 1, .slice (some ⟨Cc, 0, none⟩) 1 1] 49)).heap.size = wL.heap.size + 1 := by simp
                      replace HS := Lib.hid (HS.out.alloc (.cells #[.int .i64 f, .int .i64 t2, .slice (some ⟨Rm, 0, none⟩) 1 1, .slice (some ⟨Cc, 0, none⟩) 1 1] 49))
                      replace HL := Lib.hid (HL.out.alloc (.cells #[.int .i64 f, .int .i64 t2, .slice (some ⟨Rm, 0, none⟩) 1 1, .slice (some ⟨Cc, 0, none⟩) 1 1] 49))
                      replace HBC := Lib.hid (HBC.out.alloc hs0 (.cells #[.int .i64 f, .int .i64 t2, .slice (some ⟨Rm, 0, none⟩) 1 1, .slice (some ⟨Cc, 0, none⟩) 1 1] 49))
                      obtain ⟨wE, hwE⟩ : ∃ z, wL.alloc (.cells #[.int .i64 f, .int .i64 t2, .slice (some ⟨Rm, 0, none⟩) 1 1, .slice (some ⟨Cc, 0, none⟩) 1 1] 49) = z := ⟨_, rfl⟩
                      obtain ⟨C1, hC1⟩ : ∃ z, wL.heap.size = z := ⟨_, rfl⟩
                      have hC1w : w6.heap.size ≤ C1 := by rw [← hC1]; exact hs0
                      have hRC : Rm < C1 ∧ Cc < C1 := by rw [← hC1]; exact ⟨hRl, hCl⟩
                      rw [hwE] at HBC hsz HE HS HL ⊢
                      rw [hC1] at hsz HE
                      try rw [hC1]
                      try rw [show w6.heap.size = C1 from hC1]
                      clear hRl hCl
                      clear hsz hwE hC1 hs0
                      refine hK.out _ _ ?_ (fun hHeld => ?_)
                      · exact HPS.out _ (HBC.out.mono (by omega))
                      clear hK K
                      try simp only [Act.put, List.setIfInBounds_toArray, List.set_cons_zero, List.set_cons_succ]
                      refine wpAnyH_ready (rs := [8]) (by kernel_rfl) (by simp) ?_
                      refine AllReadyH.cons rfl (fun K hK => ?_) ?_
                      · have hs0 := HBC.out.size
                        have HRq := Lib.hid (own_below HR6.out HBC.out)
                        refine step_append_lies _ (by rfl) _ _ _ (by rfl) w4.heap.size 49 j0 _ 4 64 Tryz.underlying23 HI.out HZ0.out HZ1.out HZ2.out rfl (by omega) (.slice (some ⟨g1, 0, none⟩) k cap1) k ((List.range (k * 4)).map (enF es PN)) (by rfl) HRq.out ⟨C1, 0, none⟩ 1 1 [.int .i64 f, .int .i64 t2, .slice (some ⟨Rm, 0, none⟩) 1 1, .slice (some ⟨Cc, 0, none⟩) 1 1] (by rfl) rfl (World.news_of_block (cs := #[.int .i64 f, .int .i64 t2, .slice (some ⟨Rm, 0, none⟩) 1 1, .slice (some ⟨Cc, 0, none⟩) 1 1]) (t := 49) (fr := (0, 0)) HE.out) (List.all_eq_true.1 rfl) (by omega) (by unfold maxLen; omega) (by omega) (by omega) _ rfl ?_
                        intro g2 cap2 wG hown hgrow hat hlt
                        show K (Act.put _ (some 71) _) _
                        have hg16 : g1 < w6.heap.size := (own_lt (k := g1) HR6.out rfl).1
                        have hgq : ∀ q, w6.heap.size ≤ q → some q ≠ (Value.slice (some ⟨g1, 0, none⟩) k cap1).ownBlock := fun q hq e => absurd (show q = g1 by injection e) (by omega)
                        replace HS := Lib.hid ((hgrow.block Rm HS.out.lt (hgq Rm hRmw)).trans HS.out)
                        replace HL := Lib.hid ((hgrow.block Cc HL.out.lt (hgq Cc hCcw)).trans HL.out)
                        have hne : Rm ≠ g2 ∧ Cc ≠ g2 := by
                          rcases hat with h9 | h9
                          · have h8 : g1 = g2 := by injection h9
                            omega
                          · have := HE.out.lt
                            omega
                        have hgo : ∀ q, (Value.slice (some ⟨g1, 0, none⟩) k cap1).ownBlock = some q → w4.heap.size ≤ q := fun q hq => (own_lt HR6.out hq).2
                        have HBE : Hid (Below w4.heap.size w6 wG) := Lib.hid (Below.grown (HBC.out.mono (by omega)) hgrow (by omega) hgo)
                        have HO2 := Lib.hid hown
                        have HUg := Lib.hid (HU6.out.below HBE.out hUl)
                        clear hown hgrow hat hlt hs0 HRq hg16 hgq hgo HE hRC
                        refine hK.out _ _ ?_ (fun hHeld => ?_)
                        · exact HPS.out _ HBE.out
                        clear hK K
                        try simp only [Act.put, List.setIfInBounds_toArray, List.set_cons_zero, List.set_cons_succ]
                        refine wpAnyH_take (i := 9) (v := ?v14) rfl (by kernel_rfl) (by kernel_rfl) (by kernel_rfl) (fun _ _ _ h => h) (Or.inl ⟨by rfl, ?hy14⟩) (by assumption) ?rest14
                        case hy14 => (intro wx hSw; (try dsimp only at hSw); go_simp; try with_reducible rfl)
                        try simp only [Act.put, List.setIfInBounds_toArray, List.set_cons_zero, List.set_cons_succ]
                        refine wpAnyH_ready (rs := [10]) (by kernel_rfl) (by simp) ?_
                        refine AllReadyH.cons rfl (fun K hK => ?_) ?_
                        · obtain ⟨q0, q1, q2⟩ := HUg.out.rules
                          go_simp
                          obtain ⟨wT, hwT⟩ : ∃ z, wG.setCell ⟨U, 1, none⟩ (.slice (some ⟨g2, 0, none⟩) (k + 1) cap2) = z := ⟨_, rfl⟩
                          have HT9 : Hid (Has wT U #[.slice Ax nc ca, .slice (some ⟨g2, 0, none⟩) (k + 1) cap2] 25) := Lib.hid (by rw [← hwT]; exact Has.put (cs := #[.slice Ax nc ca, .slice (some ⟨g1, 0, none⟩) k cap1]) HUg.out 1 _)
                          have HO9 := Lib.hid (show wT.ownsRow w4.heap.size _ _ _ _ _ by rw [← hwT]; exact own_keeps (b := U) HO2.out ((Keeps.refl U wG).put 1 _) hUl)
                          have HS9 : Hid (Has wT Rm #[.string { data := #[110, 111, 116, 104, 105, 110, 103] }] 9) := Lib.hid (by rw [← hwT]; exact Has.far (p := ⟨U, 1, none⟩) HS.out (show Rm ≠ U by omega) _)
                          have HL9 : Hid (Has wT Cc (covR { data := #[99, 45, 97, 97] }) 46) := Lib.hid (by rw [← hwT]; exact Has.far (p := ⟨U, 1, none⟩) HL.out (show Cc ≠ U by omega) _)
                          have HB9 : Hid (Below U w6 wT) := Lib.hid (by rw [← hwT]; exact Below.setCell (HBE.out.mono (by omega)) (Nat.le_refl U) _)
                          have hP9 : wT.cell? ⟨P, 0, none⟩ = some (.int .i64 f) ∧ wT.cell? ⟨P, 1, none⟩ = some (.int .i64 t2) := ⟨by rw [(HP6.out.below HB9.out hPU).cell]; rfl, by rw [(HP6.out.below HB9.out hPU).cell]; rfl⟩
                          try rw [hwT]
                          clear q0 q1 q2 hwT HUg HO2 HS HL HBE
                          refine hK.out _ _ ?_ (fun hHeld => ?_)
                          · exact hP9
                          clear hK K
                          try simp only [Act.put, List.setIfInBounds_toArray, List.set_cons_zero, List.set_cons_succ]
                          refine wpAnyH_done (by kernel_rfl) ?_ _
                          go_wp2_with fail
                          go_meet
                          case rel => exact ⟨rfl, g2, cap2, Rm, Cc, HT9, HO9, HS9, HL9, HB9, hne, hRmw, hCcw⟩
                        exact AllReadyH.nil
                      exact AllReadyH.nil
                    exact AllReadyH.nil
                  refine AllReadyH.cons rfl (fun K hK => ?_) ?_
                  · go_simp
                    have hs0 := HBC.out.size
                    have HE := Lib.hid (Has.new wL #[.int .i64 f, .int .i64 t2, .slice (some ⟨Rm, 0, none⟩) 1 1, .slice (some ⟨Cc, 0, none⟩) 1 1] 49)
                    have hsz : (wL.alloc (.cells #[.int .i64 f, .int .i64 t2, .slice (some ⟨Rm, 0, none⟩) 1 1, .slice (some ⟨Cc, 0, none⟩) 1 1] 49)).heap.size = wL.heap.size + 1 := by simp
                    replace HS := Lib.hid (HS.out.alloc (.cells #[.int .i64 f, .int .i64 t2, .slice (some ⟨Rm, 0, none⟩) 1 1, .slice (some ⟨Cc, 0, none⟩) 1 1] 49))
                    replace HL := Lib.hid (HL.out.alloc (.cells #[.int .i64 f, .int .i64 t2, .slice (some ⟨Rm, 0, none⟩) 1 1, .slice (some ⟨Cc, 0, none⟩) 1 1] 49))
                    replace HBC := Lib.hid (HBC.out.alloc hs0 (.cells #[.int .i64 f, .int .i64 t2, .slice (some ⟨Rm, 0, none⟩) 1 1, .slice (some ⟨Cc, 0, none⟩) 1 1] 49))
                    obtain ⟨wE, hwE⟩ : ∃ z, wL.alloc (.cells #[.int .i64 f, .int .i64 t2, .slice (some ⟨Rm, 0, none⟩) 1 1, .slice (some ⟨Cc, 0, none⟩) 1 1] 49) = z := ⟨_, rfl⟩
                    obtain ⟨C1, hC1⟩ : ∃ z, wL.heap.size = z := ⟨_, rfl⟩
                    have hC1w : w6.heap.size ≤ C1 := by rw [← hC1]; exact hs0
                    have hRC : Rm < C1 ∧ Cc < C1 := by rw [← hC1]; exact ⟨hRl, hCl⟩
                    rw [hwE] at HBC hsz HE HS HL ⊢
                    rw [hC1] at hsz HE
                    try rw [hC1]
                    try rw [show w6.heap.size = C1 from hC1]
                    clear hRl hCl
                    clear hsz hwE hC1 hs0
                    refine hK.out _ _ ?_ (fun hHeld => ?_)
                    · exact HPS.out _ (HBC.out.mono (by omega))
                    clear hK K
                    try simp only [Act.put, List.setIfInBounds_toArray, List.set_cons_zero, List.set_cons_succ]
                    refine wpAnyH_ready (rs := [1]) (by kernel_rfl) (by simp) ?_
                    refine AllReadyH.cons rfl (fun K hK => ?_) ?_
                    · have HUq := Lib.hid (HU6.out.below HBC.out HU6.out.lt)
                      obtain ⟨q0, q1, q2⟩ := HUq.out.rules
                      go_simp
                      clear HUq q0 q1 q2
                      refine hK.out _ _ ?_ (fun hHeld => ?_)
                      · exact HPS.out _ (HBC.out.mono (by omega))
                      clear hK K
                      try simp only [Act.put, List.setIfInBounds_toArray, List.set_cons_zero, List.set_cons_succ]
                      refine wpAnyH_ready (rs := [8]) (by kernel_rfl) (by simp) ?_
                      refine AllReadyH.cons rfl (fun K hK => ?_) ?_
                      · have hs0 := HBC.out.size
                        have HRq := Lib.hid (own_below HR6.out HBC.out)
                        refine step_append_lies _ (by rfl) _ _ _ (by rfl) w4.heap.size 49 j0 _ 4 64 Tryz.underlying23 HI.out HZ0.out HZ1.out HZ2.out rfl (by omega) (.slice (some ⟨g1, 0, none⟩) k cap1) k ((List.range (k * 4)).map (enF es PN)) (by rfl) HRq.out ⟨C1, 0, none⟩ 1 1 [.int .i64 f, .int .i64 t2, .slice (some ⟨Rm, 0, none⟩) 1 1, .slice (some ⟨Cc, 0, none⟩) 1 1] (by rfl) rfl (World.news_of_block (cs := #[.int .i64 f, .int .i64 t2, .slice (some ⟨Rm, 0, none⟩) 1 1, .slice (some ⟨Cc, 0, none⟩) 1 1]) (t := 49) (fr := (0, 0)) HE.out) (List.all_eq_true.1 rfl) (by omega) (by unfold maxLen; omega) (by omega) (by omega) _ rfl ?_
                        intro g2 cap2 wG hown hgrow hat hlt
                        show K (Act.put _ (some 71) _) _
                        have hg16 : g1 < w6.heap.size := (own_lt (k := g1) HR6.out rfl).1
                        have hgq : ∀ q, w6.heap.size ≤ q → some q ≠ (Value.slice (some ⟨g1, 0, none⟩) k cap1).ownBlock := fun q hq e => absurd (show q = g1 by injection e) (by omega)
                        replace HS := Lib.hid ((hgrow.block Rm HS.out.lt (hgq Rm hRmw)).trans HS.out)
                        replace HL := Lib.hid ((hgrow.block Cc HL.out.lt (hgq Cc hCcw)).trans HL.out)
                        have hne : Rm ≠ g2 ∧ Cc ≠ g2 := by
                          rcases hat with h9 | h9
                          · have h8 : g1 = g2 := by injection h9
                            omega
                          · have := HE.out.lt
                            omega
                        have hgo : ∀ q, (Value.slice (some ⟨g1, 0, none⟩) k cap1).ownBlock = some q → w4.heap.size ≤ q := fun q hq => (own_lt HR6.out hq).2
                        have HBE : Hid (Below w4.heap.size w6 wG) := Lib.hid (Below.grown (HBC.out.mono (by omega)) hgrow (by omega) hgo)
                        have HO2 := Lib.hid hown
                        have HUg := Lib.hid (HU6.out.below HBE.out hUl)
                        clear hown hgrow hat hlt hs0 HRq hg16 hgq hgo HE hRC
                        refine hK.out _ _ ?_ (fun hHeld => ?_)
                        · exact HPS.out _ HBE.out
                        clear hK K
                        try simp only [Act.put, List.setIfInBounds_toArray, List.set_cons_zero, List.set_cons_succ]
                        refine wpAnyH_take (i := 9) (v := ?v15) rfl (by kernel_rfl) (by kernel_rfl) (by kernel_rfl) (fun _ _ _ h => h) (Or.inl ⟨by rfl, ?hy15⟩) (by assumption) ?rest15
                        case hy15 => (intro wx hSw; (try dsimp only at hSw); go_simp; try with_reducible rfl)
                        try simp only [Act.put, List.setIfInBounds_toArray, List.set_cons_zero, List.set_cons_succ]
                        refine wpAnyH_ready (rs := [10]) (by kernel_rfl) (by simp) ?_
                        refine AllReadyH.cons rfl (fun K hK => ?_) ?_
                        · obtain ⟨q0, q1, q2⟩ := HUg.out.rules
                          go_simp
                          obtain ⟨wT, hwT⟩ : ∃ z, wG.setCell ⟨U, 1, none⟩ (.slice (some ⟨g2, 0, none⟩) (k + 1) cap2) = z := ⟨_, rfl⟩
                          have HT9 : Hid (Has wT U #[.slice Ax nc ca, .slice (some ⟨g2, 0, none⟩) (k + 1) cap2] 25) := Lib.hid (by rw [← hwT]; exact Has.put (cs := #[.slice Ax nc ca, .slice (some ⟨g1, 0, none⟩) k cap1]) HUg.out 1 _)
                          have HO9 := Lib.hid (show wT.ownsRow w4.heap.size _ _ _ _ _ by rw [← hwT]; exact own_keeps (b := U) HO2.out ((Keeps.refl U wG).put 1 _) hUl)
                          have HS9 : Hid (Has wT Rm #[.string { data := #[110, 111, 116, 104, 105, 110, 103] }] 9) := Lib.hid (by rw [← hwT]; exact Has.far (p := ⟨U, 1, none⟩) HS.out (show Rm ≠ U by omega) _)
                          have HL9 : Hid (Has wT Cc (covR { data := #[99, 45, 97, 97] }) 46) := Lib.hid (by rw [← hwT]; exact Has.far (p := ⟨U, 1, none⟩) HL.out (show Cc ≠ U by omega) _)
                          have HB9 : Hid (Below U w6 wT) := Lib.hid (by rw [← hwT]; exact Below.setCell (HBE.out.mono (by omega)) (Nat.le_refl U) _)
                          have hP9 : wT.cell? ⟨P, 0, none⟩ = some (.int .i64 f) ∧ wT.cell? ⟨P, 1, none⟩ = some (.int .i64 t2) := ⟨by rw [(HP6.out.below HB9.out hPU).cell]; rfl, by rw [(HP6.out.below HB9.out hPU).cell]; rfl⟩
                          try rw [hwT]
                          clear q0 q1 q2 hwT HUg HO2 HS HL HBE
                          refine hK.out _ _ ?_ (fun hHeld => ?_)
                          · exact hP9
                          clear hK K
                          try simp only [Act.put, List.setIfInBounds_toArray, List.set_cons_zero, List.set_cons_succ]
                          refine wpAnyH_done (by kernel_rfl) ?_ _
                          go_wp2_with fail
                          go_meet
                          case rel => exact ⟨rfl, g2, cap2, Rm, Cc, HT9, HO9, HS9, HL9, HB9, hne, hRmw, hCcw⟩
                        exact AllReadyH.nil
                      exact AllReadyH.nil
                    exact AllReadyH.nil
                  exact AllReadyH.nil
                exact AllReadyH.nil
              exact AllReadyH.nil
            refine AllReadyH.cons rfl (fun K hK => ?_) ?_
            · go_simp
              go_at_call 14
              refine (cover_any _ _).mono ?_
              rintro r wK ⟨rfl, hbk⟩
              replace HBC : Hid (Below w6.heap.size w6 wK) := Lib.hid (HBC.out.trans (hbk.mono HBC.out.size))
              clear hbk
              go_simp
              refine hK.out _ _ ?_ (fun hHeld => ?_)
              · exact HPS.out _ (HBC.out.mono (by omega))
              clear hK K
              try simp only [Act.put, List.setIfInBounds_toArray, List.set_cons_zero, List.set_cons_succ]
              refine wpAnyH_ready (rs := [1, 3, 5]) (by kernel_rfl) (by simp) ?_
              refine AllReadyH.cons rfl (fun K hK => ?_) ?_
              · have HUq := Lib.hid (HU6.out.below HBC.out HU6.out.lt)
                obtain ⟨q0, q1, q2⟩ := HUq.out.rules
                go_simp
                clear HUq q0 q1 q2
                refine hK.out _ _ ?_ (fun hHeld => ?_)
                · exact HPS.out _ (HBC.out.mono (by omega))
                clear hK K
                try simp only [Act.put, List.setIfInBounds_toArray, List.set_cons_zero, List.set_cons_succ]
                refine wpAnyH_ready (rs := [3, 5]) (by kernel_rfl) (by simp) ?_
                refine AllReadyH.cons rfl (fun K hK => ?_) ?_
                · go_simp
                  have hs0 := HBC.out.size
                  have HS := Lib.hid (Has.new wK #[.string { data := #[110, 111, 116, 104, 105, 110, 103] }] 9)
                  have hsz : (wK.alloc (.cells #[.string { data := #[110, 111, 116, 104, 105, 110, 103] }] 9)).heap.size = wK.heap.size + 1 := by simp
                  replace HBC := Lib.hid (HBC.out.alloc hs0 (.cells #[.string { data := #[110, 111, 116, 104, 105, 110, 103] }] 9))
                  obtain ⟨wS, hwS⟩ : ∃ z, wK.alloc (.cells #[.string { data := #[110, 111, 116, 104, 105, 110, 103] }] 9) = z := ⟨_, rfl⟩
                  obtain ⟨Rm, hRm⟩ : ∃ z, wK.heap.size = z := ⟨_, rfl⟩
                  have hRmw : w6.heap.size ≤ Rm := by rw [← hRm]; exact hs0
                  rw [hwS] at HBC hsz HS ⊢
                  rw [hRm] at hsz HS
                  try rw [hRm]
                  try rw [show w6.heap.size = Rm from hRm]
                  have hRl : Rm < wS.heap.size := by omega
                  clear hsz hwS hRm hs0
                  refine hK.out _ _ ?_ (fun hHeld => ?_)
                  · exact HPS.out _ (HBC.out.mono (by omega))
                  clear hK K
                  try simp only [Act.put, List.setIfInBounds_toArray, List.set_cons_zero, List.set_cons_succ]
                  refine wpAnyH_ready (rs := [5]) (by kernel_rfl) (by simp) ?_
                  refine AllReadyH.cons rfl (fun K hK => ?_) ?_
                  · go_simp
                    have hs0 := HBC.out.size
                    have HL := Lib.hid (Has.new wS (covR { data := #[99, 45, 97, 97] }) 46)
                    have hsz : (wS.alloc (.cells (covR { data := #[99, 45, 97, 97] }) 46)).heap.size = wS.heap.size + 1 := by simp
                    replace HS := Lib.hid (HS.out.alloc (.cells (covR { data := #[99, 45, 97, 97] }) 46))
                    replace HBC := Lib.hid (HBC.out.alloc hs0 (.cells (covR { data := #[99, 45, 97, 97] }) 46))
                    obtain ⟨wL, hwL⟩ : ∃ z, wS.alloc (.cells (covR { data := #[99, 45, 97, 97] }) 46) = z := ⟨_, rfl⟩
                    obtain ⟨Cc, hCc⟩ : ∃ z, wS.heap.size = z := ⟨_, rfl⟩
                    have hCcw : w6.heap.size ≤ Cc := by rw [← hCc]; exact hs0
                    rw [hwL] at HBC hsz HL HS ⊢
                    rw [hCc] at hsz HL
                    try rw [hCc]
                    try rw [show w6.heap.size = Cc from hCc]
                    have hCl : Cc < wL.heap.size := by omega
                    replace hRl : Rm < wL.heap.size := HS.out.lt
                    clear hsz hwL hCc hs0
                    refine hK.out _ _ ?_ (fun hHeld => ?_)
                    · exact HPS.out _ (HBC.out.mono (by omega))
                    clear hK K
                    try simp only [Act.put, List.setIfInBounds_toArray, List.set_cons_zero, List.set_cons_succ]
                    refine wpAnyH_take (i := 6) (v := ?v16) rfl (by kernel_rfl) (by kernel_rfl) (by kernel_rfl) (fun _ _ _ h => h) (Or.inl ⟨by rfl, ?hy16⟩) (by assumption) ?rest16
                    case hy16 => (intro wx hSw; (try dsimp only at hSw); go_simp; try with_reducible rfl)
                    show wpAnyH _ _ _ _ _ _ _ (Act.put _ (some 69) _) _
                    try simp only [Act.put, List.setIfInBounds_toArray, List.set_cons_zero, List.set_cons_succ]
                    refine wpAnyH_ready (rs := [7]) (by kernel_rfl) (by simp) ?_
                    refine AllReadyH.cons rfl (fun K hK => ?_) ?_
                    · go_simp
                      have hs0 := HBC.out.size
                      have HE := Lib.hid (Has.new wL #[.int .i64 f, .int .i64 t2, .slice (some ⟨Rm, 0, none⟩) 1 1, .slice (some ⟨Cc, 0, none⟩) 1 1] 49)
                      have hsz : (wL.alloc (.cells #[.int .i64 f, .int .i64 t2, .slice (some ⟨Rm, 0, none⟩) 1 1, .slice (some ⟨Cc, 0, none⟩) 1 1] 49)).heap.size = wL.heap.size + 1 := by simp
                      replace HS := Lib.hid (HS.out.alloc (.cells #[.int .i64 f, .int .i64 t2, .slice (some ⟨Rm, 0, none⟩) 1 1, .slice (some ⟨Cc, 0, none⟩) 1 1] 49))
                      replace HL := Lib.hid (HL.out.alloc (.cells #[.int .i64 f, .int .i64 t2, .slice (some ⟨Rm, 0, none⟩) 1 1, .slice (some ⟨Cc, 0, none⟩) 1 1] 49))
                      replace HBC := Lib.hid (HBC.out.alloc hs0 (.cells #[.int .i64 f, .int .i64 t2, .slice (some ⟨Rm, 0, none⟩) 1 1, .slice (some ⟨Cc, 0, none⟩) 1 1] 49))
                      obtain ⟨wE, hwE⟩ : ∃ z, wL.alloc (.cells #[.int .i64 f, .int .i64 t2, .slice (some ⟨Rm, 0, none⟩) 1 1, .slice (some ⟨Cc, 0, none⟩) 1 1] 49) = z := ⟨_, rfl⟩
                      obtain ⟨C1, hC1⟩ : ∃ z, wL.heap.size = z := ⟨_, rfl⟩
                      have hC1w : w6.heap.size ≤ C1 := by rw [← hC1]; exact hs0
                      have hRC : Rm < C1 ∧ Cc < C1 := by rw [← hC1]; exact ⟨hRl, hCl⟩
                      rw [hwE] at HBC hsz HE HS HL ⊢
                      rw [hC1] at hsz HE
                      try rw [hC1]
                      try rw [show w6.heap.size = C1 from hC1]
                      clear hRl hCl
                      clear hsz hwE hC1 hs0
                      refine hK.out _ _ ?_ (fun hHeld => ?_)
                      · exact HPS.out _ (HBC.out.mono (by omega))
                      clear hK K
                      try simp only [Act.put, List.setIfInBounds_toArray, List.set_cons_zero, List.set_cons_succ]
                      refine wpAnyH_ready (rs := [8]) (by kernel_rfl) (by simp) ?_
                      refine AllReadyH.cons rfl (fun K hK => ?_) ?_
                      · have hs0 := HBC.out.size
                        have HRq := Lib.hid (own_below HR6.out HBC.out)
                        refine step_append_lies _ (by rfl) _ _ _ (by rfl) w4.heap.size 49 j0 _ 4 64 Tryz.underlying23 HI.out HZ0.out HZ1.out HZ2.out rfl (by omega) (.slice (some ⟨g1, 0, none⟩) k cap1) k ((List.range (k * 4)).map (enF es PN)) (by rfl) HRq.out ⟨C1, 0, none⟩ 1 1 [.int .i64 f, .int .i64 t2, .slice (some ⟨Rm, 0, none⟩) 1 1, .slice (some ⟨Cc, 0, none⟩) 1 1] (by rfl) rfl (World.news_of_block (cs := #[.int .i64 f, .int .i64 t2, .slice (some ⟨Rm, 0, none⟩) 1 1, .slice (some ⟨Cc, 0, none⟩) 1 1]) (t := 49) (fr := (0, 0)) HE.out) (List.all_eq_true.1 rfl) (by omega) (by unfold maxLen; omega) (by omega) (by omega) _ rfl ?_
                        intro g2 cap2 wG hown hgrow hat hlt
                        show K (Act.put _ (some 71) _) _
                        have hg16 : g1 < w6.heap.size := (own_lt (k := g1) HR6.out rfl).1
                        have hgq : ∀ q, w6.heap.size ≤ q → some q ≠ (Value.slice (some ⟨g1, 0, none⟩) k cap1).ownBlock := fun q hq e => absurd (show q = g1 by injection e) (by omega)
                        replace HS := Lib.hid ((hgrow.block Rm HS.out.lt (hgq Rm hRmw)).trans HS.out)
                        replace HL := Lib.hid ((hgrow.block Cc HL.out.lt (hgq Cc hCcw)).trans HL.out)
                        have hne : Rm ≠ g2 ∧ Cc ≠ g2 := by
                          rcases hat with h9 | h9
                          · have h8 : g1 = g2 := by injection h9
                            omega
                          · have := HE.out.lt
                            omega
                        have hgo : ∀ q, (Value.slice (some ⟨g1, 0, none⟩) k cap1).ownBlock = some q → w4.heap.size ≤ q := fun q hq => (own_lt HR6.out hq).2
                        have HBE : Hid (Below w4.heap.size w6 wG) := Lib.hid (Below.grown (HBC.out.mono (by omega)) hgrow (by omega) hgo)
                        have HO2 := Lib.hid hown
                        have HUg := Lib.hid (HU6.out.below HBE.out hUl)
                        clear hown hgrow hat hlt hs0 HRq hg16 hgq hgo HE hRC
                        refine hK.out _ _ ?_ (fun hHeld => ?_)
                        · exact HPS.out _ HBE.out
                        clear hK K
                        try simp only [Act.put, List.setIfInBounds_toArray, List.set_cons_zero, List.set_cons_succ]
                        refine wpAnyH_take (i := 9) (v := ?v17) rfl (by kernel_rfl) (by kernel_rfl) (by kernel_rfl) (fun _ _ _ h => h) (Or.inl ⟨by rfl, ?hy17⟩) (by assumption) ?rest17
                        case hy17 => (intro wx hSw; (try dsimp only at hSw); go_simp; try with_reducible rfl)
                        try simp only [Act.put, List.setIfInBounds_toArray, List.set_cons_zero, List.set_cons_succ]
                        refine wpAnyH_ready (rs := [10]) (by kernel_rfl) (by simp) ?_
                        refine AllReadyH.cons rfl (fun K hK => ?_) ?_
                        · obtain ⟨q0, q1, q2⟩ := HUg.out.rules
                          go_simp
                          obtain ⟨wT, hwT⟩ : ∃ z, wG.setCell ⟨U, 1, none⟩ (.slice (some ⟨g2, 0, none⟩) (k + 1) cap2) = z := ⟨_, rfl⟩
                          have HT9 : Hid (Has wT U #[.slice Ax nc ca, .slice (some ⟨g2, 0, none⟩) (k + 1) cap2] 25) := Lib.hid (by rw [← hwT]; exact Has.put (cs := #[.slice Ax nc ca, .slice (some ⟨g1, 0, none⟩) k cap1]) HUg.out 1 _)
                          have HO9 := Lib.hid (show wT.ownsRow w4.heap.size _ _ _ _ _ by rw [← hwT]; exact own_keeps (b := U) HO2.out ((Keeps.refl U wG).put 1 _) hUl)
                          have HS9 : Hid (Has wT Rm #[.string { data := #[110, 111, 116, 104, 105, 110, 103] }] 9) := Lib.hid (by rw [← hwT]; exact Has.far (p := ⟨U, 1, none⟩) HS.out (show Rm ≠ U by omega) _)
                          have HL9 : Hid (Has wT Cc (covR { data := #[99, 45, 97, 97] }) 46) := Lib.hid (by rw [← hwT]; exact Has.far (p := ⟨U, 1, none⟩) HL.out (show Cc ≠ U by omega) _)
                          have HB9 : Hid (Below U w6 wT) := Lib.hid (by rw [← hwT]; exact Below.setCell (HBE.out.mono (by omega)) (Nat.le_refl U) _)
                          have hP9 : wT.cell? ⟨P, 0, none⟩ = some (.int .i64 f) ∧ wT.cell? ⟨P, 1, none⟩ = some (.int .i64 t2) := ⟨by rw [(HP6.out.below HB9.out hPU).cell]; rfl, by rw [(HP6.out.below HB9.out hPU).cell]; rfl⟩
                          try rw [hwT]
                          clear q0 q1 q2 hwT HUg HO2 HS HL HBE
                          refine hK.out _ _ ?_ (fun hHeld => ?_)
                          · exact hP9
                          clear hK K
                          try simp only [Act.put, List.setIfInBounds_toArray, List.set_cons_zero, List.set_cons_succ]
                          refine wpAnyH_done (by kernel_rfl) ?_ _
                          go_wp2_with fail
                          go_meet
                          case rel => exact ⟨rfl, g2, cap2, Rm, Cc, HT9, HO9, HS9, HL9, HB9, hne, hRmw, hCcw⟩
                        exact AllReadyH.nil
                      exact AllReadyH.nil
                    exact AllReadyH.nil
                  exact AllReadyH.nil
                refine AllReadyH.cons rfl (fun K hK => ?_) ?_
                · go_simp
                  have hs0 := HBC.out.size
                  have HL := Lib.hid (Has.new wK (covR { data := #[99, 45, 97, 97] }) 46)
                  have hsz : (wK.alloc (.cells (covR { data := #[99, 45, 97, 97] }) 46)).heap.size = wK.heap.size + 1 := by simp
                  replace HBC := Lib.hid (HBC.out.alloc hs0 (.cells (covR { data := #[99, 45, 97, 97] }) 46))
                  obtain ⟨wL, hwL⟩ : ∃ z, wK.alloc (.cells (covR { data := #[99, 45, 97, 97] }) 46) = z := ⟨_, rfl⟩
                  obtain ⟨Cc, hCc⟩ : ∃ z, wK.heap.size = z := ⟨_, rfl⟩
                  have hCcw : w6.heap.size ≤ Cc := by rw [← hCc]; exact hs0
                  rw [hwL] at HBC hsz HL ⊢
                  rw [hCc] at hsz HL
                  try rw [hCc]
                  try rw [show w6.heap.size = Cc from hCc]
                  have hCl : Cc < wL.heap.size := by omega
                  clear hsz hwL hCc hs0
                  refine hK.out _ _ ?_ (fun hHeld => ?_)
                  · exact HPS.out _ (HBC.out.mono (by omega))
                  clear hK K
                  try simp only [Act.put, List.setIfInBounds_toArray, List.set_cons_zero, List.set_cons_succ]
                  refine wpAnyH_ready (rs := [3]) (by kernel_rfl) (by simp) ?_
                  refine AllReadyH.cons rfl (fun K hK => ?_) ?_
                  · go_simp
                    have hs0 := HBC.out.size
                    have HS := Lib.hid (Has.new wL #[.string { data := #[110, 111, 116, 104, 105, 110, 103] }] 9)
                    have hsz : (wL.alloc (.cells #[.string { data := #[110, 111, 116, 104, 105, 110, 103] }] 9)).heap.size = wL.heap.size + 1 := by simp
                    replace HL := Lib.hid (HL.out.alloc (.cells #[.string { data := #[110, 111, 116, 104, 105, 110, 103] }] 9))
                    replace HBC := Lib.hid (HBC.out.alloc hs0 (.cells #[.string { data := #[110, 111, 116, 104, 105, 110, 103] }] 9))
                    obtain ⟨wS, hwS⟩ : ∃ z, wL.alloc (.cells #[.string { data := #[110, 111, 116, 104, 105, 110, 103] }] 9) = z := ⟨_, rfl⟩
                    obtain ⟨Rm, hRm⟩ : ∃ z, wL.heap.size = z := ⟨_, rfl⟩
                    have hRmw : w6.heap.size ≤ Rm := by rw [← hRm]; exact hs0
                    rw [hwS] at HBC hsz HS HL ⊢
                    rw [hRm] at hsz HS
                    try rw [hRm]
                    try rw [show w6.heap.size = Rm from hRm]
                    have hRl : Rm < wS.heap.size := by omega
                    replace hCl : Cc < wS.heap.size := HL.out.lt
                    clear hsz hwS hRm hs0
                    refine hK.out _ _ ?_ (fun hHeld => ?_)
                    · exact HPS.out _ (HBC.out.mono (by omega))
                    clear hK K
                    try simp only [Act.put, List.setIfInBounds_toArray, List.set_cons_zero, List.set_cons_succ]
                    refine wpAnyH_take (i := 6) (v := ?v18) rfl (by kernel_rfl) (by kernel_rfl) (by kernel_rfl) (fun _ _ _ h => h) (Or.inl ⟨by rfl, ?hy18⟩) (by assumption) ?rest18
                    case hy18 => (intro wx hSw; (try dsimp only at hSw); go_simp; try with_reducible rfl)
                    show wpAnyH _ _ _ _ _ _ _ (Act.put _ (some 69) _) _
                    try simp only [Act.put, List.setIfInBounds_toArray, List.set_cons_zero, List.set_cons_succ]
                    refine wpAnyH_ready (rs := [7]) (by kernel_rfl) (by simp) ?_
                    refine AllReadyH.cons rfl (fun K hK => ?_) ?_
                    · go_simp
                      have hs0 := HBC.out.size
                      have HE := Lib.hid (Has.new wS #[.int .i64 f, .int .i64 t2, .slice (some ⟨Rm, 0, none⟩) 1 1, .slice (some ⟨Cc, 0, none⟩) 1 1] 49)
                      have hsz : (wS.alloc (.cells #[.int .i64 f, .int .i64 t2, .slice (some ⟨Rm, 0, none⟩) 1 1, .slice (some ⟨Cc, 0, none⟩) 1 1] 49)).heap.size = wS.heap.size + 1 := by simp
                      replace HS := Lib.hid (HS.out.alloc (.cells #[.int .i64 f, .int .i64 t2, .slice (some ⟨Rm, 0, none⟩) 1 1, .slice (some ⟨Cc, 0, none⟩) 1 1] 49))
                      replace HL := Lib.hid (HL.out.alloc (.cells #[.int .i64 f, .int .i64 t2, .slice (some ⟨Rm, 0, none⟩) 1 1, .slice (some ⟨Cc, 0, none⟩) 1 1] 49))
                      replace HBC := Lib.hid (HBC.out.alloc hs0 (.cells #[.int .i64 f, .int .i64 t2, .slice (some ⟨Rm, 0, none⟩) 1 1, .slice (some ⟨Cc, 0, none⟩) 1 1] 49))
                      obtain ⟨wE, hwE⟩ : ∃ z, wS.alloc (.cells #[.int .i64 f, .int .i64 t2, .slice (some ⟨Rm, 0, none⟩) 1 1, .slice (some ⟨Cc, 0, none⟩) 1 1] 49) = z := ⟨_, rfl⟩
                      obtain ⟨C1, hC1⟩ : ∃ z, wS.heap.size = z := ⟨_, rfl⟩
                      have hC1w : w6.heap.size ≤ C1 := by rw [← hC1]; exact hs0
                      have hRC : Rm < C1 ∧ Cc < C1 := by rw [← hC1]; exact ⟨hRl, hCl⟩
                      rw [hwE] at HBC hsz HE HS HL ⊢
                      rw [hC1] at hsz HE
                      try rw [hC1]
                      try rw [show w6.heap.size = C1 from hC1]
                      clear hRl hCl
                      clear hsz hwE hC1 hs0
                      refine hK.out _ _ ?_ (fun hHeld => ?_)
                      · exact HPS.out _ (HBC.out.mono (by omega))
                      clear hK K
                      try simp only [Act.put, List.setIfInBounds_toArray, List.set_cons_zero, List.set_cons_succ]
                      refine wpAnyH_ready (rs := [8]) (by kernel_rfl) (by simp) ?_
                      refine AllReadyH.cons rfl (fun K hK => ?_) ?_
                      · have hs0 := HBC.out.size
                        have HRq := Lib.hid (own_below HR6.out HBC.out)
                        refine step_append_lies _ (by rfl) _ _ _ (by rfl) w4.heap.size 49 j0 _ 4 64 Tryz.underlying23 HI.out HZ0.out HZ1.out HZ2.out rfl (by omega) (.slice (some ⟨g1, 0, none⟩) k cap1) k ((List.range (k * 4)).map (enF es PN)) (by rfl) HRq.out ⟨C1, 0, none⟩ 1 1 [.int .i64 f, .int .i64 t2, .slice (some ⟨Rm, 0, none⟩) 1 1, .slice (some ⟨Cc, 0, none⟩) 1 1] (by rfl) rfl (World.news_of_block (cs := #[.int .i64 f, .int .i64 t2, .slice (some ⟨Rm, 0, none⟩) 1 1, .slice (some ⟨Cc, 0, none⟩) 1 1]) (t := 49) (fr := (0, 0)) HE.out) (List.all_eq_true.1 rfl) (by omega) (by unfold maxLen; omega) (by omega) (by omega) _ rfl ?_
                        intro g2 cap2 wG hown hgrow hat hlt
                        show K (Act.put _ (some 71) _) _
                        have hg16 : g1 < w6.heap.size := (own_lt (k := g1) HR6.out rfl).1
                        have hgq : ∀ q, w6.heap.size ≤ q → some q ≠ (Value.slice (some ⟨g1, 0, none⟩) k cap1).ownBlock := fun q hq e => absurd (show q = g1 by injection e) (by omega)
                        replace HS := Lib.hid ((hgrow.block Rm HS.out.lt (hgq Rm hRmw)).trans HS.out)
                        replace HL := Lib.hid ((hgrow.block Cc HL.out.lt (hgq Cc hCcw)).trans HL.out)
                        have hne : Rm ≠ g2 ∧ Cc ≠ g2 := by
                          rcases hat with h9 | h9
                          · have h8 : g1 = g2 := by injection h9
                            omega
                          · have := HE.out.lt
                            omega
                        have hgo : ∀ q, (Value.slice (some ⟨g1, 0, none⟩) k cap1).ownBlock = some q → w4.heap.size ≤ q := fun q hq => (own_lt HR6.out hq).2
                        have HBE : Hid (Below w4.heap.size w6 wG) := Lib.hid (Below.grown (HBC.out.mono (by omega)) hgrow (by omega) hgo)
                        have HO2 := Lib.hid hown
                        have HUg := Lib.hid (HU6.out.below HBE.out hUl)
                        clear hown hgrow hat hlt hs0 HRq hg16 hgq hgo HE hRC
                        refine hK.out _ _ ?_ (fun hHeld => ?_)
                        · exact HPS.out _ HBE.out
                        clear hK K
                        try simp only [Act.put, List.setIfInBounds_toArray, List.set_cons_zero, List.set_cons_succ]
                        refine wpAnyH_take (i := 9) (v := ?v19) rfl (by kernel_rfl) (by kernel_rfl) (by kernel_rfl) (fun _ _ _ h => h) (Or.inl ⟨by rfl, ?hy19⟩) (by assumption) ?rest19
                        case hy19 => (intro wx hSw; (try dsimp only at hSw); go_simp; try with_reducible rfl)
                        try simp only [Act.put, List.setIfInBounds_toArray, List.set_cons_zero, List.set_cons_succ]
                        refine wpAnyH_ready (rs := [10]) (by kernel_rfl) (by simp) ?_
                        refine AllReadyH.cons rfl (fun K hK => ?_) ?_
                        · obtain ⟨q0, q1, q2⟩ := HUg.out.rules
                          go_simp
                          obtain ⟨wT, hwT⟩ : ∃ z, wG.setCell ⟨U, 1, none⟩ (.slice (some ⟨g2, 0, none⟩) (k + 1) cap2) = z := ⟨_, rfl⟩
                          have HT9 : Hid (Has wT U #[.slice Ax nc ca, .slice (some ⟨g2, 0, none⟩) (k + 1) cap2] 25) := Lib.hid (by rw [← hwT]; exact Has.put (cs := #[.slice Ax nc ca, .slice (some ⟨g1, 0, none⟩) k cap1]) HUg.out 1 _)
                          have HO9 := Lib.hid (show wT.ownsRow w4.heap.size _ _ _ _ _ by rw [← hwT]; exact own_keeps (b := U) HO2.out ((Keeps.refl U wG).put 1 _) hUl)
                          have HS9 : Hid (Has wT Rm #[.string { data := #[110, 111, 116, 104, 105, 110, 103] }] 9) := Lib.hid (by rw [← hwT]; exact Has.far (p := ⟨U, 1, none⟩) HS.out (show Rm ≠ U by omega) _)
                          have HL9 : Hid (Has wT Cc (covR { data := #[99, 45, 97, 97] }) 46) := Lib.hid (by rw [← hwT]; exact Has.far (p := ⟨U, 1, none⟩) HL.out (show Cc ≠ U by omega) _)
                          have HB9 : Hid (Below U w6 wT) := Lib.hid (by rw [← hwT]; exact Below.setCell (HBE.out.mono (by omega)) (Nat.le_refl U) _)
                          have hP9 : wT.cell? ⟨P, 0, none⟩ = some (.int .i64 f) ∧ wT.cell? ⟨P, 1, none⟩ = some (.int .i64 t2) := ⟨by rw [(HP6.out.below HB9.out hPU).cell]; rfl, by rw [(HP6.out.below HB9.out hPU).cell]; rfl⟩
                          try rw [hwT]
                          clear q0 q1 q2 hwT HUg HO2 HS HL HBE
                          refine hK.out _ _ ?_ (fun hHeld => ?_)
                          · exact hP9
                          clear hK K
                          try simp only [Act.put, List.setIfInBounds_toArray, List.set_cons_zero, List.set_cons_succ]
                          refine wpAnyH_done (by kernel_rfl) ?_ _
                          go_wp2_with fail
                          go_meet
                          case rel => exact ⟨rfl, g2, cap2, Rm, Cc, HT9, HO9, HS9, HL9, HB9, hne, hRmw, hCcw⟩
                        exact AllReadyH.nil
                      exact AllReadyH.nil
                    exact AllReadyH.nil
                  exact AllReadyH.nil
                exact AllReadyH.nil
              refine AllReadyH.cons rfl (fun K hK => ?_) ?_
              · go_simp
                have hs0 := HBC.out.size
                have HS := Lib.hid (Has.new wK #[.string { data := #[110, 111, 116, 104, 105, 110, 103] }] 9)
                have hsz : (wK.alloc (.cells #[.string { data := #[110, 111, 116, 104, 105, 110, 103] }] 9)).heap.size = wK.heap.size + 1 := by simp
                replace HBC := Lib.hid (HBC.out.alloc hs0 (.cells #[.string { data := #[110, 111, 116, 104, 105, 110, 103] }] 9))
                obtain ⟨wS, hwS⟩ : ∃ z, wK.alloc (.cells #[.string { data := #[110, 111, 116, 104, 105, 110, 103] }] 9) = z := ⟨_, rfl⟩
                obtain ⟨Rm, hRm⟩ : ∃ z, wK.heap.size = z := ⟨_, rfl⟩
                have hRmw : w6.heap.size ≤ Rm := by rw [← hRm]; exact hs0
                rw [hwS] at HBC hsz HS ⊢
                rw [hRm] at hsz HS
                try rw [hRm]
                try rw [show w6.heap.size = Rm from hRm]
                have hRl : Rm < wS.heap.size := by omega
                clear hsz hwS hRm hs0
                refine hK.out _ _ ?_ (fun hHeld => ?_)
                · exact HPS.out _ (HBC.out.mono (by omega))
                clear hK K
                try simp only [Act.put, List.setIfInBounds_toArray, List.set_cons_zero, List.set_cons_succ]
                refine wpAnyH_ready (rs := [1, 5]) (by kernel_rfl) (by simp) ?_
                refine AllReadyH.cons rfl (fun K hK => ?_) ?_
                · have HUq := Lib.hid (HU6.out.below HBC.out HU6.out.lt)
                  obtain ⟨q0, q1, q2⟩ := HUq.out.rules
                  go_simp
                  clear HUq q0 q1 q2
                  refine hK.out _ _ ?_ (fun hHeld => ?_)
                  · exact HPS.out _ (HBC.out.mono (by omega))
                  clear hK K
                  try simp only [Act.put, List.setIfInBounds_toArray, List.set_cons_zero, List.set_cons_succ]
                  refine wpAnyH_ready (rs := [5]) (by kernel_rfl) (by simp) ?_
                  refine AllReadyH.cons rfl (fun K hK => ?_) ?_
                  · go_simp
                    have hs0 := HBC.out.size
                    have HL := Lib.hid (Has.new wS (covR { data := #[99, 45, 97, 97] }) 46)
                    have hsz : (wS.alloc (.cells (covR { data := #[99, 45, 97, 97] }) 46)).heap.size = wS.heap.size + 1 := by simp
                    replace HS := Lib.hid (HS.out.alloc (.cells (covR { data := #[99, 45, 97, 97] }) 46))
                    replace HBC := Lib.hid (HBC.out.alloc hs0 (.cells (covR { data := #[99, 45, 97, 97] }) 46))
                    obtain ⟨wL, hwL⟩ : ∃ z, wS.alloc (.cells (covR { data := #[99, 45, 97, 97] }) 46) = z := ⟨_, rfl⟩
                    obtain ⟨Cc, hCc⟩ : ∃ z, wS.heap.size = z := ⟨_, rfl⟩
                    have hCcw : w6.heap.size ≤ Cc := by rw [← hCc]; exact hs0
                    rw [hwL] at HBC hsz HL HS ⊢
                    rw [hCc] at hsz HL
                    try rw [hCc]
                    try rw [show w6.heap.size = Cc from hCc]
                    have hCl : Cc < wL.heap.size := by omega
                    replace hRl : Rm < wL.heap.size := HS.out.lt
                    clear hsz hwL hCc hs0
                    refine hK.out _ _ ?_ (fun hHeld => ?_)
                    · exact HPS.out _ (HBC.out.mono (by omega))
                    clear hK K
                    try simp only [Act.put, List.setIfInBounds_toArray, List.set_cons_zero, List.set_cons_succ]
                    refine wpAnyH_take (i := 6) (v := ?v20) rfl (by kernel_rfl) (by kernel_rfl) (by kernel_rfl) (fun _ _ _ h => h) (Or.inl ⟨by rfl, ?hy20⟩) (by assumption) ?rest20
                    case hy20 => (intro wx hSw; (try dsimp only at hSw); go_simp; try with_reducible rfl)
                    show wpAnyH _ _ _ _ _ _ _ (Act.put _ (some 69) _) _
                    try simp only [Act.put, List.setIfInBounds_toArray, List.set_cons_zero, List.set_cons_succ]
                    refine wpAnyH_ready (rs := [7]) (by kernel_rfl) (by simp) ?_
                    refine AllReadyH.cons rfl (fun K hK => ?_) ?_
                    · go_simp
                      have hs0 := HBC.out.size
                      have HE := Lib.hid (Has.new wL #[.int .i64 f, .int .i64 t2, .slice (some ⟨Rm, 0, none⟩) 1 1, .slice (some ⟨Cc, 0, none⟩) 1 1] 49)
                      have hsz : (wL.alloc (.cells #[.int .i64 f, .int .i64 t2, .slice (some ⟨Rm, 0, none⟩) 1 1, .slice (some ⟨Cc, 0, none⟩) 1 1] 49)).heap.size = wL.heap.size + 1 := by simp
                      replace HS := Lib.hid (HS.out.alloc (.cells #[.int .i64 f, .int .i64 t2, .slice (some ⟨Rm, 0, none⟩) 1 1, .slice (some ⟨Cc, 0, none⟩) 1 1] 49))
                      replace HL := Lib.hid (HL.out.alloc (.cells #[.int .i64 f, .int .i64 t2, .slice (some ⟨Rm, 0, none⟩) 1 1, .slice (some ⟨Cc, 0, none⟩) 1 1] 49))
                      replace HBC := Lib.hid (HBC.out.alloc hs0 (.cells #[.int .i64 f, .int .i64 t2, .slice (some ⟨Rm, 0, none⟩) 1 1, .slice (some ⟨Cc, 0, none⟩) 1 1] 49))
                      obtain ⟨wE, hwE⟩ : ∃ z, wL.alloc (.cells #[.int .i64 f, .int .i64 t2, .slice (some ⟨Rm, 0, none⟩) 1 1, .slice (some ⟨Cc, 0, none⟩) 1 1] 49) = z := ⟨_, rfl⟩
                      obtain ⟨C1, hC1⟩ : ∃ z, wL.heap.size = z := ⟨_, rfl⟩
                      have hC1w : w6.heap.size ≤ C1 := by rw [← hC1]; exact hs0
                      have hRC : Rm < C1 ∧ Cc < C1 := by rw [← hC1]; exact ⟨hRl, hCl⟩
                      rw [hwE] at HBC hsz HE HS HL ⊢
                      rw [hC1] at hsz HE
                      try rw [hC1]
                      try rw [show w6.heap.size = C1 from hC1]
                      clear hRl hCl
                      clear hsz hwE hC1 hs0
                      refine hK.out _ _ ?_ (fun hHeld => ?_)
                      · exact HPS.out _ (HBC.out.mono (by omega))
                      clear hK K
                      try simp only [Act.put, List.setIfInBounds_toArray, List.set_cons_zero, List.set_cons_succ]
                      refine wpAnyH_ready (rs := [8]) (by kernel_rfl) (by simp) ?_
                      refine AllReadyH.cons rfl (fun K hK => ?_) ?_
                      · have hs0 := HBC.out.size
                        have HRq := Lib.hid (own_below HR6.out HBC.out)
                        refine step_append_lies _ (by rfl) _ _ _ (by rfl) w4.heap.size 49 j0 _ 4 64 Tryz.underlying23 HI.out HZ0.out HZ1.out HZ2.out rfl (by omega) (.slice (some ⟨g1, 0, none⟩) k cap1) k ((List.range (k * 4)).map (enF es PN)) (by rfl) HRq.out ⟨C1, 0, none⟩ 1 1 [.int .i64 f, .int .i64 t2, .slice (some ⟨Rm, 0, none⟩) 1 1, .slice (some ⟨Cc, 0, none⟩) 1 1] (by rfl) rfl (World.news_of_block (cs := #[.int .i64 f, .int .i64 t2, .slice (some ⟨Rm, 0, none⟩) 1 1, .slice (some ⟨Cc, 0, none⟩) 1 1]) (t := 49) (fr := (0, 0)) HE.out) (List.all_eq_true.1 rfl) (by omega) (by unfold maxLen; omega) (by omega) (by omega) _ rfl ?_
                        intro g2 cap2 wG hown hgrow hat hlt
                        show K (Act.put _ (some 71) _) _
                        have hg16 : g1 < w6.heap.size := (own_lt (k := g1) HR6.out rfl).1
                        have hgq : ∀ q, w6.heap.size ≤ q → some q ≠ (Value.slice (some ⟨g1, 0, none⟩) k cap1).ownBlock := fun q hq e => absurd (show q = g1 by injection e) (by omega)
                        replace HS := Lib.hid ((hgrow.block Rm HS.out.lt (hgq Rm hRmw)).trans HS.out)
                        replace HL := Lib.hid ((hgrow.block Cc HL.out.lt (hgq Cc hCcw)).trans HL.out)
                        have hne : Rm ≠ g2 ∧ Cc ≠ g2 := by
                          rcases hat with h9 | h9
                          · have h8 : g1 = g2 := by injection h9
                            omega
                          · have := HE.out.lt
                            omega
                        have hgo : ∀ q, (Value.slice (some ⟨g1, 0, none⟩) k cap1).ownBlock = some q → w4.heap.size ≤ q := fun q hq => (own_lt HR6.out hq).2
                        have HBE : Hid (Below w4.heap.size w6 wG) := Lib.hid (Below.grown (HBC.out.mono (by omega)) hgrow (by omega) hgo)
                        have HO2 := Lib.hid hown
                        have HUg := Lib.hid (HU6.out.below HBE.out hUl)
                        clear hown hgrow hat hlt hs0 HRq hg16 hgq hgo HE hRC
                        refine hK.out _ _ ?_ (fun hHeld => ?_)
                        · exact HPS.out _ HBE.out
                        clear hK K
                        try simp only [Act.put, List.setIfInBounds_toArray, List.set_cons_zero, List.set_cons_succ]
                        refine wpAnyH_take (i := 9) (v := ?v21) rfl (by kernel_rfl) (by kernel_rfl) (by kernel_rfl) (fun _ _ _ h => h) (Or.inl ⟨by rfl, ?hy21⟩) (by assumption) ?rest21
                        case hy21 => (intro wx hSw; (try dsimp only at hSw); go_simp; try with_reducible rfl)
                        try simp only [Act.put, List.setIfInBounds_toArray, List.set_cons_zero, List.set_cons_succ]
                        refine wpAnyH_ready (rs := [10]) (by kernel_rfl) (by simp) ?_
                        refine AllReadyH.cons rfl (fun K hK => ?_) ?_
                        · obtain ⟨q0, q1, q2⟩ := HUg.out.rules
                          go_simp
                          obtain ⟨wT, hwT⟩ : ∃ z, wG.setCell ⟨U, 1, none⟩ (.slice (some ⟨g2, 0, none⟩) (k + 1) cap2) = z := ⟨_, rfl⟩
                          have HT9 : Hid (Has wT U #[.slice Ax nc ca, .slice (some ⟨g2, 0, none⟩) (k + 1) cap2] 25) := Lib.hid (by rw [← hwT]; exact Has.put (cs := #[.slice Ax nc ca, .slice (some ⟨g1, 0, none⟩) k cap1]) HUg.out 1 _)
                          have HO9 := Lib.hid (show wT.ownsRow w4.heap.size _ _ _ _ _ by rw [← hwT]; exact own_keeps (b := U) HO2.out ((Keeps.refl U wG).put 1 _) hUl)
                          have HS9 : Hid (Has wT Rm #[.string { data := #[110, 111, 116, 104, 105, 110, 103] }] 9) := Lib.hid (by rw [← hwT]; exact Has.far (p := ⟨U, 1, none⟩) HS.out (show Rm ≠ U by omega) _)
                          have HL9 : Hid (Has wT Cc (covR { data := #[99, 45, 97, 97] }) 46) := Lib.hid (by rw [← hwT]; exact Has.far (p := ⟨U, 1, none⟩) HL.out (show Cc ≠ U by omega) _)
                          have HB9 : Hid (Below U w6 wT) := Lib.hid (by rw [← hwT]; exact Below.setCell (HBE.out.mono (by omega)) (Nat.le_refl U) _)
                          have hP9 : wT.cell? ⟨P, 0, none⟩ = some (.int .i64 f) ∧ wT.cell? ⟨P, 1, none⟩ = some (.int .i64 t2) := ⟨by rw [(HP6.out.below HB9.out hPU).cell]; rfl, by rw [(HP6.out.below HB9.out hPU).cell]; rfl⟩
                          try rw [hwT]
                          clear q0 q1 q2 hwT HUg HO2 HS HL HBE
                          refine hK.out _ _ ?_ (fun hHeld => ?_)
                          · exact hP9
                          clear hK K
                          try simp only [Act.put, List.setIfInBounds_toArray, List.set_cons_zero, List.set_cons_succ]
                          refine wpAnyH_done (by kernel_rfl) ?_ _
                          go_wp2_with fail
                          go_meet
                          case rel => exact ⟨rfl, g2, cap2, Rm, Cc, HT9, HO9, HS9, HL9, HB9, hne, hRmw, hCcw⟩
                        exact AllReadyH.nil
                      exact AllReadyH.nil
                    exact AllReadyH.nil
                  exact AllReadyH.nil
                refine AllReadyH.cons rfl (fun K hK => ?_) ?_
                · go_simp
                  have hs0 := HBC.out.size
                  have HL := Lib.hid (Has.new wS (covR { data := #[99, 45, 97, 97] }) 46)
                  have hsz : (wS.alloc (.cells (covR { data := #[99, 45, 97, 97] }) 46)).heap.size = wS.heap.size + 1 := by simp
                  replace HS := Lib.hid (HS.out.alloc (.cells (covR { data := #[99, 45, 97, 97] }) 46))
                  replace HBC := Lib.hid (HBC.out.alloc hs0 (.cells (covR { data := #[99, 45, 97, 97] }) 46))
                  obtain ⟨wL, hwL⟩ : ∃ z, wS.alloc (.cells (covR { data := #[99, 45, 97, 97] }) 46) = z := ⟨_, rfl⟩
                  obtain ⟨Cc, hCc⟩ : ∃ z, wS.heap.size = z := ⟨_, rfl⟩
                  have hCcw : w6.heap.size ≤ Cc := by rw [← hCc]; exact hs0
                  rw [hwL] at HBC hsz HL HS ⊢
                  rw [hCc] at hsz HL
                  try rw [hCc]
                  try rw [show w6.heap.size = Cc from hCc]
                  have hCl : Cc < wL.heap.size := by omega
                  replace hRl : Rm < wL.heap.size := HS.out.lt
                  clear hsz hwL hCc hs0
                  refine hK.out _ _ ?_ (fun hHeld => ?_)
                  · exact HPS.out _ (HBC.out.mono (by omega))
                  clear hK K
                  try simp only [Act.put, List.setIfInBounds_toArray, List.set_cons_zero, List.set_cons_succ]
                  refine wpAnyH_take (i := 6) (v := ?v22) rfl (by kernel_rfl) (by kernel_rfl) (by kernel_rfl) (fun _ _ _ h => h) (Or.inl ⟨by rfl, ?hy22⟩) (by assumption) ?rest22
                  case hy22 => (intro wx hSw; (try dsimp only at hSw); go_simp; try with_reducible rfl)
                  show wpAnyH _ _ _ _ _ _ _ (Act.put _ (some 69) _) _
                  try simp only [Act.put, List.setIfInBounds_toArray, List.set_cons_zero, List.set_cons_succ]
                  refine wpAnyH_ready (rs := [1, 7]) (by kernel_rfl) (by simp) ?_
                  refine AllReadyH.cons rfl (fun K hK => ?_) ?_
                  · have HUq := Lib.hid (HU6.out.below HBC.out HU6.out.lt)
                    obtain ⟨q0, q1, q2⟩ := HUq.out.rules
                    go_simp
                    clear HUq q0 q1 q2
                    refine hK.out _ _ ?_ (fun hHeld => ?_)
                    · exact HPS.out _ (HBC.out.mono (by omega))
                    clear hK K
                    try simp only [Act.put, List.setIfInBounds_toArray, List.set_cons_zero, List.set_cons_succ]
                    refine wpAnyH_ready (rs := [7]) (by kernel_rfl) (by simp) ?_
                    refine AllReadyH.cons rfl (fun K hK => ?_) ?_
                    · go_simp
                      have hs0 := HBC.out.size
                      have HE := Lib.hid (Has.new wL #[.int .i64 f, .int .i64 t2, .slice (some ⟨Rm, 0, none⟩) 1 1, .slice (some ⟨Cc, 0, none⟩) 1 1] 49)
                      have hsz : (wL.alloc (.cells #[.int .i64 f, .int .i64 t2, .slice (some ⟨Rm, 0, none⟩) 1 1, .slice (some ⟨Cc, 0, none⟩) 1 1] 49)).heap.size = wL.heap.size + 1 := by simp
                      replace HS := Lib.hid (HS.out.alloc (.cells #[.int .i64 f, .int .i64 t2, .slice (some ⟨Rm, 0, none⟩) 1 1, .slice (some ⟨Cc, 0, none⟩) 1 1] 49))
                      replace HL := Lib.hid (HL.out.alloc (.cells #[.int .i64 f, .int .i64 t2, .slice (some ⟨Rm, 0, none⟩) 1 1, .slice (some ⟨Cc, 0, none⟩) 1 1] 49))
                      replace HBC := Lib.hid (HBC.out.alloc hs0 (.cells #[.int .i64 f, .int .i64 t2, .slice (some ⟨Rm, 0, none⟩) 1 1, .slice (some ⟨Cc, 0, none⟩) 1 1] 49))
                      obtain ⟨wE, hwE⟩ : ∃ z, wL.alloc (.cells #[.int .i64 f, .int .i64 t2, .slice (some ⟨Rm, 0, none⟩) 1 1, .slice (some ⟨Cc, 0, none⟩) 1 1] 49) = z := ⟨_, rfl⟩
                      obtain ⟨C1, hC1⟩ : ∃ z, wL.heap.size = z := ⟨_, rfl⟩
                      have hC1w : w6.heap.size ≤ C1 := by rw [← hC1]; exact hs0
                      have hRC : Rm < C1 ∧ Cc < C1 := by rw [← hC1]; exact ⟨hRl, hCl⟩
                      rw [hwE] at HBC hsz HE HS HL ⊢
                      rw [hC1] at hsz HE
                      try rw [hC1]
                      try rw [show w6.heap.size = C1 from hC1]
                      clear hRl hCl
                      clear hsz hwE hC1 hs0
                      refine hK.out _ _ ?_ (fun hHeld => ?_)
                      · exact HPS.out _ (HBC.out.mono (by omega))
                      clear hK K
                      try simp only [Act.put, List.setIfInBounds_toArray, List.set_cons_zero, List.set_cons_succ]
                      refine wpAnyH_ready (rs := [8]) (by kernel_rfl) (by simp) ?_
                      refine AllReadyH.cons rfl (fun K hK => ?_) ?_
                      · have hs0 := HBC.out.size
                        have HRq := Lib.hid (own_below HR6.out HBC.out)
                        refine step_append_lies _ (by rfl) _ _ _ (by rfl) w4.heap.size 49 j0 _ 4 64 Tryz.underlying23 HI.out HZ0.out HZ1.out HZ2.out rfl (by omega) (.slice (some ⟨g1, 0, none⟩) k cap1) k ((List.range (k * 4)).map (enF es PN)) (by rfl) HRq.out ⟨C1, 0, none⟩ 1 1 [.int .i64 f, .int .i64 t2, .slice (some ⟨Rm, 0, none⟩) 1 1, .slice (some ⟨Cc, 0, none⟩) 1 1] (by rfl) rfl (World.news_of_block (cs := #[.int .i64 f, .int .i64 t2, .slice (some ⟨Rm, 0, none⟩) 1 1, .slice (some ⟨Cc, 0, none⟩) 1 1]) (t := 49) (fr := (0, 0)) HE.out) (List.all_eq_true.1 rfl) (by omega) (by unfold maxLen; omega) (by omega) (by omega) _ rfl ?_
                        intro g2 cap2 wG hown hgrow hat hlt
                        show K (Act.put _ (some 71) _) _
                        have hg16 : g1 < w6.heap.size := (own_lt (k := g1) HR6.out rfl).1
                        have hgq : ∀ q, w6.heap.size ≤ q → some q ≠ (Value.slice (some ⟨g1, 0, none⟩) k cap1).ownBlock := fun q hq e => absurd (show q = g1 by injection e) (by omega)
                        replace HS := Lib.hid ((hgrow.block Rm HS.out.lt (hgq Rm hRmw)).trans HS.out)
                        replace HL := Lib.hid ((hgrow.block Cc HL.out.lt (hgq Cc hCcw)).trans HL.out)
                        have hne : Rm ≠ g2 ∧ Cc ≠ g2 := by
                          rcases hat with h9 | h9
                          · have h8 : g1 = g2 := by injection h9
                            omega
                          · have := HE.out.lt
                            omega
                        have hgo : ∀ q, (Value.slice (some ⟨g1, 0, none⟩) k cap1).ownBlock = some q → w4.heap.size ≤ q := fun q hq => (own_lt HR6.out hq).2
                        have HBE : Hid (Below w4.heap.size w6 wG) := Lib.hid (Below.grown (HBC.out.mono (by omega)) hgrow (by omega) hgo)
                        have HO2 := Lib.hid hown
                        have HUg := Lib.hid (HU6.out.below HBE.out hUl)
                        clear hown hgrow hat hlt hs0 HRq hg16 hgq hgo HE hRC
                        refine hK.out _ _ ?_ (fun hHeld => ?_)
                        · exact HPS.out _ HBE.out
                        clear hK K
                        try simp only [Act.put, List.setIfInBounds_toArray, List.set_cons_zero, List.set_cons_succ]
                        refine wpAnyH_take (i := 9) (v := ?v23) rfl (by kernel_rfl) (by kernel_rfl) (by kernel_rfl) (fun _ _ _ h => h) (Or.inl ⟨by rfl, ?hy23⟩) (by assumption) ?rest23
                        case hy23 => (intro wx hSw; (try dsimp only at hSw); go_simp; try with_reducible rfl)
                        try simp only [Act.put, List.setIfInBounds_toArray, List.set_cons_zero, List.set_cons_succ]
                        refine wpAnyH_ready (rs := [10]) (by kernel_rfl) (by simp) ?_
                        refine AllReadyH.cons rfl (fun K hK => ?_) ?_
                        · obtain ⟨q0, q1, q2⟩ := HUg.out.rules
                          go_simp
                          obtain ⟨wT, hwT⟩ : ∃ z, wG.setCell ⟨U, 1, none⟩ (.slice (some ⟨g2, 0, none⟩) (k + 1) cap2) = z := ⟨_, rfl⟩
                          have HT9 : Hid (Has wT U #[.slice Ax nc ca, .slice (some ⟨g2, 0, none⟩) (k + 1) cap2] 25) := Lib.hid (by rw [← hwT]; exact Has.put (cs := #[.slice Ax nc ca, .slice (some ⟨g1, 0, none⟩) k cap1]) HUg.out 1 _)
                          have HO9 := Lib.hid (show wT.ownsRow w4.heap.size _ _ _ _ _ by rw [← hwT]; exact own_keeps (b := U) HO2.out ((Keeps.refl U wG).put 1 _) hUl)
                          have HS9 : Hid (Has wT Rm #[.string { data := #[110, 111, 116, 104, 105, 110, 103] }] 9) := Lib.hid (by rw [← hwT]; exact Has.far (p := ⟨U, 1, none⟩) HS.out (show Rm ≠ U by omega) _)
                          have HL9 : Hid (Has wT Cc (covR { data := #[99, 45, 97, 97] }) 46) := Lib.hid (by rw [← hwT]; exact Has.far (p := ⟨U, 1, none⟩) HL.out (show Cc ≠ U by omega) _)
                          have HB9 : Hid (Below U w6 wT) := Lib.hid (by rw [← hwT]; exact Below.setCell (HBE.out.mono (by omega)) (Nat.le_refl U) _)
                          have hP9 : wT.cell? ⟨P, 0, none⟩ = some (.int .i64 f) ∧ wT.cell? ⟨P, 1, none⟩ = some (.int .i64 t2) := ⟨by rw [(HP6.out.below HB9.out hPU).cell]; rfl, by rw [(HP6.out.below HB9.out hPU).cell]; rfl⟩
                          try rw [hwT]
                          clear q0 q1 q2 hwT HUg HO2 HS HL HBE
                          refine hK.out _ _ ?_ (fun hHeld => ?_)
                          · exact hP9
                          clear hK K
                          try simp only [Act.put, List.setIfInBounds_toArray, List.set_cons_zero, List.set_cons_succ]
                          refine wpAnyH_done (by kernel_rfl) ?_ _
                          go_wp2_with fail
                          go_meet
                          case rel => exact ⟨rfl, g2, cap2, Rm, Cc, HT9, HO9, HS9, HL9, HB9, hne, hRmw, hCcw⟩
                        exact AllReadyH.nil
                      exact AllReadyH.nil
                    exact AllReadyH.nil
                  refine AllReadyH.cons rfl (fun K hK => ?_) ?_
                  · go_simp
                    have hs0 := HBC.out.size
                    have HE := Lib.hid (Has.new wL #[.int .i64 f, .int .i64 t2, .slice (some ⟨Rm, 0, none⟩) 1 1, .slice (some ⟨Cc, 0, none⟩) 1 1] 49)
                    have hsz : (wL.alloc (.cells #[.int .i64 f, .int .i64 t2, .slice (some ⟨Rm, 0, none⟩) 1 1, .slice (some ⟨Cc, 0, none⟩) 1 1] 49)).heap.size = wL.heap.size + 1 := by simp
                    replace HS := Lib.hid (HS.out.alloc (.cells #[.int .i64 f, .int .i64 t2, .slice (some ⟨Rm, 0, none⟩) 1 1, .slice (some ⟨Cc, 0, none⟩) 1 1] 49))
                    replace HL := Lib.hid (HL.out.alloc (.cells #[.int .i64 f, .int .i64 t2, .slice (some ⟨Rm, 0, none⟩) 1 1, .slice (some ⟨Cc, 0, none⟩) 1 1] 49))
                    replace HBC := Lib.hid (HBC.out.alloc hs0 (.cells #[.int .i64 f, .int .i64 t2, .slice (some ⟨Rm, 0, none⟩) 1 1, .slice (some ⟨Cc, 0, none⟩) 1 1] 49))
                    obtain ⟨wE, hwE⟩ : ∃ z, wL.alloc (.cells #[.int .i64 f, .int .i64 t2, .slice (some ⟨Rm, 0, none⟩) 1 1, .slice (some ⟨Cc, 0, none⟩) 1 1] 49) = z := ⟨_, rfl⟩
                    obtain ⟨C1, hC1⟩ : ∃ z, wL.heap.size = z := ⟨_, rfl⟩
                    have hC1w : w6.heap.size ≤ C1 := by rw [← hC1]; exact hs0
                    have hRC : Rm < C1 ∧ Cc < C1 := by rw [← hC1]; exact ⟨hRl, hCl⟩
                    rw [hwE] at HBC hsz HE HS HL ⊢
                    rw [hC1] at hsz HE
                    try rw [hC1]
                    try rw [show w6.heap.size = C1 from hC1]
                    clear hRl hCl
                    clear hsz hwE hC1 hs0
                    refine hK.out _ _ ?_ (fun hHeld => ?_)
                    · exact HPS.out _ (HBC.out.mono (by omega))
                    clear hK K
                    try simp only [Act.put, List.setIfInBounds_toArray, List.set_cons_zero, List.set_cons_succ]
                    refine wpAnyH_ready (rs := [1]) (by kernel_rfl) (by simp) ?_
                    refine AllReadyH.cons rfl (fun K hK => ?_) ?_
                    · have HUq := Lib.hid (HU6.out.below HBC.out HU6.out.lt)
                      obtain ⟨q0, q1, q2⟩ := HUq.out.rules
                      go_simp
                      clear HUq q0 q1 q2
                      refine hK.out _ _ ?_ (fun hHeld => ?_)
                      · exact HPS.out _ (HBC.out.mono (by omega))
                      clear hK K
                      try simp only [Act.put, List.setIfInBounds_toArray, List.set_cons_zero, List.set_cons_succ]
                      refine wpAnyH_ready (rs := [8]) (by kernel_rfl) (by simp) ?_
                      refine AllReadyH.cons rfl (fun K hK => ?_) ?_
                      · have hs0 := HBC.out.size
                        have HRq := Lib.hid (own_below HR6.out HBC.out)
                        refine step_append_lies _ (by rfl) _ _ _ (by rfl) w4.heap.size 49 j0 _ 4 64 Tryz.underlying23 HI.out HZ0.out HZ1.out HZ2.out rfl (by omega) (.slice (some ⟨g1, 0, none⟩) k cap1) k ((List.range (k * 4)).map (enF es PN)) (by rfl) HRq.out ⟨C1, 0, none⟩ 1 1 [.int .i64 f, .int .i64 t2, .slice (some ⟨Rm, 0, none⟩) 1 1, .slice (some ⟨Cc, 0, none⟩) 1 1] (by rfl) rfl (World.news_of_block (cs := #[.int .i64 f, .int .i64 t2, .slice (some ⟨Rm, 0, none⟩) 1 1, .slice (some ⟨Cc, 0, none⟩) 1 1]) (t := 49) (fr := (0, 0)) HE.out) (List.all_eq_true.1 rfl) (by omega) (by unfold maxLen; omega) (by omega) (by omega) _ rfl ?_
                        intro g2 cap2 wG hown hgrow hat hlt
                        show K (Act.put _ (some 71) _) _
                        have hg16 : g1 < w6.heap.size := (own_lt (k := g1) HR6.out rfl).1
                        have hgq : ∀ q, w6.heap.size ≤ q → some q ≠ (Value.slice (some ⟨g1, 0, none⟩) k cap1).ownBlock := fun q hq e => absurd (show q = g1 by injection e) (by omega)
                        replace HS := Lib.hid ((hgrow.block Rm HS.out.lt (hgq Rm hRmw)).trans HS.out)
                        replace HL := Lib.hid ((hgrow.block Cc HL.out.lt (hgq Cc hCcw)).trans HL.out)
                        have hne : Rm ≠ g2 ∧ Cc ≠ g2 := by
                          rcases hat with h9 | h9
                          · have h8 : g1 = g2 := by injection h9
                            omega
                          · have := HE.out.lt
                            omega
                        have hgo : ∀ q, (Value.slice (some ⟨g1, 0, none⟩) k cap1).ownBlock = some q → w4.heap.size ≤ q := fun q hq => (own_lt HR6.out hq).2
                        have HBE : Hid (Below w4.heap.size w6 wG) := Lib.hid (Below.grown (HBC.out.mono (by omega)) hgrow (by omega) hgo)
                        have HO2 := Lib.hid hown
                        have HUg := Lib.hid (HU6.out.below HBE.out hUl)
                        clear hown hgrow hat hlt hs0 HRq hg16 hgq hgo HE hRC
                        refine hK.out _ _ ?_ (fun hHeld => ?_)
                        · exact HPS.out _ HBE.out
                        clear hK K
                        try simp only [Act.put, List.setIfInBounds_toArray, List.set_cons_zero, List.set_cons_succ]
                        refine wpAnyH_take (i := 9) (v := ?v24) rfl (by kernel_rfl) (by kernel_rfl) (by kernel_rfl) (fun _ _ _ h => h) (Or.inl ⟨by rfl, ?hy24⟩) (by assumption) ?rest24
                        case hy24 => (intro wx hSw; (try dsimp only at hSw); go_simp; try with_reducible rfl)
                        try simp only [Act.put, List.setIfInBounds_toArray, List.set_cons_zero, List.set_cons_succ]
                        refine wpAnyH_ready (rs := [10]) (by kernel_rfl) (by simp) ?_
                        refine AllReadyH.cons rfl (fun K hK => ?_) ?_
                        · obtain ⟨q0, q1, q2⟩ := HUg.out.rules
                          go_simp
                          obtain ⟨wT, hwT⟩ : ∃ z, wG.setCell ⟨U, 1, none⟩ (.slice (some ⟨g2, 0, none⟩) (k + 1) cap2) = z := ⟨_, rfl⟩
                          have HT9 : Hid (Has wT U #[.slice Ax nc ca, .slice (some ⟨g2, 0, none⟩) (k + 1) cap2] 25) := Lib.hid (by rw [← hwT]; exact Has.put (cs := #[.slice Ax nc ca, .slice (some ⟨g1, 0, none⟩) k cap1]) HUg.out 1 _)
                          have HO9 := Lib.hid (show wT.ownsRow w4.heap.size _ _ _ _ _ by rw [← hwT]; exact own_keeps (b := U) HO2.out ((Keeps.refl U wG).put 1 _) hUl)
                          have HS9 : Hid (Has wT Rm #[.string { data := #[110, 111, 116, 104, 105, 110, 103] }] 9) := Lib.hid (by rw [← hwT]; exact Has.far (p := ⟨U, 1, none⟩) HS.out (show Rm ≠ U by omega) _)
                          have HL9 : Hid (Has wT Cc (covR { data := #[99, 45, 97, 97] }) 46) := Lib.hid (by rw [← hwT]; exact Has.far (p := ⟨U, 1, none⟩) HL.out (show Cc ≠ U by omega) _)
                          have HB9 : Hid (Below U w6 wT) := Lib.hid (by rw [← hwT]; exact Below.setCell (HBE.out.mono (by omega)) (Nat.le_refl U) _)
                          have hP9 : wT.cell? ⟨P, 0, none⟩ = some (.int .i64 f) ∧ wT.cell? ⟨P, 1, none⟩ = some (.int .i64 t2) := ⟨by rw [(HP6.out.below HB9.out hPU).cell]; rfl, by rw [(HP6.out.below HB9.out hPU).cell]; rfl⟩
                          try rw [hwT]
                          clear q0 q1 q2 hwT HUg HO2 HS HL HBE
                          refine hK.out _ _ ?_ (fun hHeld => ?_)
                          · exact hP9
                          clear hK K
                          try simp only [Act.put, List.setIfInBounds_toArray, List.set_cons_zero, List.set_cons_succ]
                          refine wpAnyH_done (by kernel_rfl) ?_ _
                          go_wp2_with fail
                          go_meet
                          case rel => exact ⟨rfl, g2, cap2, Rm, Cc, HT9, HO9, HS9, HL9, HB9, hne, hRmw, hCcw⟩
                        exact AllReadyH.nil
                      exact AllReadyH.nil
                    exact AllReadyH.nil
                  exact AllReadyH.nil
                exact AllReadyH.nil
              refine AllReadyH.cons rfl (fun K hK => ?_) ?_
              · go_simp
                have hs0 := HBC.out.size
                have HL := Lib.hid (Has.new wK (covR { data := #[99, 45, 97, 97] }) 46)
                have hsz : (wK.alloc (.cells (covR { data := #[99, 45, 97, 97] }) 46)).heap.size = wK.heap.size + 1 := by simp
                replace HBC := Lib.hid (HBC.out.alloc hs0 (.cells (covR { data := #[99, 45, 97, 97] }) 46))
                obtain ⟨wL, hwL⟩ : ∃ z, wK.alloc (.cells (covR { data := #[99, 45, 97, 97] }) 46) = z := ⟨_, rfl⟩
                obtain ⟨Cc, hCc⟩ : ∃ z, wK.heap.size = z := ⟨_, rfl⟩
                have hCcw : w6.heap.size ≤ Cc := by rw [← hCc]; exact hs0
                rw [hwL] at HBC hsz HL ⊢
                rw [hCc] at hsz HL
                try rw [hCc]
                try rw [show w6.heap.size = Cc from hCc]
                have hCl : Cc < wL.heap.size := by omega
                clear hsz hwL hCc hs0
                refine hK.out _ _ ?_ (fun hHeld => ?_)
                · exact HPS.out _ (HBC.out.mono (by omega))
                clear hK K
                try simp only [Act.put, List.setIfInBounds_toArray, List.set_cons_zero, List.set_cons_succ]
                refine wpAnyH_ready (rs := [1, 3]) (by kernel_rfl) (by simp) ?_
                refine AllReadyH.cons rfl (fun K hK => ?_) ?_
                · have HUq := Lib.hid (HU6.out.below HBC.out HU6.out.lt)
                  obtain ⟨q0, q1, q2⟩ := HUq.out.rules
                  go_simp
                  clear HUq q0 q1 q2
                  refine hK.out _ _ ?_ (fun hHeld => ?_)
                  · exact HPS.out _ (HBC.out.mono (by omega))
                  clear hK K
                  try simp only [Act.put, List.setIfInBounds_toArray, List.set_cons_zero, List.set_cons_succ]
                  refine wpAnyH_ready (rs := [3]) (by kernel_rfl) (by simp) ?_
                  refine AllReadyH.cons rfl (fun K hK => ?_) ?_
                  · go_simp
                    have hs0 := HBC.out.size
                    have HS := Lib.hid (Has.new wL #[.string { data := #[110, 111, 116, 104, 105, 110, 103] }] 9)
                    have hsz : (wL.alloc (.cells #[.string { data := #[110, 111, 116, 104, 105, 110, 103] }] 9)).heap.size = wL.heap.size + 1 := by simp
                    replace HL := Lib.hid (HL.out.alloc (.cells #[.string { data := #[110, 111, 116, 104, 105, 110, 103] }] 9))
                    replace HBC := Lib.hid (HBC.out.alloc hs0 (.cells #[.string { data := #[110, 111, 116, 104, 105, 110, 103] }] 9))
                    obtain ⟨wS, hwS⟩ : ∃ z, wL.alloc (.cells #[.string { data := #[110, 111, 116, 104, 105, 110, 103] }] 9) = z := ⟨_, rfl⟩
                    obtain ⟨Rm, hRm⟩ : ∃ z, wL.heap.size = z := ⟨_, rfl⟩
                    have hRmw : w6.heap.size ≤ Rm := by rw [← hRm]; exact hs0
                    rw [hwS] at HBC hsz HS HL ⊢
                    rw [hRm] at hsz HS
                    try rw [hRm]
                    try rw [show w6.heap.size = Rm from hRm]
                    have hRl : Rm < wS.heap.size := by omega
                    replace hCl : Cc < wS.heap.size := HL.out.lt
                    clear hsz hwS hRm hs0
                    refine hK.out _ _ ?_ (fun hHeld => ?_)
                    · exact HPS.out _ (HBC.out.mono (by omega))
                    clear hK K
                    try simp only [Act.put, List.setIfInBounds_toArray, List.set_cons_zero, List.set_cons_succ]
                    refine wpAnyH_take (i := 6) (v := ?v25) rfl (by kernel_rfl) (by kernel_rfl) (by kernel_rfl) (fun _ _ _ h => h) (Or.inl ⟨by rfl, ?hy25⟩) (by assumption) ?rest25
                    case hy25 => (intro wx hSw; (try dsimp only at hSw); go_simp; try with_reducible rfl)
                    show wpAnyH _ _ _ _ _ _ _ (Act.put _ (some 69) _) _
                    try simp only [Act.put, List.setIfInBounds_toArray, List.set_cons_zero, List.set_cons_succ]
                    refine wpAnyH_ready (rs := [7]) (by kernel_rfl) (by simp) ?_
                    refine AllReadyH.cons rfl (fun K hK => ?_) ?_
                    · go_simp
                      have hs0 := HBC.out.size
                      have HE := Lib.hid (Has.new wS #[.int .i64 f, .int .i64 t2, .slice (some ⟨Rm, 0, none⟩) 1 1, .slice (some ⟨Cc, 0, none⟩) 1 1] 49)
                      have hsz : (wS.alloc (.cells #[.int .i64 f, .int .i64 t2, .slice (some ⟨Rm, 0, none⟩) 1 1, .slice (some ⟨Cc, 0, none⟩) 1 1] 49)).heap.size = wS.heap.size + 1 := by simp
                      replace HS := Lib.hid (HS.out.alloc (.cells #[.int .i64 f, .int .i64 t2, .slice (some ⟨Rm, 0, none⟩) 1 1, .slice (some ⟨Cc, 0, none⟩) 1 1] 49))
                      replace HL := Lib.hid (HL.out.alloc (.cells #[.int .i64 f, .int .i64 t2, .slice (some ⟨Rm, 0, none⟩) 1 1, .slice (some ⟨Cc, 0, none⟩) 1 1] 49))
                      replace HBC := Lib.hid (HBC.out.alloc hs0 (.cells #[.int .i64 f, .int .i64 t2, .slice (some ⟨Rm, 0, none⟩) 1 1, .slice (some ⟨Cc, 0, none⟩) 1 1] 49))
                      obtain ⟨wE, hwE⟩ : ∃ z, wS.alloc (.cells #[.int .i64 f, .int .i64 t2, .slice (some ⟨Rm, 0, none⟩) 1 1, .slice (some ⟨Cc, 0, none⟩) 1 1] 49) = z := ⟨_, rfl⟩
                      obtain ⟨C1, hC1⟩ : ∃ z, wS.heap.size = z := ⟨_, rfl⟩
                      have hC1w : w6.heap.size ≤ C1 := by rw [← hC1]; exact hs0
                      have hRC : Rm < C1 ∧ Cc < C1 := by rw [← hC1]; exact ⟨hRl, hCl⟩
                      rw [hwE] at HBC hsz HE HS HL ⊢
                      rw [hC1] at hsz HE
                      try rw [hC1]
                      try rw [show w6.heap.size = C1 from hC1]
                      clear hRl hCl
                      clear hsz hwE hC1 hs0
                      refine hK.out _ _ ?_ (fun hHeld => ?_)
                      · exact HPS.out _ (HBC.out.mono (by omega))
                      clear hK K
                      try simp only [Act.put, List.setIfInBounds_toArray, List.set_cons_zero, List.set_cons_succ]
                      refine wpAnyH_ready (rs := [8]) (by kernel_rfl) (by simp) ?_
                      refine AllReadyH.cons rfl (fun K hK => ?_) ?_
                      · have hs0 := HBC.out.size
                        have HRq := Lib.hid (own_below HR6.out HBC.out)
                        refine step_append_lies _ (by rfl) _ _ _ (by rfl) w4.heap.size 49 j0 _ 4 64 Tryz.underlying23 HI.out HZ0.out HZ1.out HZ2.out rfl (by omega) (.slice (some ⟨g1, 0, none⟩) k cap1) k ((List.range (k * 4)).map (enF es PN)) (by rfl) HRq.out ⟨C1, 0, none⟩ 1 1 [.int .i64 f, .int .i64 t2, .slice (some ⟨Rm, 0, none⟩) 1 1, .slice (some ⟨Cc, 0, none⟩) 1 1] (by rfl) rfl (World.news_of_block (cs := #[.int .i64 f, .int .i64 t2, .slice (some ⟨Rm, 0, none⟩) 1 1, .slice (some ⟨Cc, 0, none⟩) 1 1]) (t := 49) (fr := (0, 0)) HE.out) (List.all_eq_true.1 rfl) (by omega) (by unfold maxLen; omega) (by omega) (by omega) _ rfl ?_
                        intro g2 cap2 wG hown hgrow hat hlt
                        show K (Act.put _ (some 71) _) _
                        have hg16 : g1 < w6.heap.size := (own_lt (k := g1) HR6.out rfl).1
                        have hgq : ∀ q, w6.heap.size ≤ q → some q ≠ (Value.slice (some ⟨g1, 0, none⟩) k cap1).ownBlock := fun q hq e => absurd (show q = g1 by injection e) (by omega)
                        replace HS := Lib.hid ((hgrow.block Rm HS.out.lt (hgq Rm hRmw)).trans HS.out)
                        replace HL := Lib.hid ((hgrow.block Cc HL.out.lt (hgq Cc hCcw)).trans HL.out)
                        have hne : Rm ≠ g2 ∧ Cc ≠ g2 := by
                          rcases hat with h9 | h9
                          · have h8 : g1 = g2 := by injection h9
                            omega
                          · have := HE.out.lt
                            omega
                        have hgo : ∀ q, (Value.slice (some ⟨g1, 0, none⟩) k cap1).ownBlock = some q → w4.heap.size ≤ q := fun q hq => (own_lt HR6.out hq).2
                        have HBE : Hid (Below w4.heap.size w6 wG) := Lib.hid (Below.grown (HBC.out.mono (by omega)) hgrow (by omega) hgo)
                        have HO2 := Lib.hid hown
                        have HUg := Lib.hid (HU6.out.below HBE.out hUl)
                        clear hown hgrow hat hlt hs0 HRq hg16 hgq hgo HE hRC
                        refine hK.out _ _ ?_ (fun hHeld => ?_)
                        · exact HPS.out _ HBE.out
                        clear hK K
                        try simp only [Act.put, List.setIfInBounds_toArray, List.set_cons_zero, List.set_cons_succ]
                        refine wpAnyH_take (i := 9) (v := ?v26) rfl (by kernel_rfl) (by kernel_rfl) (by kernel_rfl) (fun _ _ _ h => h) (Or.inl ⟨by rfl, ?hy26⟩) (by assumption) ?rest26
                        case hy26 => (intro wx hSw; (try dsimp only at hSw); go_simp; try with_reducible rfl)
                        try simp only [Act.put, List.setIfInBounds_toArray, List.set_cons_zero, List.set_cons_succ]
                        refine wpAnyH_ready (rs := [10]) (by kernel_rfl) (by simp) ?_
                        refine AllReadyH.cons rfl (fun K hK => ?_) ?_
                        · obtain ⟨q0, q1, q2⟩ := HUg.out.rules
                          go_simp
                          obtain ⟨wT, hwT⟩ : ∃ z, wG.setCell ⟨U, 1, none⟩ (.slice (some ⟨g2, 0, none⟩) (k + 1) cap2) = z := ⟨_, rfl⟩
                          have HT9 : Hid (Has wT U #[.slice Ax nc ca, .slice (some ⟨g2, 0, none⟩) (k + 1) cap2] 25) := Lib.hid (by rw [← hwT]; exact Has.put (cs := #[.slice Ax nc ca, .slice (some ⟨g1, 0, none⟩) k cap1]) HUg.out 1 _)
                          have HO9 := Lib.hid (show wT.ownsRow w4.heap.size _ _ _ _ _ by rw [← hwT]; exact own_keeps (b := U) HO2.out ((Keeps.refl U wG).put 1 _) hUl)
                          have HS9 : Hid (Has wT Rm #[.string { data := #[110, 111, 116, 104, 105, 110, 103] }] 9) := Lib.hid (by rw [← hwT]; exact Has.far (p := ⟨U, 1, none⟩) HS.out (show Rm ≠ U by omega) _)
                          have HL9 : Hid (Has wT Cc (covR { data := #[99, 45, 97, 97] }) 46) := Lib.hid (by rw [← hwT]; exact Has.far (p := ⟨U, 1, none⟩) HL.out (show Cc ≠ U by omega) _)
                          have HB9 : Hid (Below U w6 wT) := Lib.hid (by rw [← hwT]; exact Below.setCell (HBE.out.mono (by omega)) (Nat.le_refl U) _)
                          have hP9 : wT.cell? ⟨P, 0, none⟩ = some (.int .i64 f) ∧ wT.cell? ⟨P, 1, none⟩ = some (.int .i64 t2) := ⟨by rw [(HP6.out.below HB9.out hPU).cell]; rfl, by rw [(HP6.out.below HB9.out hPU).cell]; rfl⟩
                          try rw [hwT]
                          clear q0 q1 q2 hwT HUg HO2 HS HL HBE
                          refine hK.out _ _ ?_ (fun hHeld => ?_)
                          · exact hP9
                          clear hK K
                          try simp only [Act.put, List.setIfInBounds_toArray, List.set_cons_zero, List.set_cons_succ]
                          refine wpAnyH_done (by kernel_rfl) ?_ _
                          go_wp2_with fail
                          go_meet
                          case rel => exact ⟨rfl, g2, cap2, Rm, Cc, HT9, HO9, HS9, HL9, HB9, hne, hRmw, hCcw⟩
                        exact AllReadyH.nil
                      exact AllReadyH.nil
                    exact AllReadyH.nil
                  exact AllReadyH.nil
                refine AllReadyH.cons rfl (fun K hK => ?_) ?_
                · go_simp
                  have hs0 := HBC.out.size
                  have HS := Lib.hid (Has.new wL #[.string { data := #[110, 111, 116, 104, 105, 110, 103] }] 9)
                  have hsz : (wL.alloc (.cells #[.string { data := #[110, 111, 116, 104, 105, 110, 103] }] 9)).heap.size = wL.heap.size + 1 := by simp
                  replace HL := Lib.hid (HL.out.alloc (.cells #[.string { data := #[110, 111, 116, 104, 105, 110, 103] }] 9))
                  replace HBC := Lib.hid (HBC.out.alloc hs0 (.cells #[.string { data := #[110, 111, 116, 104, 105, 110, 103] }] 9))
                  obtain ⟨wS, hwS⟩ : ∃ z, wL.alloc (.cells #[.string { data := #[110, 111, 116, 104, 105, 110, 103] }] 9) = z := ⟨_, rfl⟩
                  obtain ⟨Rm, hRm⟩ : ∃ z, wL.heap.size = z := ⟨_, rfl⟩
                  have hRmw : w6.heap.size ≤ Rm := by rw [← hRm]; exact hs0
                  rw [hwS] at HBC hsz HS HL ⊢
                  rw [hRm] at hsz HS
                  try rw [hRm]
                  try rw [show w6.heap.size = Rm from hRm]
                  have hRl : Rm < wS.heap.size := by omega
                  replace hCl : Cc < wS.heap.size := HL.out.lt
                  clear hsz hwS hRm hs0
                  refine hK.out _ _ ?_ (fun hHeld => ?_)
                  · exact HPS.out _ (HBC.out.mono (by omega))
                  clear hK K
                  try simp only [Act.put, List.setIfInBounds_toArray, List.set_cons_zero, List.set_cons_succ]
                  refine wpAnyH_take (i := 6) (v := ?v27) rfl (by kernel_rfl) (by kernel_rfl) (by kernel_rfl) (fun _ _ _ h => h) (Or.inl ⟨by rfl, ?hy27⟩) (by assumption) ?rest27
                  case hy27 => (intro wx hSw; (try dsimp only at hSw); go_simp; try with_reducible rfl)
                  show wpAnyH _ _ _ _ _ _ _ (Act.put _ (some 69) _) _
                  try simp only [Act.put, List.setIfInBounds_toArray, List.set_cons_zero, List.set_cons_succ]
                  refine wpAnyH_ready (rs := [1, 7]) (by kernel_rfl) (by simp) ?_
                  refine AllReadyH.cons rfl (fun K hK => ?_) ?_
                  · have HUq := Lib.hid (HU6.out.below HBC.out HU6.out.lt)
                    obtain ⟨q0, q1, q2⟩ := HUq.out.rules
                    go_simp
                    clear HUq q0 q1 q2
                    refine hK.out _ _ ?_ (fun hHeld => ?_)
                    · exact HPS.out _ (HBC.out.mono (by omega))
                    clear hK K
                    try simp only [Act.put, List.setIfInBounds_toArray, List.set_cons_zero, List.set_cons_succ]
                    refine wpAnyH_ready (rs := [7]) (by kernel_rfl) (by simp) ?_
                    refine AllReadyH.cons rfl (fun K hK => ?_) ?_
                    · go_simp
                      have hs0 := HBC.out.size
                      have HE := Lib.hid (Has.new wS #[.int .i64 f, .int .i64 t2, .slice (some ⟨Rm, 0, none⟩) 1 1, .slice (some ⟨Cc, 0, none⟩) 1 1] 49)
                      have hsz : (wS.alloc (.cells #[.int .i64 f, .int .i64 t2, .slice (some ⟨Rm, 0, none⟩) 1 1, .slice (some ⟨Cc, 0, none⟩) 1 1] 49)).heap.size = wS.heap.size + 1 := by simp
                      replace HS := Lib.hid (HS.out.alloc (.cells #[.int .i64 f, .int .i64 t2, .slice (some ⟨Rm, 0, none⟩) 1 1, .slice (some ⟨Cc, 0, none⟩) 1 1] 49))
                      replace HL := Lib.hid (HL.out.alloc (.cells #[.int .i64 f, .int .i64 t2, .slice (some ⟨Rm, 0, none⟩) 1 1, .slice (some ⟨Cc, 0, none⟩) 1 1] 49))
                      replace HBC := Lib.hid (HBC.out.alloc hs0 (.cells #[.int .i64 f, .int .i64 t2, .slice (some ⟨Rm, 0, none⟩) 1 1, .slice (some ⟨Cc, 0, none⟩) 1 1] 49))
                      obtain ⟨wE, hwE⟩ : ∃ z, wS.alloc (.cells #[.int .i64 f, .int .i64 t2, .slice (some ⟨Rm, 0, none⟩) 1 1, .slice (some ⟨Cc, 0, none⟩) 1 1] 49) = z := ⟨_, rfl⟩
                      obtain ⟨C1, hC1⟩ : ∃ z, wS.heap.size = z := ⟨_, rfl⟩
                      have hC1w : w6.heap.size ≤ C1 := by rw [← hC1]; exact hs0
                      have hRC : Rm < C1 ∧ Cc < C1 := by rw [← hC1]; exact ⟨hRl, hCl⟩
                      rw [hwE] at HBC hsz HE HS HL ⊢
                      rw [hC1] at hsz HE
                      try rw [hC1]
                      try rw [show w6.heap.size = C1 from hC1]
                      clear hRl hCl
                      clear hsz hwE hC1 hs0
                      refine hK.out _ _ ?_ (fun hHeld => ?_)
                      · exact HPS.out _ (HBC.out.mono (by omega))
                      clear hK K
                      try simp only [Act.put, List.setIfInBounds_toArray, List.set_cons_zero, List.set_cons_succ]
                      refine wpAnyH_ready (rs := [8]) (by kernel_rfl) (by simp) ?_
                      refine AllReadyH.cons rfl (fun K hK => ?_) ?_
                      · have hs0 := HBC.out.size
                        have HRq := Lib.hid (own_below HR6.out HBC.out)
                        refine step_append_lies _ (by rfl) _ _ _ (by rfl) w4.heap.size 49 j0 _ 4 64 Tryz.underlying23 HI.out HZ0.out HZ1.out HZ2.out rfl (by omega) (.slice (some ⟨g1, 0, none⟩) k cap1) k ((List.range (k * 4)).map (enF es PN)) (by rfl) HRq.out ⟨C1, 0, none⟩ 1 1 [.int .i64 f, .int .i64 t2, .slice (some ⟨Rm, 0, none⟩) 1 1, .slice (some ⟨Cc, 0, none⟩) 1 1] (by rfl) rfl (World.news_of_block (cs := #[.int .i64 f, .int .i64 t2, .slice (some ⟨Rm, 0, none⟩) 1 1, .slice (some ⟨Cc, 0, none⟩) 1 1]) (t := 49) (fr := (0, 0)) HE.out) (List.all_eq_true.1 rfl) (by omega) (by unfold maxLen; omega) (by omega) (by omega) _ rfl ?_
                        intro g2 cap2 wG hown hgrow hat hlt
                        show K (Act.put _ (some 71) _) _
                        have hg16 : g1 < w6.heap.size := (own_lt (k := g1) HR6.out rfl).1
                        have hgq : ∀ q, w6.heap.size ≤ q → some q ≠ (Value.slice (some ⟨g1, 0, none⟩) k cap1).ownBlock := fun q hq e => absurd (show q = g1 by injection e) (by omega)
                        replace HS := Lib.hid ((hgrow.block Rm HS.out.lt (hgq Rm hRmw)).trans HS.out)
                        replace HL := Lib.hid ((hgrow.block Cc HL.out.lt (hgq Cc hCcw)).trans HL.out)
                        have hne : Rm ≠ g2 ∧ Cc ≠ g2 := by
                          rcases hat with h9 | h9
                          · have h8 : g1 = g2 := by injection h9
                            omega
                          · have := HE.out.lt
                            omega
                        have hgo : ∀ q, (Value.slice (some ⟨g1, 0, none⟩) k cap1).ownBlock = some q → w4.heap.size ≤ q := fun q hq => (own_lt HR6.out hq).2
                        have HBE : Hid (Below w4.heap.size w6 wG) := Lib.hid (Below.grown (HBC.out.mono (by omega)) hgrow (by omega) hgo)
                        have HO2 := Lib.hid hown
                        have HUg := Lib.hid (HU6.out.below HBE.out hUl)
                        clear hown hgrow hat hlt hs0 HRq hg16 hgq hgo HE hRC
                        refine hK.out _ _ ?_ (fun hHeld => ?_)
                        · exact HPS.out _ HBE.out
                        clear hK K
                        try simp only [Act.put, List.setIfInBounds_toArray, List.set_cons_zero, List.set_cons_succ]
                        refine wpAnyH_take (i := 9) (v := ?v28) rfl (by kernel_rfl) (by kernel_rfl) (by kernel_rfl) (fun _ _ _ h => h) (Or.inl ⟨by rfl, ?hy28⟩) (by assumption) ?rest28
                        case hy28 => (intro wx hSw; (try dsimp only at hSw); go_simp; try with_reducible rfl)
                        try simp only [Act.put, List.setIfInBounds_toArray, List.set_cons_zero, List.set_cons_succ]
                        refine wpAnyH_ready (rs := [10]) (by kernel_rfl) (by simp) ?_
                        refine AllReadyH.cons rfl (fun K hK => ?_) ?_
                        · obtain ⟨q0, q1, q2⟩ := HUg.out.rules
                          go_simp
                          obtain ⟨wT, hwT⟩ : ∃ z, wG.setCell ⟨U, 1, none⟩ (.slice (some ⟨g2, 0, none⟩) (k + 1) cap2) = z := ⟨_, rfl⟩
                          have HT9 : Hid (Has wT U #[.slice Ax nc ca, .slice (some ⟨g2, 0, none⟩) (k + 1) cap2] 25) := Lib.hid (by rw [← hwT]; exact Has.put (cs := #[.slice Ax nc ca, .slice (some ⟨g1, 0, none⟩) k cap1]) HUg.out 1 _)
                          have HO9 := Lib.hid (show wT.ownsRow w4.heap.size _ _ _ _ _ by rw [← hwT]; exact own_keeps (b := U) HO2.out ((Keeps.refl U wG).put 1 _) hUl)
                          have HS9 : Hid (Has wT Rm #[.string { data := #[110, 111, 116, 104, 105, 110, 103] }] 9) := Lib.hid (by rw [← hwT]; exact Has.far (p := ⟨U, 1, none⟩) HS.out (show Rm ≠ U by omega) _)
                          have HL9 : Hid (Has wT Cc (covR { data := #[99, 45, 97, 97] }) 46) := Lib.hid (by rw [← hwT]; exact Has.far (p := ⟨U, 1, none⟩) HL.out (show Cc ≠ U by omega) _)
                          have HB9 : Hid (Below U w6 wT) := Lib.hid (by rw [← hwT]; exact Below.setCell (HBE.out.mono (by omega)) (Nat.le_refl U) _)
                          have hP9 : wT.cell? ⟨P, 0, none⟩ = some (.int .i64 f) ∧ wT.cell? ⟨P, 1, none⟩ = some (.int .i64 t2) := ⟨by rw [(HP6.out.below HB9.out hPU).cell]; rfl, by rw [(HP6.out.below HB9.out hPU).cell]; rfl⟩
                          try rw [hwT]
                          clear q0 q1 q2 hwT HUg HO2 HS HL HBE
                          refine hK.out _ _ ?_ (fun hHeld => ?_)
                          · exact hP9
                          clear hK K
                          try simp only [Act.put, List.setIfInBounds_toArray, List.set_cons_zero, List.set_cons_succ]
                          refine wpAnyH_done (by kernel_rfl) ?_ _
                          go_wp2_with fail
                          go_meet
                          case rel => exact ⟨rfl, g2, cap2, Rm, Cc, HT9, HO9, HS9, HL9, HB9, hne, hRmw, hCcw⟩
                        exact AllReadyH.nil
                      exact AllReadyH.nil
                    exact AllReadyH.nil
                  refine AllReadyH.cons rfl (fun K hK => ?_) ?_
                  · go_simp
                    have hs0 := HBC.out.size
                    have HE := Lib.hid (Has.new wS #[.int .i64 f, .int .i64 t2, .slice (some ⟨Rm, 0, none⟩) 1 1, .slice (some ⟨Cc, 0, none⟩) 1 1] 49)
                    have hsz : (wS.alloc (.cells #[.int .i64 f, .int .i64 t2, .slice (some ⟨Rm, 0, none⟩) 1 1, .slice (some ⟨Cc, 0, none⟩) 1 1] 49)).heap.size = wS.heap.size + 1 := by simp
                    replace HS := Lib.hid (HS.out.alloc (.cells #[.int .i64 f, .int .i64 t2, .slice (some ⟨Rm, 0, none⟩) 1 1, .slice (some ⟨Cc, 0, none⟩) 1 1] 49))
                    replace HL := Lib.hid (HL.out.alloc (.cells #[.int .i64 f, .int .i64 t2, .slice (some ⟨Rm, 0, none⟩) 1 1, .slice (some ⟨Cc, 0, none⟩) 1 1] 49))
                    replace HBC := Lib.hid (HBC.out.alloc hs0 (.cells #[.int .i64 f, .int .i64 t2, .slice (some ⟨Rm, 0, none⟩) 1 1, .slice (some ⟨Cc, 0, none⟩) 1 1] 49))
                    obtain ⟨wE, hwE⟩ : ∃ z, wS.alloc (.cells #[.int .i64 f, .int .i64 t2, .slice (some ⟨Rm, 0, none⟩) 1 1, .slice (some ⟨Cc, 0, none⟩) 1 1] 49) = z := ⟨_, rfl⟩
                    obtain ⟨C1, hC1⟩ : ∃ z, wS.heap.size = z := ⟨_, rfl⟩
                    have hC1w : w6.heap.size ≤ C1 := by rw [← hC1]; exact hs0
                    have hRC : Rm < C1 ∧ Cc < C1 := by rw [← hC1]; exact ⟨hRl, hCl⟩
                    rw [hwE] at HBC hsz HE HS HL ⊢
                    rw [hC1] at hsz HE
                    try rw [hC1]
                    try rw [show w6.heap.size = C1 from hC1]
                    clear hRl hCl
                    clear hsz hwE hC1 hs0
                    refine hK.out _ _ ?_ (fun hHeld => ?_)
                    · exact HPS.out _ (HBC.out.mono (by omega))
                    clear hK K
                    try simp only [Act.put, List.setIfInBounds_toArray, List.set_cons_zero, List.set_cons_succ]
                    refine wpAnyH_ready (rs := [1]) (by kernel_rfl) (by simp) ?_
                    refine AllReadyH.cons rfl (fun K hK => ?_) ?_
                    · have HUq := Lib.hid (HU6.out.below HBC.out HU6.out.lt)
                      obtain ⟨q0, q1, q2⟩ := HUq.out.rules
                      go_simp
                      clear HUq q0 q1 q2
                      refine hK.out _ _ ?_ (fun hHeld => ?_)
                      · exact HPS.out _ (HBC.out.mono (by omega))
                      clear hK K
                      try simp only [Act.put, List.setIfInBounds_toArray, List.set_cons_zero, List.set_cons_succ]
                      refine wpAnyH_ready (rs := [8]) (by kernel_rfl) (by simp) ?_
                      refine AllReadyH.cons rfl (fun K hK => ?_) ?_
                      · have hs0 := HBC.out.size
                        have HRq := Lib.hid (own_below HR6.out HBC.out)
                        refine step_append_lies _ (by rfl) _ _ _ (by rfl) w4.heap.size 49 j0 _ 4 64 Tryz.underlying23 HI.out HZ0.out HZ1.out HZ2.out rfl (by omega) (.slice (some ⟨g1, 0, none⟩) k cap1) k ((List.range (k * 4)).map (enF es PN)) (by rfl) HRq.out ⟨C1, 0, none⟩ 1 1 [.int .i64 f, .int .i64 t2, .slice (some ⟨Rm, 0, none⟩) 1 1, .slice (some ⟨Cc, 0, none⟩) 1 1] (by rfl) rfl (World.news_of_block (cs := #[.int .i64 f, .int .i64 t2, .slice (some ⟨Rm, 0, none⟩) 1 1, .slice (some ⟨Cc, 0, none⟩) 1 1]) (t := 49) (fr := (0, 0)) HE.out) (List.all_eq_true.1 rfl) (by omega) (by unfold maxLen; omega) (by omega) (by omega) _ rfl ?_
                        intro g2 cap2 wG hown hgrow hat hlt
                        show K (Act.put _ (some 71) _) _
                        have hg16 : g1 < w6.heap.size := (own_lt (k := g1) HR6.out rfl).1
                        have hgq : ∀ q, w6.heap.size ≤ q → some q ≠ (Value.slice (some ⟨g1, 0, none⟩) k cap1).ownBlock := fun q hq e => absurd (show q = g1 by injection e) (by omega)
                        replace HS := Lib.hid ((hgrow.block Rm HS.out.lt (hgq Rm hRmw)).trans HS.out)
                        replace HL := Lib.hid ((hgrow.block Cc HL.out.lt (hgq Cc hCcw)).trans HL.out)
                        have hne : Rm ≠ g2 ∧ Cc ≠ g2 := by
                          rcases hat with h9 | h9
                          · have h8 : g1 = g2 := by injection h9
                            omega
                          · have := HE.out.lt
                            omega
                        have hgo : ∀ q, (Value.slice (some ⟨g1, 0, none⟩) k cap1).ownBlock = some q → w4.heap.size ≤ q := fun q hq => (own_lt HR6.out hq).2
                        have HBE : Hid (Below w4.heap.size w6 wG) := Lib.hid (Below.grown (HBC.out.mono (by omega)) hgrow (by omega) hgo)
                        have HO2 := Lib.hid hown
                        have HUg := Lib.hid (HU6.out.below HBE.out hUl)
                        clear hown hgrow hat hlt hs0 HRq hg16 hgq hgo HE hRC
                        refine hK.out _ _ ?_ (fun hHeld => ?_)
                        · exact HPS.out _ HBE.out
                        clear hK K
                        try simp only [Act.put, List.setIfInBounds_toArray, List.set_cons_zero, List.set_cons_succ]
                        refine wpAnyH_take (i := 9) (v := ?v29) rfl (by kernel_rfl) (by kernel_rfl) (by kernel_rfl) (fun _ _ _ h => h) (Or.inl ⟨by rfl, ?hy29⟩) (by assumption) ?rest29
                        case hy29 => (intro wx hSw; (try dsimp only at hSw); go_simp; try with_reducible rfl)
                        try simp only [Act.put, List.setIfInBounds_toArray, List.set_cons_zero, List.set_cons_succ]
                        refine wpAnyH_ready (rs := [10]) (by kernel_rfl) (by simp) ?_
                        refine AllReadyH.cons rfl (fun K hK => ?_) ?_
                        · obtain ⟨q0, q1, q2⟩ := HUg.out.rules
                          go_simp
                          obtain ⟨wT, hwT⟩ : ∃ z, wG.setCell ⟨U, 1, none⟩ (.slice (some ⟨g2, 0, none⟩) (k + 1) cap2) = z := ⟨_, rfl⟩
                          have HT9 : Hid (Has wT U #[.slice Ax nc ca, .slice (some ⟨g2, 0, none⟩) (k + 1) cap2] 25) := Lib.hid (by rw [← hwT]; exact Has.put (cs := #[.slice Ax nc ca, .slice (some ⟨g1, 0, none⟩) k cap1]) HUg.out 1 _)
                          have HO9 := Lib.hid (show wT.ownsRow w4.heap.size _ _ _ _ _ by rw [← hwT]; exact own_keeps (b := U) HO2.out ((Keeps.refl U wG).put 1 _) hUl)
                          have HS9 : Hid (Has wT Rm #[.string { data := #[110, 111, 116, 104, 105, 110, 103] }] 9) := Lib.hid (by rw [← hwT]; exact Has.far (p := ⟨U, 1, none⟩) HS.out (show Rm ≠ U by omega) _)
                          have HL9 : Hid (Has wT Cc (covR { data := #[99, 45, 97, 97] }) 46) := Lib.hid (by rw [← hwT]; exact Has.far (p := ⟨U, 1, none⟩) HL.out (show Cc ≠ U by omega) _)
                          have HB9 : Hid (Below U w6 wT) := Lib.hid (by rw [← hwT]; exact Below.setCell (HBE.out.mono (by omega)) (Nat.le_refl U) _)
                          have hP9 : wT.cell? ⟨P, 0, none⟩ = some (.int .i64 f) ∧ wT.cell? ⟨P, 1, none⟩ = some (.int .i64 t2) := ⟨by rw [(HP6.out.below HB9.out hPU).cell]; rfl, by rw [(HP6.out.below HB9.out hPU).cell]; rfl⟩
                          try rw [hwT]
                          clear q0 q1 q2 hwT HUg HO2 HS HL HBE
                          refine hK.out _ _ ?_ (fun hHeld => ?_)
                          · exact hP9
                          clear hK K
                          try simp only [Act.put, List.setIfInBounds_toArray, List.set_cons_zero, List.set_cons_succ]
                          refine wpAnyH_done (by kernel_rfl) ?_ _
                          go_wp2_with fail
                          go_meet
                          case rel => exact ⟨rfl, g2, cap2, Rm, Cc, HT9, HO9, HS9, HL9, HB9, hne, hRmw, hCcw⟩
                        exact AllReadyH.nil
                      exact AllReadyH.nil
                    exact AllReadyH.nil
                  exact AllReadyH.nil
                exact AllReadyH.nil
              exact AllReadyH.nil
            exact AllReadyH.nil
          case rest =>
            obtain ⟨rfl, g2, cap2, Rm, Cc, HU7, HO7, HS7, HL7, HB7, ⟨hne1, hne2⟩, ⟨hRw, hCw⟩⟩ := hcut
            clear HP6 HPS HBC HR6 HU6
            obtain ⟨w7, hw7⟩ : ∃ z, wc = z := ⟨_, rfl⟩
            rw [hw7] at HU7 HO7 HS7 HL7 HB7 ⊢
            clear hw7
            have HB47 : Hid (Below U w4 w7) := Lib.hid (HB6.out.trans HB7.out)
            have hs7 := HB7.out.size
            have hRl : Rm < w7.heap.size := HS7.out.lt
            have hCl : Cc < w7.heap.size := HL7.out.lt
            obtain ⟨L, hL⟩ : ∃ z, (List.range (k * 4)).map (enF es PN) ++ [.int .i64 f, .int .i64 t2, .slice (some ⟨Rm, 0, none⟩) 1 1, .slice (some ⟨Cc, 0, none⟩) 1 1] = z := ⟨_, rfl⟩
            have HLE := Lib.hid hL
            rw [hL] at HO7
            clear hL
            go_upto_region 10 with (fail)
            go_cut [10] from 73 to 80 (fun hx wx => hx = .int .i64 h ∧ ∃ g3 cap3 : Nat, Hid (Has wx U #[.slice Ax nc ca, .slice (some ⟨g3, 0, none⟩) (ne + 1) cap3] 25) ∧ Hid (wx.ownsRow w4.heap.size 49 4 (.slice (some ⟨g3, 0, none⟩) (ne + 1) cap3) (ne + 1) (L ++ (List.range ((ne - k) * 4)).map (fun j => enF es PN (k * 4 + j)))) ∧ Hid (Has wx Rm #[.string { data := #[110, 111, 116, 104, 105, 110, 103] }] 9) ∧ Hid (Has wx Cc (covR { data := #[99, 45, 97, 97] }) 46) ∧ Hid (Below U w4 wx))
            case first =>
              have hg2w : g2 < w7.heap.size ∧ w4.heap.size ≤ g2 := own_lt (k := g2) HO7.out rfl
              have hk1n : k + 1 + (ne - k) = ne + 1 := by omega
              have HK1 := Lib.hid hk1n
              have hV7 : Has w7 T #[.slice Ax nc ca, .slice Ex ne ce] 25 := HV4.out.below HB47.out hTU
              have HV7 := Lib.hid hV7
              have HC7 : Hid (Cells w7 U Ex (ne * 4) (enF es PN)) := Lib.hid (Cells.below HC4.out HB47.out)
              clear hk1n hV7
              by_cases hn0 : ne = 0
              · obtain ⟨rfl, rfl⟩ := HNIL.out hn0
                subst hn0
                obtain rfl : k = 0 := by omega
                obtain ⟨u0, u1, u2⟩ := HU7.out.rules
                obtain ⟨v0, v1, v2⟩ := HV7.out.rules
                have HBD : Hid (Below w7.heap.size w7 w7.drew) := Lib.hid (Below.drew (Below.refl _ _))
                have HCS : Hid (Cells w7.drew U none ((0 - 0) * 4) (fun j => enF es PN (0 * 4 + j))) := Lib.hid (by intro h9; simp at h9)
                go_region_law (first
                  | (refine step_append_cells (by rfl) _ _ _ (by rfl) w4.heap.size 49 j0 _ 4 64 Tryz.underlying23 HI.out HZ0.out HZ1.out HZ2.out rfl (by omega) (.slice (some ⟨g2, 0, none⟩) (0 + 1) cap2) (0 + 1) L (by rfl) HO7.out.drew U none (0 - 0) (0 - 0) (fun j => enF es PN (0 * 4 + j)) (by rfl) HCS.out (fun _ => ⟨rfl, rfl⟩) (fun j hj => enF_one) (by unfold maxLen; omega) (by omega) (by simp; omega) ?_; intro vv w9 hown hgrow hor; (have hg1 : ∃ g, vv.ownBlock = some g := by rcases hor with h9 | h9 <;> exact ⟨_, h9⟩); (obtain ⟨g3, hg1⟩ := hg1); (obtain ⟨cap3, hvv, hgb1⟩ := own_form hown hg1); subst hvv; (have hgz := fun j => (World.cell?_of_block (w := w7.drew) (a := ⟨U, j, none⟩) (hgrow.block U (by simp; omega) (fun e => absurd (show U = g2 by injection e) (by omega))))); (have hgf := fun j => (World.frozen?_of_block (w := w7.drew) (a := ⟨U, j, none⟩) (hgrow.block U (by simp; omega) (fun e => absurd (show U = g2 by injection e) (by omega)))))))
                all_goals
                  try rw [HK1.out] at hown
                  try rw [HK1.out]
                  have hgo : ∀ q, (Value.slice (some ⟨g2, 0, none⟩) (0 + 1) cap2).ownBlock = some q → w4.heap.size ≤ q := fun q hq => (own_lt HO7.out hq).2
                  have hb9 : Below w4.heap.size w7 w9 := Below.grown (HBD.out.mono (by omega)) hgrow (by simp; omega) hgo
                  have hgq : ∀ q, q ≠ g2 → some q ≠ (Value.slice (some ⟨g2, 0, none⟩) (0 + 1) cap2).ownBlock := fun q hq e => absurd (show q = g2 by injection e) hq
                  obtain ⟨wT, hwT⟩ : ∃ z, w9.setCell ⟨U, 1, none⟩ (.slice (some ⟨g3, 0, none⟩) (0 + 1) cap3) = z := ⟨_, rfl⟩
                  have HT9 : Hid (Has wT U #[.slice Ax nc ca, .slice (some ⟨g3, 0, none⟩) (0 + 1) cap3] 25) := Lib.hid (by rw [← hwT]; exact Has.put (cs := #[.slice Ax nc ca, .slice (some ⟨g2, 0, none⟩) (0 + 1) cap2]) (HU7.out.below hb9 hUl) 1 _)
                  have HO9 := Lib.hid (show wT.ownsRow w4.heap.size _ _ _ _ _ by rw [← hwT]; exact own_keeps (b := U) hown ((Keeps.refl U w9).put 1 _) hUl)
                  have HS9 : Hid (Has wT Rm #[.string { data := #[110, 111, 116, 104, 105, 110, 103] }] 9) := Lib.hid (by rw [← hwT]; exact Has.far (p := ⟨U, 1, none⟩) ((hgrow.block Rm hRl (hgq Rm hne1)).trans HS7.out) (show Rm ≠ U by omega) _)
                  have HL9 : Hid (Has wT Cc (covR { data := #[99, 45, 97, 97] }) 46) := Lib.hid (by rw [← hwT]; exact Has.far (p := ⟨U, 1, none⟩) ((hgrow.block Cc hCl (hgq Cc hne2)).trans HL7.out) (show Cc ≠ U by omega) _)
                  have HB9 : Hid (Below U w4 wT) := Lib.hid (by rw [← hwT]; exact Below.setCell (HB47.out.trans (hb9.mono (by omega))) (Nat.le_refl U) _)
                  try simp only [Nat.zero_add] at hwT HT9 HO9
                  try rw [hwT]
                  clear hown hgrow hor hgz hgf hg1 hgo hgq hb9 hwT
                  go_wp2_with fail
                  go_meet
                  case rel => exact ⟨rfl, g3, cap3, HT9, HO9, HS9, HL9, HB9⟩
              · have hsrc : ∃ bl ol, Ex = some ⟨bl, ol, none⟩ := by
                  obtain ⟨bl, ol, e, _, _⟩ := Cells.plain HC7.out (by omega)
                  exact ⟨bl, ol, e⟩
                obtain ⟨bl, ol, rfl⟩ := hsrc
                obtain ⟨u0, u1, u2⟩ := HU7.out.rules
                obtain ⟨v0, v1, v2⟩ := HV7.out.rules
                have HBD : Hid (Below w7.heap.size w7 w7.drew) := Lib.hid (Below.drew (Below.refl _ _))
                have HCS : Hid (Cells w7.drew U (if ce = k then some ⟨bl, ol, none⟩ else some ⟨bl, ol + k * 4, none⟩) ((ne - k) * 4) (fun j => enF es PN (k * 4 + j))) := Lib.hid (fun h9 => by
                    have hck : ¬ ce = k := by omega
                    rw [if_neg hck]
                    obtain ⟨ad, e9, hb9, hc9⟩ := HC7.out (by omega)
                    injection e9 with e9
                    subst e9
                    exact ⟨_, rfl, hb9, fun j hj => by rw [Addr.add_mid]; have h8 := hc9 (k * 4 + j) (by omega); rw [Addr.add_mid, ← Nat.add_assoc] at h8; exact h8⟩)
                go_region_law (first
                  | (refine step_append_cells (by rfl) _ _ _ (by rfl) w4.heap.size 49 j0 _ 4 64 Tryz.underlying23 HI.out HZ0.out HZ1.out HZ2.out rfl (by omega) (.slice (some ⟨g2, 0, none⟩) (k + 1) cap2) (k + 1) L (by rfl) HO7.out.drew U (if ce = k then some ⟨bl, ol, none⟩ else some ⟨bl, ol + k * 4, none⟩) (ne - k) (ce - k) (fun j => enF es PN (k * 4 + j)) (by rfl) HCS.out (fun e => by split at e <;> cases e) (fun j hj => enF_one) (by unfold maxLen; omega) (by omega) (by simp; omega) ?_; intro vv w9 hown hgrow hor; (have hg1 : ∃ g, vv.ownBlock = some g := by rcases hor with h9 | h9 <;> exact ⟨_, h9⟩); (obtain ⟨g3, hg1⟩ := hg1); (obtain ⟨cap3, hvv, hgb1⟩ := own_form hown hg1); subst hvv; (have hgz := fun j => (World.cell?_of_block (w := w7.drew) (a := ⟨U, j, none⟩) (hgrow.block U (by simp; omega) (fun e => absurd (show U = g2 by injection e) (by omega))))); (have hgf := fun j => (World.frozen?_of_block (w := w7.drew) (a := ⟨U, j, none⟩) (hgrow.block U (by simp; omega) (fun e => absurd (show U = g2 by injection e) (by omega)))))))
                all_goals
                  obtain ⟨SX, hSX⟩ : ∃ z, (if ce = k then some (⟨bl, ol, none⟩ : Addr) else some ⟨bl, ol + k * 4, none⟩) = z := ⟨_, rfl⟩
                  try rw [hSX]
                  clear hSX
                  try rw [HK1.out] at hown
                  try rw [HK1.out]
                  have hgo : ∀ q, (Value.slice (some ⟨g2, 0, none⟩) (k + 1) cap2).ownBlock = some q → w4.heap.size ≤ q := fun q hq => (own_lt HO7.out hq).2
                  have hb9 : Below w4.heap.size w7 w9 := Below.grown (HBD.out.mono (by omega)) hgrow (by simp; omega) hgo
                  have hgq : ∀ q, q ≠ g2 → some q ≠ (Value.slice (some ⟨g2, 0, none⟩) (k + 1) cap2).ownBlock := fun q hq e => absurd (show q = g2 by injection e) hq
                  obtain ⟨wT, hwT⟩ : ∃ z, w9.setCell ⟨U, 1, none⟩ (.slice (some ⟨g3, 0, none⟩) (ne + 1) cap3) = z := ⟨_, rfl⟩
                  have HT9 : Hid (Has wT U #[.slice Ax nc ca, .slice (some ⟨g3, 0, none⟩) (ne + 1) cap3] 25) := Lib.hid (by rw [← hwT]; exact Has.put (cs := #[.slice Ax nc ca, .slice (some ⟨g2, 0, none⟩) (k + 1) cap2]) (HU7.out.below hb9 hUl) 1 _)
                  have HO9 := Lib.hid (show wT.ownsRow w4.heap.size _ _ _ _ _ by rw [← hwT]; exact own_keeps (b := U) hown ((Keeps.refl U w9).put 1 _) hUl)
                  have HS9 : Hid (Has wT Rm #[.string { data := #[110, 111, 116, 104, 105, 110, 103] }] 9) := Lib.hid (by rw [← hwT]; exact Has.far (p := ⟨U, 1, none⟩) ((hgrow.block Rm hRl (hgq Rm hne1)).trans HS7.out) (show Rm ≠ U by omega) _)
                  have HL9 : Hid (Has wT Cc (covR { data := #[99, 45, 97, 97] }) 46) := Lib.hid (by rw [← hwT]; exact Has.far (p := ⟨U, 1, none⟩) ((hgrow.block Cc hCl (hgq Cc hne2)).trans HL7.out) (show Cc ≠ U by omega) _)
                  have HB9 : Hid (Below U w4 wT) := Lib.hid (by rw [← hwT]; exact Below.setCell (HB47.out.trans (hb9.mono (by omega))) (Nat.le_refl U) _)
                  try simp only [Nat.zero_add] at hwT HT9 HO9
                  try rw [hwT]
                  clear hown hgrow hor hgz hgf hg1 hgo hgq hb9 hwT
                  go_wp2_with fail
                  go_meet
                  case rel => exact ⟨rfl, g3, cap3, HT9, HO9, HS9, HL9, HB9⟩
            case rest =>
              obtain ⟨rfl, g3, cap3, HU8, HO8, HS8, HL8, HB8⟩ := hcut
              obtain ⟨w8, hw8⟩ : ∃ z, wc = z := ⟨_, rfl⟩
              rw [hw8] at HU8 HO8 HS8 HL8 HB8 ⊢
              clear hw8 HU7 HO7 HS7 HL7 HB7 HB47 HB6 HC4 HU
              have HBW := Lib.hid (HB4.out.trans (show Below _ w4 w8 from by rw [HUE.out]; exact HB8.out))
              have HV8 := Lib.hid (HV4.out.below HB8.out hTU)
              have HLL := Lib.hid (ins_row (es := es) (P := PN) (y := outE f t2) (a := ⟨some ⟨Rm, 0, none⟩, 1, some ⟨Cc, 0, none⟩, 1⟩) hkn)
              clear HI HZ0 HZ1 HZ2 j0 HP4 HV4 HB4
              obtain ⟨v0, v1, v2⟩ := HV8.out.rules
              go_wp2_with fail
              refine (HIW.out _ HBW.out).mono ?_
              rintro r w10 hr
              obtain ⟨A1, n1, c1, cs1, e1, rfl, hcl, hb10, htk⟩ := hr.take
              have HTK := Lib.hid htk
              have HC1 := Lib.hid hcl
              have HU10 := Lib.hid (HU8.out.below hb10 HU8.out.lt)
              have HS10 := Lib.hid (HS8.out.below hb10 HS8.out.lt)
              have HL10 := Lib.hid (HL8.out.below hb10 HL8.out.lt)
              have HO10 := Lib.hid (own_below HO8.out hb10)
              have HBW10 := Lib.hid (HBW.out.trans (hb10.mono HBW.out.size))
              clear hr hcl htk v0 v1 v2 hb10 HIW HO8 HU8 HS8 HL8 HB8 HV8
              have hO := HO10.out
              have h8 : (List.map (enF es PN) (List.range (k * 4)) ++ [.int .i64 f, .int .i64 t2, .slice (some ⟨Rm, 0, none⟩) 1 1, .slice (some ⟨Cc, 0, none⟩) 1 1] ++ List.map (fun j => enF es PN (k * 4 + j)) (List.range ((ne - k) * 4))) = rowL ((ne + 1) * 4) (enF (insE es k (outE f t2)) (insP PN k ⟨some ⟨Rm, 0, none⟩, 1, some ⟨Cc, 0, none⟩, 1⟩)) := HLL.out
              rw [← HLE.out, h8] at hO
              have HI2 := Lib.hid (HIV.out k ⟨some ⟨Rm, 0, none⟩, 1, some ⟨Cc, 0, none⟩, 1⟩ w10 g3 cap3 hkn HNO.out HBW10.out (Cells.of_own hO _ (fun j hj => by simp [rowL])) ⟨⟨by show 1 ≤ big; unfold big; omega, Nat.le_refl 1⟩, has_cells HS10.out (fun j hj => by
                  have hj : j < 1 := hj
                  obtain rfl : j = 0 := by omega
                  rfl), covR_cls HL10.out⟩)
              clear hO h8 HIV HLL HLE HO10 HS10 HL10 HNO
              obtain ⟨u0, u1, u2⟩ := HU10.out.rules
              go_wp2_with fail
              refine HI2.out.mono ?_
              rintro r w11 hr
              obtain ⟨A2, c2, rfl, hcl2, hb11⟩ := HTK.out _ _ _ hr
              have HC1' : Hid (ClsAt w11 w11.heap.size A1 n1 cs1) := Lib.hid (HC1.out.below hb11 hb11.size)
              have HC2 := Lib.hid hcl2
              have HBW11 := Lib.hid (HBW10.out.trans (hb11.mono HBW10.out.size))
              have HT11 := Lib.hid (HTW.out w11 HBW11.out)
              have HW11 : Hid (Below w.heap.size w w11) := Lib.hid (HB3.out.trans (HBW11.out.mono HB3.out.size))
              clear hr hcl2 hb11 HTK HI2 HC1 u0 u1 u2
              go_wp2_with fail
              refine (rsameclauses_yes A1 A2 n1 c1 c2 cs1 w11 HC1'.out HC2.out).mono ?_
              rintro e w12 ⟨rfl, hb12⟩
              have HT12 := Lib.hid (HT11.out.below hb12 HT11.out.pos)
              have HW12 : Hid (Below w.heap.size w w12) := Lib.hid (HW11.out.trans (hb12.mono HW11.out.size))
              clear hb12
              go_wp2_with fail
              refine (awake_any w12 HT12.out).mono ?_
              rintro e w13 ⟨rfl, hb13⟩
              go_wp2_with fail
              go_ret
              exact ⟨rfl, HW12.out.trans (hb13.mono HW12.out.size)⟩

set_option maxRecDepth 100000 in
theorem lifted (os : Os) (started : os.Started) (H : Type) (enc : TypeId × Value → H) :
    ReturnsInHanded {} Tryz.checked os 4 .any (fun w args => (Rows.endorseOutsideSpec.pre enc Tryz.prog Tryz.f4 [] false w args ∧ laidMetH Tryz.prog opsLaid w) ∧ sizedMet enc Tryz.prog Tryz.f4 (OpenSpec.ofChange Rows.endorseOutsideSpec) false w args) (Rows.endorseOutsideSpec.post enc Tryz.prog Tryz.f4 false true false false) := by
  refine returnsInHanded_of_change_and (C := Tryz.checked) (X := fun w _ => laidMetH Tryz.prog opsLaid w) (fun _ _ _ hh h => h.of_heap hh) own started (by kernel_rfl) Tryz.func4
    (ChangeSpec.witness_shaped (enc := enc) (C := Tryz.checked) (os := os) (X := fun w _ => laidMetH Tryz.prog opsLaid w) false (World.doorLaid Tryz.prog 400 os) #[.slice none 0 0, .int .i64 0, .int .i64 0, .agg #[.int .i64 0, .int .i64 0]] 8 rfl (World.shaped_of_RefB (by kernel_rfl) (by kernel_rfl)) (by kernel_rfl) (by kernel_rfl) (by kernel_rfl) (door_met os _)) ?_
  intro W base args ds gs before hval0 hW _ _ hL _
  have hval : ∀ (j : Nat) t v, Tryz.f4.params[j]? = some t → args[j]? = some v → Value.okWide Tryz.prog W .any base t v := hval0
  have hW' := hW
  obtain ⟨p, q, hA0, hV, rfl, hfz, hnd⟩ := hW
  have hA : DataW.TrodAll enc Tryz.prog W 0 (fun _ => true) true Tryz.f4.params.toList args.toList ds p := hA0
  rw [Tryz.params4] at hA hval
  obtain ⟨v0, vs0, d0, ds0, p0, q0, hargs, rfl, rfl, h0, r0⟩ := trodAll_cons hA
  obtain ⟨v1, vs1, d1, ds1, p1, q1, rfl, rfl, rfl, h1, r1⟩ := trodAll_cons r0
  obtain ⟨v2, vs2, d2, ds2, p2, q2, rfl, rfl, rfl, h2, r2⟩ := trodAll_cons r1
  obtain ⟨v3, vs3, d3, ds3, p3, q3, rfl, rfl, rfl, h3, r3⟩ := trodAll_cons r2
  obtain ⟨rfl, rfl, rfl⟩ := trodAll_nil r3
  obtain rfl : args = #[v0, v1, v2, v3] := by cases args; simp_all
  obtain ⟨rfl, rfl⟩ := trodVars_none hV
  have k0 := h0
  have lt0 : ∀ x ∈ p0, x.block < W.heap.size := by obtain ⟨m, hm⟩ := k0; exact DataW.trod_lt m _ _ _ hm
  obtain ⟨a0, len0, cap0, rfl⟩ := okWide_slice Tryz.underlying26 (hval 0 26 v0 rfl rfl)
  have r100 : Rd26 W [.slice a0 len0 cap0] := by obtain ⟨fuel, hf⟩ := h0; exact rd26 hf
  have k1 := h1
  have lt1 : ∀ x ∈ p1, x.block < W.heap.size := by obtain ⟨m, hm⟩ := k1; exact DataW.trod_lt m _ _ _ hm
  obtain ⟨a1, rfl⟩ := okWide_int Tryz.underlying3 (hval 1 3 v1 rfl rfl)
  have r101 : Rd3 W [.int .i64 a1] := by obtain ⟨fuel, hf⟩ := h1; exact rd3 hf
  have k2 := h2
  have lt2 : ∀ x ∈ p2, x.block < W.heap.size := by obtain ⟨m, hm⟩ := k2; exact DataW.trod_lt m _ _ _ hm
  obtain ⟨a2, rfl⟩ := okWide_int Tryz.underlying3 (hval 2 3 v2 rfl rfl)
  have r102 : Rd3 W [.int .i64 a2] := by obtain ⟨fuel, hf⟩ := h2; exact rd3 hf
  have k3 := h3
  have lt3 : ∀ x ∈ p3, x.block < W.heap.size := by obtain ⟨m, hm⟩ := k3; exact DataW.trod_lt m _ _ _ hm
  obtain ⟨⟨c3⟩, rfl, _⟩ := okWide_struct Tryz.underlying38 (hval 3 38 v3 rfl rfl)
  have r103 : Rd38 W c3 := by obtain ⟨fuel, hf⟩ := h3; exact rd38 hf
  clear hA0 hval0
  refine (walk _ _ _ c3 W (tab_of_laid hL) r100 r101 r102 r103).mono fun e W' ⟨he, bel⟩ => ?_
  subst he
  exact ⟨_, rfl, _, _, _, [], _, [], hW', trodAll_mk1 (shut_bool Tryz.underlying4 _), (trodAll_cons_mk (Below.trod laidOut (by kernel_rfl) (of_decide_eq_true (by kernel_rfl)) k0 bel lt0) (trodAll_cons_mk (Below.trod laidOut (by kernel_rfl) (of_decide_eq_true (by kernel_rfl)) k1 bel lt1) (trodAll_cons_mk (Below.trod laidOut (by kernel_rfl) (of_decide_eq_true (by kernel_rfl)) k2 bel lt2) (trodAll_cons_mk (Below.trod laidOut (by kernel_rfl) (of_decide_eq_true (by kernel_rfl)) k3 bel lt3) trodAll_mk0)))), rfl, bel.frame _, fun h => by cases h⟩

theorem over : Rows.endorseOutsideRow.holds Tryz.pinned (OpenSpec.ofChange Rows.endorseOutsideSpec) :=
  OpenClaim.holds_of_wide 4 Tryz.f4 rfl rfl rfl rfl rfl rfl rfl ⟨rfl, rfl, rfl, rfl, rfl⟩ rfl rfl rfl rfl rfl (by kernel_rfl) Tryz.func4 (by kernel_rfl)
    (of_decide_eq_true (by kernel_rfl)) (by unfold Func.isWrapper; first | (rw [if_pos (by decide +kernel)]; kernel_rfl) | (rw [if_neg (by decide +kernel)]; exact ⟨rfl, rfl⟩))
    (fun os started H enc _ => lifted os started H enc)

/-- the statement: the tied card -/
theorem proved : Rows.EndorseOutsideCardSaid :=
  Claim7.holds_tied_plain_at .later [] [.data] true (true, "95c76f1712f627399a8c6fef5c025c31d4f32c88ce87d29905735f8224b85ccd") false
    over (fun _ h => by cases h) (by kernel_rfl) (fun _ h => by cases h) endorseOutside_row_tie rfl ⟨rfl, rfl⟩ (by kernel_rfl) rfl
    (fun f fn hf hfn => by
      obtain rfl : f = 4 := Option.some.inj ((show Tryz.prog.funcNamed "treaty/treatylaw09.EndorseOutside" = some 4 by kernel_rfl).symm.trans hf) |>.symm
      obtain rfl : fn = Tryz.f4 := (Option.some.inj (Tryz.func4.symm.trans hfn)).symm
      exact ⟨by kernel_rfl, fun j t ht => by
        rw [Tryz.params4] at ht
        have hm : t ∈ [26, 3, 3, 38] := by simpa using Array.mem_of_getElem? ht
        have hall : ([26, 3, 3, 38].all fun u => !Tryz.prog.wantsStandIn u) = true := by kernel_rfl
        exact (show Tryz.prog.wantsStandIn t = false by simpa using List.all_eq_true.1 hall t hm)⟩)
    (by kernel_rfl)
#print axioms proved
end Go.Proofs.YtlbkhhbbkedhkaaGreatDoor.endorseOutside
