/- The law RetroStraight: without a circle there is one solution, after as many rounds as there are companies, and one. No condition. -/
import Derived.Test.YtdfajopniflaaaaRows
import Derived.Test.YtdfajopniflaaaaRead
import Derived.Test.YtdfajopniflaaaaReAw
import Derived.Test.YtdfajopniflaaaaReSt
import Derived.BigRegion
import Derived.WalkKit
import Derived.ProofKit
import Derived.OpenShut
import Derived.ShutString
import Derived.ChangeOld
import Derived.Below
namespace Go.Proofs.Ytdfajopniflaaaa.retroStraight
open Go.ChangeShapes Go.WideShapes Go.ChangeAt Go.RowKit
set_option linter.unusedVariables false

theorem own : ownKnob Try.prog.godebug = none := by kernel_rfl
theorem laidOut : laidOutB Try.prog = true := by kernel_rfl



set_option maxHeartbeats 4000000 in
set_option maxRecDepth 100000 in
theorem walk (v0 : Value) (w : World) (h0 : Rd22 w [v0]) :
    Calls Try.prog 6 #[v0] w fun e w' => e = .returned (.bool true) ∧ Below w.heap.size w w' := by
  obtain ⟨AD, nd, cd, zd, rfl, hnd, _, _, hdc, _⟩ := rd_ints h0
  have HDC := Lib.hid hdc
  clear h0 hdc
  obtain ⟨bd, hbd⟩ : ∃ b, w.heap.size = b := ⟨_, rfl⟩
  have CN := Lib.hid (new2_any AD nd cd zd w hnd HDC.out)
  rw [hbd] at CN
  go_enter Try.func6, Try.ntmps6
  go_wp2_with fail
  refine CN.out.mono ?_
  rintro e w1 ⟨rfl, hb, hd⟩
  have HB : Hid (Below w.heap.size w w1) := Lib.hid (by rw [hbd]; exact hb)
  have HD := Lib.hid hd
  clear hb hd HDC CN
  go_wp2_with fail
  refine (retros_any _ _ HD.out).mono ?_
  intro e w2 hpost
  obtain ⟨g, n, m, B2, k2, o, R, rfl, hn1, hn5, hm6, hg, _, hown, ho1, _, hB2, hob, hfr, _, hk, hd⟩ := retros_use hpost HD.out.lt
  have hbl := HD.out.lt
  replace HB : Hid (Below w.heap.size w w2) := Lib.hid (HB.out.trans (hk.below (by omega) HB.out.size))
  have HO := Lib.hid ho1
  have HW : Hid (OwnR w2 w1.heap.size (.slice B2 m k2) m (mixR R 0)) := Lib.hid (hown.congr fun j _ => by unfold mixR; rw [if_neg (by omega)])
  have HB2 := Lib.hid hB2
  have HOB := Lib.hid hob
  have HF := Lib.hid hfr
  have hz1 : w.heap.size ≤ w1.heap.size := by omega
  clear hpost hk hd ho1 hown hB2 hob hfr HD
  go_wp2_with fail
  go_loopw [5, 16] (fun _ i wr => ∃ k : Nat, k ≤ m ∧ i = .int .i64 k ∧ Hid (OwnR wr w1.heap.size (.slice B2 m k2) m (mixR R k)) ∧ Hid (Nums wr wr.heap.size (some ⟨g, 0, none⟩) n o) ∧ Hid (Below w.heap.size w wr)) (fun _ i _ => m - (intOf i).toNat)
  case atStart => exact ⟨0, Nat.zero_le _, rfl, HW, HO, HB⟩
  case round =>
    clear HW HO HB
    obtain ⟨k, hk, rfl, HW, HO, HB⟩ := hrel
    by_cases hlt : k < m
    · obtain ⟨q, rfl⟩ : ∃ q, B2 = some ⟨q, 0, none⟩ := by
        obtain ⟨A, c, e, _, _, h⟩ := HW.out.rets
        injection e with e
        subst e
        exact h (by omega)
      have hq := HB2.out _ rfl
      simp only at hq
      obtain ⟨hq1, hq2⟩ := hq
      have hf := HF.out k hlt
      have hmk : mixR R k k = R k := by unfold mixR; rw [if_neg (by omega)]
      obtain ⟨c0, f0⟩ := HW.out.cellAt k 0 (by omega) hlt
      obtain ⟨c1, f1⟩ := HW.out.cellAt k 1 (by omega) hlt
      obtain ⟨c2, f2⟩ := HW.out.cellAt k 2 (by omega) hlt
      rw [hmk] at c0 c1 c2
      rw [Nat.add_zero] at c0 f0
      have HN : Hid (∀ j, (if j = k then fwd (R k) else mixR R k j) = mixR R (k + 1) j) := Lib.hid (mixR_next R k)
      obtain ⟨r, hr⟩ : ∃ r, R k = r := ⟨_, rfl⟩
      rw [hr] at c0 c1 c2 hf hmk HN
      have HMK := Lib.hid hmk
      clear hr hmk
      obtain ⟨fr, ds, sh, re, li⟩ := r
      simp only [Re.Rt.at'] at c0 c1 c2
      simp only [if_true, if_false, Nat.one_ne_zero, Nat.reduceEqDiff] at c0 c1 c2
      obtain ⟨⟨g0, g1, g2, g3⟩, gne, ⟨p0, p1, p2, p3, p4, p5⟩, _⟩ := hf
      simp only at g0 g1 g2 g3 gne p0 p1 p2 p3 p4 p5
      have hql := (own_block_lt HW.out rfl).2
      obtain ⟨s8, hs8⟩ : ∃ s, sh / 8 = s := ⟨_, rfl⟩
      have hs8t : sh.tdiv 8 = s8 := by rw [Int.tdiv_eq_ediv_of_nonneg (by omega)]; exact hs8
      have hs80 : 0 ≤ s8 ∧ s8 ≤ 125000 := by omega
      obtain ⟨s80, s81⟩ := hs80
      have hk0 : (0 : Int) ≤ k := by omega
      have hk1 : (k : Int) < m := by omega
      have HNE : Hid (fwd ⟨fr, ds, sh, re, li⟩ = ⟨min fr ds, max fr ds, 1 + s8, re, li⟩) := Lib.hid (by unfold fwd; simp only [hs8])
      have hws : IntKind.i64.wrap (1 + s8) = 1 + s8 := by rw [IntKind.wrap_i64]; omega
      have hsz := HB.out.size
      by_cases hgt : ds < fr
      · have hmn : min fr ds = ds := by omega
        have hmx : max fr ds = fr := by omega
        rw [hmn, hmx] at HNE
        clear hmn hmx
        go_wp2_with fail
        go_quiet (fail)
        go_wp2_with fail
        obtain ⟨W, hW⟩ : ∃ W, wr.drewN nq = W := ⟨_, rfl⟩
        replace HW : Hid (OwnR W w1.heap.size (.slice (some ⟨q, 0, none⟩) m k2) m (mixR R k)) := Lib.hid (by rw [← hW]; exact HW.out.drewN _)
        replace HO : Hid (Nums W W.heap.size (some ⟨g, 0, none⟩) n o) := Lib.hid (by rw [← hW]; exact HO.out.drewN _)
        replace HB : Hid (Below w.heap.size w W) := Lib.hid (by rw [← hW]; exact below_drewN HB.out _)
        replace c0 : W.cell? ⟨q, k * 5, none⟩ = some (.int .i64 fr) := by rw [← hW]; exact c0
        replace c1 : W.cell? ⟨q, k * 5 + 1, none⟩ = some (.int .i64 ds) := by rw [← hW]; exact c1
        replace f0 : W.frozen? ⟨q, k * 5, none⟩ = false := by rw [← hW]; exact f0
        replace f1 : W.frozen? ⟨q, k * 5 + 1, none⟩ = false := by rw [← hW]; exact f1
        rw [hW]
        clear hW c2 f2 hql
        go_cut [] (fun wx => OwnR wx w1.heap.size (.slice (some ⟨q, 0, none⟩) m k2) m (fun j => if j = k then ⟨ds, fr, sh, re, li⟩ else mixR R k j) ∧ Nums wx wx.heap.size (some ⟨g, 0, none⟩) n o ∧ Below w.heap.size w wx)
        case first =>
          have HW2 : Hid (OwnR ((W.setCell ⟨q, k * 5, none⟩ (.int .i64 ds)).setCell ⟨q, k * 5 + 1, none⟩ (.int .i64 fr)) w1.heap.size (.slice (some ⟨q, 0, none⟩) m k2) m (fun j => if j = k then ⟨ds, fr, sh, re, li⟩ else mixR R k j)) := Lib.hid (by
            have h1 := HW.out.put k 0 (by omega) hlt ds ⟨ds, ds, sh, re, li⟩ (fun j hj => by rw [HMK.out]; match j, hj with | 0, _ => rfl | 1, _ => rfl | 2, _ => rfl | 3, _ => rfl | 4, _ => rfl)
            have h2 := h1.put k 1 (by omega) hlt fr ⟨ds, fr, sh, re, li⟩ (fun j hj => by simp only [if_true]; match j, hj with | 0, _ => rfl | 1, _ => rfl | 2, _ => rfl | 3, _ => rfl | 4, _ => rfl)
            refine OwnR.congr h2 fun j _ => ?_
            by_cases e : j = k
            · simp only [if_pos e]
            · simp only [if_neg e])
          have HW3 : Hid (OwnR ((W.setCell ⟨q, k * 5 + 1, none⟩ (.int .i64 fr)).setCell ⟨q, k * 5, none⟩ (.int .i64 ds)) w1.heap.size (.slice (some ⟨q, 0, none⟩) m k2) m (fun j => if j = k then ⟨ds, fr, sh, re, li⟩ else mixR R k j)) := Lib.hid (by
            have h1 := HW.out.put k 1 (by omega) hlt fr ⟨fr, fr, sh, re, li⟩ (fun j hj => by rw [HMK.out]; match j, hj with | 0, _ => rfl | 1, _ => rfl | 2, _ => rfl | 3, _ => rfl | 4, _ => rfl)
            have h2 := h1.put k 0 (by omega) hlt ds ⟨ds, fr, sh, re, li⟩ (fun j hj => by simp only [if_true]; match j, hj with | 0, _ => rfl | 1, _ => rfl | 2, _ => rfl | 3, _ => rfl | 4, _ => rfl)
            refine OwnR.congr h2 fun j _ => ?_
            by_cases e : j = k
            · simp only [if_pos e]
            · simp only [if_neg e])
          go_region
          all_goals
            go_wp2_with fail
            go_meet
            case rel =>
              first
              | exact ⟨HW2.out.drew, Nums.mono (((HO.out.far (p := ⟨q, k * 5, none⟩) (fun ad e => by injection e with e; subst e; simp only; omega) _).far (p := ⟨q, k * 5 + 1, none⟩) (fun ad e => by injection e with e; subst e; simp only; omega) _).drewN 1) (by simp), ((HB.out.setCell (by simp only; omega) _).setCell (by simp only; omega) _).drew⟩
              | exact ⟨HW3.out.drew, Nums.mono (((HO.out.far (p := ⟨q, k * 5 + 1, none⟩) (fun ad e => by injection e with e; subst e; simp only; omega) _).far (p := ⟨q, k * 5, none⟩) (fun ad e => by injection e with e; subst e; simp only; omega) _).drewN 1) (by simp), ((HB.out.setCell (by simp only; omega) _).setCell (by simp only; omega) _).drew⟩
        case rest =>
          obtain ⟨hw, ho, hb⟩ := hcut
          clear HW HO HB c0 c1 f0 f1
          have HW := Lib.hid hw
          have HO := Lib.hid ho
          have HB := Lib.hid hb
          obtain ⟨c2, f2⟩ := hw.cellAt k 2 (by omega) hlt
          simp only [if_true, Re.Rt.at'] at c2
          simp only [if_true, if_false, Nat.one_ne_zero, Nat.reduceEqDiff] at c2
          have HW2 := Lib.hid (HW.out.put k 2 (by omega) hlt (1 + s8) ⟨ds, fr, 1 + s8, re, li⟩ (fun j hj => by simp only [if_true]; match j, hj with | 0, _ => rfl | 1, _ => rfl | 2, _ => rfl | 3, _ => rfl | 4, _ => rfl))
          clear hw ho hb
          go_wp2_with fail
          go_roundw
          case rel => exact ⟨k + 1, by omega, by go_num, Lib.hid (HW2.out.congr fun j _ => by
              rw [← HN.out j, HNE.out]
              by_cases e : j = k
              · simp only [if_pos e]
              · simp only [if_neg e]), Lib.hid (Nums.mono (HO.out.far (p := ⟨q, k * 5 + 2, none⟩) (fun ad e => by injection e with e; subst e; simp only; omega) _) (by simp)), Lib.hid (HB.out.setCell (by simp only; omega) _)⟩
          case measure => simp [intOf]; omega
      · have hmn : min fr ds = fr := by omega
        have hmx : max fr ds = ds := by omega
        rw [hmn, hmx] at HNE
        clear hmn hmx
        have HW2 := Lib.hid (HW.out.put k 2 (by omega) hlt (1 + s8) ⟨fr, ds, 1 + s8, re, li⟩ (fun j hj => by rw [HMK.out]; match j, hj with | 0, _ => rfl | 1, _ => rfl | 2, _ => rfl | 3, _ => rfl | 4, _ => rfl))
        go_wp2_with fail
        go_quiet (fail)
        go_wp2_with fail
        go_roundw
        case rel => exact ⟨k + 1, by omega, by go_num, Lib.hid (OwnR.congr (by first | exact HW2.out.drewN _ | exact HW2.out) fun j _ => by
            rw [← HN.out j, HNE.out]), Lib.hid (Nums.mono (by first | exact (HO.out.far (p := ⟨q, k * 5 + 2, none⟩) (fun ad e => by injection e with e; subst e; simp only; omega) _).drewN _ | exact HO.out.far (p := ⟨q, k * 5 + 2, none⟩) (fun ad e => by injection e with e; subst e; simp only; omega) _) (by simp)), Lib.hid (by first | exact below_drewN (HB.out.setCell (by simp only; omega) _) _ | exact (below_drewN HB.out _).setCell (by simp only; omega) _)⟩
        case measure => simp [intOf]; omega
    · have hkm : k = m := by omega
      have hfw : ∀ j, j < m → mixR R k j = fwd (R j) := fun j hj => by unfold mixR; rw [if_pos (by omega)]
      obtain ⟨S, hS⟩ : ∃ S, mixR R k = S := ⟨_, rfl⟩
      rw [hS] at hfw HW
      have hV : Re.verr n o m S = 0 := Re.verr_ok hn1 (by omega) (by omega) (fun i hi => by have := HOB.out i hi; omega) (fun j hj => by
        obtain ⟨⟨g0, g1, g2, g3⟩, gne, ⟨p0, p1, p2, p3, p4, p5⟩, _⟩ := HF.out j hj
        rw [hfw j hj]
        unfold fwd
        refine ⟨⟨?_, ?_, ?_, ?_⟩, ?_, ?_, ?_, ?_, ?_, ?_, ?_⟩ <;> simp only <;> omega) (fun i hi => by
        have := Re.acc_bound (fun _ => 0) (Re.frN S) (fun j => (S j).sh) 125001 m i (fun j hj => by
          obtain ⟨_, _, ⟨p0, p1, _⟩, _⟩ := HF.out j hj
          rw [hfw j hj]
          unfold fwd
          simp only
          omega) (by omega)
        unfold Re.shs
        omega)
      have hstr : ∀ j, j < m → Re.frN S j < Re.toN S j := fun j hj => by
        obtain ⟨⟨g0, g1, g2, g3⟩, gne, _, _⟩ := HF.out j hj
        unfold Re.frN Re.toN
        rw [hfw j hj]
        unfold fwd
        simp only
        omega
      obtain ⟨⟨L1, a1, e1, ha1⟩, huniq⟩ := Re.straight hV hstr o
      obtain ⟨⟨L2, a2, e2, ha2⟩, _⟩ := Re.straight hV hstr (Re.top o m S)
      have heq : eqn n L1 L2 := fun i hi => huniq (Re.top o m S) 2000 1 2000 1 L1 a1 L2 a2 e1 e2 i hi
      obtain ⟨A4, c4, eq4, hr4, _, _⟩ := HW.out.rets
      injection eq4 with eq4 _ eq4'
      subst eq4 eq4'
      have CS := Lib.hid (solve_any (some ⟨g, 0, none⟩) n n o B2 m k2 S wr (by omega) (by omega) HO.out hr4)
      rw [hV, show Re.least n o m S = some (L1, a1) from e1, show Re.greatest n o m S = some (L2, a2) from e2] at CS
      have hbo : Re.both 0 (some (L1, a1)) (some (L2, a2)) := ⟨rfl, rfl, rfl⟩
      have HST : Hid (Re.cst n 0 (some (L1, a1)) (some (L2, a2)) = 1) := Lib.hid (by rw [Re.cst, if_neg (by simp), if_pos hbo]; exact if_pos heq)
      have HR1 : Hid (Re.crn 0 (some (L1, a1)) (some (L2, a2)) (Re.rnd (some (L1, a1))) = (a1 : Int)) := Lib.hid (if_pos hbo)
      have HR2 : Hid (Re.crn 0 (some (L1, a1)) (some (L2, a2)) (Re.rnd (some (L2, a2))) = (a2 : Int)) := Lib.hid (if_pos hbo)
      have ha1' : (a1 : Int) ≤ (n : Int) + 1 := by omega
      have ha2' : (a2 : Int) ≤ (n : Int) + 1 := by omega
      have hwn : IntKind.i64.wrap ((n : Int) + 1) = (n : Int) + 1 := by rw [IntKind.wrap_i64]; omega
      have hsz := HB.out.size
      clear hfw hV hstr e1 e2 huniq heq hr4 hbo HW HF HOB hS
      go_wp2_with fail
      refine CS.out.mono ?_
      rintro e w5 ⟨X, Y, mm, cx, cy, rfl, hb, hmm, _, _⟩
      rw [HST.out, HR1.out, HR2.out]
      replace HB : Hid (Below w.heap.size w w5) := Lib.hid (HB.out.trans (hb.mono hsz))
      have hs5 := HB.out.size
      clear hb hmm CS HST HR1 HR2
      go_wp2_with (first | (go_at_call 9; refine (awake39_any _).mono ?_; rintro e w99 ⟨rfl, hb99⟩))
      go_ret
      exact ⟨rfl, (HB.out.alloc hs5 _).trans (hb99.mono (by simp; omega))⟩

set_option maxRecDepth 100000 in
theorem lifted (os : Os) (started : os.Started) (H : Type) (enc : TypeId × Value → H) :
    ReturnsInHanded {} Try.checked os 6 .any (Rows.retroStraightSpec.pre6 enc Try.prog Try.f6 Rows.retroStraightRow.domain false) (Rows.retroStraightSpec.post enc Try.prog Try.f6 false true false false) := by
  refine returnsInHanded_of_change (C := Try.checked) own started (by kernel_rfl) Try.func6
    (ChangeSpec.witness6 (enc := enc) (C := Try.checked) false ⟨#[], #[.slice none 0 0], []⟩ 8 (by kernel_rfl) (by kernel_rfl) (by kernel_rfl) (by kernel_rfl)) ?_
  intro W base args ds gs before hval0 hW hcnd _
  have hval : ∀ (j : Nat) t v, Try.f6.params[j]? = some t → args[j]? = some v → Value.okWide Try.prog W .any base t v := hval0
  have hW' := hW
  obtain ⟨p, q, hA0, hV, rfl, hfz, hnd⟩ := hW
  have hA : DataW.TrodAll enc Try.prog W 0 (fun _ => true) true Try.f6.params.toList args.toList ds p := hA0
  rw [Try.params6] at hA hval
  obtain ⟨v0, vs0, d0, ds0, p0, q0, hargs, rfl, rfl, h0, r0⟩ := trodAll_cons hA
  obtain ⟨rfl, rfl, rfl⟩ := trodAll_nil r0
  obtain rfl : args = #[v0] := by cases args; simp_all
  obtain ⟨rfl, rfl⟩ := trodVars_none hV
  have k0 := h0
  have lt0 : ∀ x ∈ p0, x.block < W.heap.size := by obtain ⟨m, hm⟩ := k0; exact DataW.trod_lt m _ _ _ hm
  obtain ⟨a0, len0, cap0, rfl⟩ := okWide_slice Try.underlying22 (hval 0 22 v0 rfl rfl)
  have r100 : Rd22 W [.slice a0 len0 cap0] := by obtain ⟨fuel, hf⟩ := h0; exact rd22 hf
  clear hA0 hval0
  refine (walk _ W r100).mono fun e W' ⟨he, bel⟩ => ?_
  subst he
  exact ⟨_, rfl, _, _, _, [], _, [], hW', trodAll_mk1 (shut_bool Try.underlying4 _), (trodAll_cons_mk (Below.trod laidOut (by kernel_rfl) (of_decide_eq_true (by kernel_rfl)) k0 bel lt0) trodAll_mk0), rfl, bel.frame _, fun h => by cases h⟩

theorem over : Rows.retroStraightRow.holds Try.pinned (OpenSpec.ofChange Rows.retroStraightSpec) :=
  OpenClaim.holds_of_wide 6 Try.f6 rfl rfl rfl rfl rfl rfl rfl ⟨rfl, rfl, rfl, rfl, rfl⟩ rfl rfl rfl rfl rfl (by kernel_rfl) Try.func6 (by kernel_rfl)
    (of_decide_eq_true (by kernel_rfl)) (by unfold Func.isWrapper; first | (rw [if_pos (by decide +kernel)]; kernel_rfl) | (rw [if_neg (by decide +kernel)]; exact ⟨rfl, rfl⟩))
    (fun os started H enc _ => lifted os started H enc)

/-- the statement -/
theorem proved : Rows.RetroStraightSaid := over
#print axioms proved
end Go.Proofs.Ytdfajopniflaaaa.retroStraight
