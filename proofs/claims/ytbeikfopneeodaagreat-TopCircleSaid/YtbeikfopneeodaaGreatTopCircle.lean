/- The law TopCircle: the circle of retrocessions, closed: its two solutions, the step that ends between them, and the sums that a solution leaves. No condition. -/
import Derived.Test.YtbeikfopneeodaaGreatRows
import Derived.Test.YtbeikfopneeodaaGreatRead
import Derived.Test.YtbeikfopneeodaaGreatMt49
import Derived.BigQuiet
import Derived.WalkKit
import Derived.ProofKit
import Derived.OpenShut
import Derived.ShutString
import Derived.ChangeOld
import Derived.Below
namespace Go.Proofs.YtbeikfopneeodaaGreat.topCircle
open Go.ChangeShapes Go.WideShapes Go.ChangeAt Go.RowKit
set_option linter.unusedVariables false

theorem own : ownKnob Tryz.prog.godebug = none := by kernel_rfl
theorem laidOut : laidOutB Tryz.prog = true := by kernel_rfl

/-- what lies at the start of the law and stays -/
structure TopS (w : World) (g : Nat) (B2 X Y : Option Addr) (n m bc : Nat) (cs : Array Value) (o l1 l2 : Nat → Int) (R : Nat → Re.Rt) (wr : World) : Prop where
  bel : Below w.heap.size w wr
  own : Nums wr wr.heap.size (some ⟨g, 0, none⟩) n o
  rs : Rets wr wr.heap.size B2 m R
  x : Nums wr wr.heap.size X n l1
  y : Nums wr wr.heap.size Y n l2
  has : Has wr bc cs 30
theorem TopS.below {w : World} {g : Nat} {B2 X Y : Option Addr} {n m bc : Nat} {cs : Array Value} {o l1 l2 : Nat → Int} {R : Nat → Re.Rt} {wr w' : World} (h : TopS w g B2 X Y n m bc cs o l1 l2 R wr) (hb : Below wr.heap.size wr w') : TopS w g B2 X Y n m bc cs o l1 l2 R w' :=
  ⟨h.bel.trans (hb.mono h.bel.size), (h.own.below hb).mono hb.size, (h.rs.below hb).mono hb.size, (h.x.below hb).mono hb.size, (h.y.below hb).mono hb.size, h.has.below hb h.has.lt⟩
theorem Re.least_range {n : Nat} {o : Nat → Int} {m : Nat} {R : Nat → Re.Rt} (hV : Re.verr n o m R = 0) {f c : Nat} {x L : Nat → Int} {c' : Nat} (h : Re.sett (Re.step o m R) n f c x = some (L, c')) : ∀ i, i < n → 0 ≤ L i ∧ L i ≤ 17592186044416 := by
  obtain ⟨y, rfl, _⟩ := Re.sett_fix f c x L c' h
  intro i hi
  have h1 := Re.step_bound o m R y i
  have h2 := (Re.verr_fine hV).2.2.2.1 i hi
  have h3 := (Re.verr_fine hV).2.2.1
  omega
/-- the totals of a solution's net losses and of the own losses -/
theorem Re.tot_net {n : Nat} {o : Nat → Int} {m : Nat} {R : Nat → Re.Rt} (hV : Re.verr n o m R = 0) {x : Nat → Int} (hx : ∀ i, i < n → Re.step o m R x i = x i) : Re.tot (Re.net m R x) n = Re.tot o n := by
  have := Re.net_sum hV hx
  rw [Re.tot_sub] at this
  omega
theorem Re.net_range {n : Nat} {o : Nat → Int} {m : Nat} {R : Nat → Re.Rt} (hV : Re.verr n o m R = 0) {x : Nat → Int} (hx : ∀ i, i < n → 0 ≤ x i ∧ x i ≤ 17592186044416) : ∀ i, i < n → 0 ≤ Re.net m R x i ∧ Re.net m R x i ≤ 35184372088832 := fun i hi => by
  have h0 := (Re.verr_fine hV).2.2.1
  have h1 := hx i hi
  have h2 := Re.acc_neg x (Re.frN R) (fun j => -Re.ceds R x j) 1073741824 m i (fun j _ => by have := Re.ceds_bound R x j; omega) (by omega)
  exact ⟨Re.net_nonneg hV i hi h1.1, by unfold Re.net; omega⟩
/-! The closed facts of the row, each by itself: together they outgrow the kernel's memory. -/
theorem cl_inPlace : (Rows.topCircleRow.inPlace == Tryz.prog.inPlace 3) = true := by kernel_rfl
theorem cl_unfollowed : (Rows.topCircleRow.unfollowed == Tryz.prog.unfollowed 3) = true := by kernel_rfl
theorem cl_recurses : (Rows.topCircleRow.recurses == Tryz.prog.recurses 3) = true := by kernel_rfl
theorem cl_named : (Rows.topCircleRow.named == Tryz.prog.varsNamed 3) = true := by kernel_rfl
theorem cl_maps : mapsRowed Tryz.prog = true := by kernel_rfl
theorem cl_stops : Tryz.prog.stopsHeard = true := by kernel_rfl
theorem cl_enter : Tryz.prog.mayEnter = true := by kernel_rfl
theorem cl_lifted : (Rows.topCircleRow.lifted == Tryz.prog.liftsFinal) = true := by kernel_rfl
theorem cl_keys : (Rows.topCircleRow.plainKeys == Tryz.prog.plainKeys) = true := by kernel_rfl
theorem closed : joinedFacts Tryz.prog 3 Tryz.f3 Rows.topCircleSpec Rows.topCircleRow = true := by
  unfold joinedFacts
  rw [cl_inPlace, cl_unfollowed, cl_recurses, cl_named, cl_maps, cl_stops, cl_enter, cl_lifted, cl_keys, laidOut]
  kernel_rfl

set_option maxHeartbeats 4000000 in
set_option maxRecDepth 100000 in
theorem walk (v0 : Value) (v1 : Value) (w : World) (h0 : Rd22 w [v0]) (h1 : Rd22 w [v1]) :
    Calls Tryz.prog 3 #[v0, v1] w fun e w' => e = .returned (.bool true) ∧ Below w.heap.size w w' := by
  obtain ⟨AD, nd, cd, zd, rfl, hnd, _, _, hdc, _⟩ := rd_ints h0
  obtain ⟨AE, ne, ce, ze, rfl, hne, _, _, hde, _⟩ := rd_ints h1
  have HDC := Lib.hid hdc
  have HDE := Lib.hid hde
  clear h0 h1 hdc hde
  obtain ⟨bd, hbd⟩ : ∃ b, w.heap.size = b := ⟨_, rfl⟩
  have CN := Lib.hid (deck_new AD nd cd zd w hnd HDC.out)
  rw [hbd] at CN
  go_enter Tryz.func3, Tryz.ntmps3
  go_wp2_with fail
  refine CN.out.mono ?_
  rintro e w1 ⟨rfl, hb, hd⟩
  have HB : Hid (Below w.heap.size w w1) := Lib.hid (by rw [hbd]; exact hb)
  have HD := Lib.hid hd
  clear hb hd HDC CN
  go_wp2_with fail
  refine (retros_any _ _ HD.out).mono ?_
  intro e w2 hpost
  obtain ⟨g, n, m, B2, k2, o, R, rfl, hn1, hn5, hm6, hg, _, _, ho1, hr1, hB2, hob, _, hV1, hk, hd⟩ := retros_use hpost HD.out.lt
  have hbl := HD.out.lt
  replace HB : Hid (Below w.heap.size w w2) := Lib.hid (HB.out.trans (hk.below (by omega) HB.out.size))
  have HO := Lib.hid ho1
  have HR := Lib.hid hr1
  have HV := Lib.hid hV1
  have HOB := Lib.hid hob
  clear hpost hk hd ho1 hr1 hV1 hB2 hob HD hbl hg hbd
  have CS := Lib.hid (solve_any (some ⟨g, 0, none⟩) n n o B2 m k2 R w2 (by omega) (by omega) HO.out HR.out)
  rw [HV.out] at CS
  obtain ⟨s1, hs1⟩ : ∃ s, Re.least n o m R = s := ⟨_, rfl⟩
  obtain ⟨s2, hs2⟩ : ∃ s, Re.greatest n o m R = s := ⟨_, rfl⟩
  rw [hs1, hs2] at CS
  have HS1 := Lib.hid hs1
  have HS2 := Lib.hid hs2
  clear hs1 hs2
  go_wp2_with fail
  refine CS.out.mono ?_
  rintro e w5 ⟨X, Y, mm, cx, cy, rfl, hb, hmm, hx, hy⟩
  obtain ⟨cs, hcs⟩ : ∃ c, Re.cst n 0 s1 s2 = c := ⟨_, rfl⟩
  obtain ⟨q1, hq1⟩ : ∃ q, Re.crn 0 s1 s2 (Re.rnd s1) = q := ⟨_, rfl⟩
  obtain ⟨q2, hq2⟩ : ∃ q, Re.crn 0 s1 s2 (Re.rnd s2) = q := ⟨_, rfl⟩
  rw [hcs, hq1, hq2]
  have HX := Lib.hid hx
  have HY := Lib.hid hy
  replace HO := Lib.hid ((HO.out.below hb).mono hb.size)
  replace HR := Lib.hid ((HR.out.below hb).mono hb.size)
  replace HB := Lib.hid (HB.out.trans (hb.mono HB.out.size))
  clear hx hy hb CS hq1 hq2
  by_cases hbo : Re.both 0 s1 s2
  · obtain ⟨p1, rfl⟩ : ∃ p, s1 = some p := Option.isSome_iff_exists.1 hbo.2.1
    obtain ⟨p2, rfl⟩ : ∃ p, s2 = some p := Option.isSome_iff_exists.1 hbo.2.2
    obtain ⟨l1, r1⟩ := p1
    obtain ⟨l2, r2⟩ := p2
    obtain rfl : mm = n := by rw [hmm, if_pos hbo]
    unfold Re.lst at HX HY
    simp only at HX HY
    have HCS : Hid (cs = if eqn mm l1 l2 then 1 else 2) := Lib.hid (by rw [← hcs, Re.cst, if_neg (by simp), if_pos hbo]; rfl)
    have hcs12 : cs = 1 ∨ cs = 2 := by
      rw [HCS.out]
      split
      · exact .inl rfl
      · exact .inr rfl
    have hcs3 : (cs == 3) = false := by rw [beq_eq_false_iff_ne]; omega
    obtain ⟨W6, hW6⟩ : ∃ W, w5.alloc (.cells #[.int .i64 cs, .slice X mm cx, .slice Y mm cy, .int .i64 q1, .int .i64 q2] 30) = W := ⟨_, rfl⟩
    have hb6 : Below w5.heap.size w5 W6 := by rw [← hW6]; exact (Below.refl _ _).alloc (Nat.le_refl _) _
    have hc6 : Has W6 w5.heap.size #[.int .i64 cs, .slice X mm cx, .slice Y mm cy, .int .i64 q1, .int .i64 q2] 30 := by rw [← hW6]; exact Has.new w5 _ _
    have HST : Hid (TopS w g B2 X Y mm m w5.heap.size #[.int .i64 cs, .slice X mm cx, .slice Y mm cy, .int .i64 q1, .int .i64 q2] o l1 l2 R W6) := Lib.hid ⟨HB.out.trans (hb6.mono HB.out.size), (HO.out.below hb6).mono hb6.size, (HR.out.below hb6).mono hb6.size, (HX.out.below hb6).mono hb6.size, (HY.out.below hb6).mono hb6.size, hc6⟩
    obtain ⟨bc, hbc⟩ : ∃ b, w5.heap.size = b := ⟨_, rfl⟩
    rw [hbc] at HST
    have d0 : W6.cell? ⟨bc, 0, none⟩ = some (.int .i64 cs) := HST.out.has.cell 0
    have d1 : W6.cell? ⟨bc, 1, none⟩ = some (.slice X mm cx) := HST.out.has.cell 1
    have d2 : W6.cell? ⟨bc, 2, none⟩ = some (.slice Y mm cy) := HST.out.has.cell 2
    have hbcl := HST.out.has.lt
    have C3 := Lib.hid fun q => (same_any X Y mm cx cy l1 l2 W6.heap.size W6.heap.size (W6.drewN q) (by omega) (HST.out.x.drewN q) (HST.out.y.drewN q))
    obtain ⟨dd, hdd⟩ : ∃ d, decide (eqn mm l1 l2) = d := ⟨_, rfl⟩
    have hg7 : (cs == 1) = dd := by
      rw [← hdd, HCS.out]
      by_cases c : eqn mm l1 l2
      · rw [if_pos c, decide_eq_true c]; rfl
      · rw [if_neg c, decide_eq_false c]; rfl
    rw [hdd] at C3
    clear hb6 hc6 hbo hmm hcs HX HY HO HR HB hdd
    go_wp2_with fail
    clear hW6 hbc
    go_quiet ((go_at_call 8; exact Calls.quiet_of (C3.out _)))
    have HDL : Hid (Cells W6 W6.heap.size AE ne fun j => .int .i64 (ze j)) := Lib.hid ((HDE.out.below HST.out.bel).mono HST.out.bel.size)
    have CN2 : Hid (∀ W, Below W6.heap.size W6 W → Calls Tryz.prog 5 #[.slice AE ne ce] W fun e w' => ∃ be, e = .returned (.pointer (some ⟨be, 0, none⟩)) ∧ W6.heap.size ≤ be ∧ be < w'.heap.size ∧ Below W6.heap.size W6 w' ∧ IsDeck w' be) := Lib.hid fun W hb => (deck_new AE ne ce ze W hne ((HDL.out.below hb).mono hb.size)).mono fun e w' ⟨h1, h2, h3⟩ => ⟨_, h1, hb.size, h3.lt, hb.trans (h2.mono hb.size), h3⟩
    have HVF := Lib.hid (Re.verr_fine HV.out)
    have hm24 : m ≤ 24 := HVF.out.2.2.1
    have HL1 : Hid (Re.lerr mm o m R mm l1 = 0 ∧ (∀ i, i < mm → 0 ≤ Re.net m R l1 i ∧ Re.net m R l1 i ≤ 35184372088832) ∧ Re.tot (Re.net m R l1) mm = Re.tot o mm) := Lib.hid ⟨Re.lerr_ok HV.out (Re.least_range HV.out HS1.out), Re.net_range HV.out (Re.least_range HV.out HS1.out), Re.tot_net HV.out fun i _ => Re.solution HV.out HS1.out i⟩
    have HOR : Hid (∀ i, i < mm → 0 ≤ o i ∧ o i ≤ 35184372088832) := Lib.hid fun i hi => by have := HOB.out i hi; omega
    go_wp2_with fail
    refine (CN2.out _ (by (repeat' (first | (with_reducible exact Below.refl _ _) | (with_reducible refine Below.setCell ?_ ?_ _) | (with_reducible refine below_drewN ?_ _) | (with_reducible refine Below.drew ?_) | (with_reducible refine Below.alloc ?_ ?_ _))) <;> (first | omega | (simp <;> omega)))).mono ?_
    rintro e w8 ⟨be, rfl, hbe, hbl, hb, hd⟩
    clear d0 d1 d2 hbcl C3 CN2 HDL HDE
    obtain ⟨i0, hi0, hz0, hz1, hz2⟩ := info_parts int_info
    obtain ⟨W9, hmk, ho, hg⟩ := run_make_full (P := Tryz.prog) w8 w8.heap.size 22 3 i0 (.int .i64 0) 1 Tryz.underlying22 hi0 hz0 hz1 .i64 .i64 mm (by rw [hz2]; omega) (by unfold maxLen; omega) (Nat.le_refl _)
    have HR0 := Lib.hid (row_zero ho)
    have hgB : Below w8.heap.size w8 W9 := (Below.refl w8.heap.size w8).grown hg (Nat.le_refl _) (fun _ h => by cases h)
    have HB9 : Hid (Below W6.heap.size W6 W9) := Lib.hid (hb.trans (hgB.mono hb.size))
    have HD : Hid (IsDeck W9 be) := Lib.hid (hd.below hgB hd.lt)
    obtain ⟨gb, hgb⟩ : ∃ g, w8.heap.size = g := ⟨_, rfl⟩
    rw [hgb] at HR0
    have HGN : Hid (W6.heap.size ≤ be ∧ be < gb ∧ W6.heap.size ≤ gb) := Lib.hid (by omega)
    clear hi0 hz0 hz1 hz2 ho hg hgB hb hd hbe hbl
    go_wp2_with fail
    clear hmk hgb
    go_loopw [11] (fun i wr => ∃ (k : Nat) (x : Nat → Int), k ≤ mm ∧ i = .int .i64 k ∧ Hid (Row wr gb mm 3 (fun i => .int .i64 (x i))) ∧ Hid (∀ i, i < k → 0 ≤ x i ∧ x i ≤ 17592186044416) ∧ Hid (Below W6.heap.size W6 wr) ∧ Hid (IsDeck wr be)) (fun i _ => mm - (intOf i).toNat)
    case atStart => exact ⟨0, fun _ => 0, Nat.zero_le _, rfl, HR0, Lib.hid fun i hi => absurd hi (by omega), HB9, HD⟩
    case round =>
      clear HR0 HB9 HD
      obtain ⟨k, x, hk, rfl, HR, HX, HB, HD⟩ := hrel
      by_cases hlt : k < mm
      · have hk0 : (0 : Int) ≤ k := by omega
        have hk1 : (k : Int) < mm := by omega
        go_wp2_with fail
        refine (upto_any be _ _ HD.out (by omega) (by omega)).mono ?_
        rintro e wu ⟨y, rfl, y0, y1, hk2, hd2⟩
        replace HR := Lib.hid (HR.out.keeps hk2 (by have := HGN.out; omega))
        replace HB := Lib.hid (HB.out.trans (hk2.below (by have := HGN.out; omega) HB.out.size))
        have hq0 := HR.out.cell k hlt
        have hq1 := HR.out.free k
        have hql := HR.out.lt
        have HX2 : Hid (∀ i, i < k + 1 → 0 ≤ (if i = k then y else x i) ∧ (if i = k then y else x i) ≤ 17592186044416) := Lib.hid fun i hi => by
          by_cases e : i = k
          · rw [if_pos e]; omega
          · rw [if_neg e]; exact HX.out i (by omega)
        have HR2 := Lib.hid (upd_row HR.out k y)
        have HB2 := Lib.hid (HB.out.setCell (p := ⟨gb, k, none⟩) HGN.out.2.2 (.int .i64 y))
        have HD2 := Lib.hid (hd2.far (p := ⟨gb, k, none⟩) (by have := HGN.out; simp only; omega) (.int .i64 y))
        clear hk2 hd2 HD
        go_wp2_with fail
        go_roundw
        case rel => exact ⟨k + 1, _, by omega, by go_num, HR2, HX2, HB2, HD2⟩
        case measure => simp [intOf]; omega
      · have hkn : mm = k := by omega
        subst hkn
        have HXX := Lib.hid (Row.nums HR.out)
        clear hlt HR HD HGN
        go_wp2_with fail
        go_loopw [10, 12, 13, 14, 15, 16, 17] (fun XX r _ _ _ _ _ wr => ∃ (k : Nat) (A3 : Option Addr) (c3 : Nat) (x : Nat → Int), k ≤ 200 ∧ r = .int .i64 k ∧ XX = .slice A3 mm c3 ∧ Hid (Nums wr wr.heap.size A3 mm x) ∧ Hid (∀ i, i < mm → 0 ≤ x i ∧ x i ≤ 17592186044416) ∧ Hid (Below W6.heap.size W6 wr)) (fun _ r _ _ _ _ _ _ => 200 - (intOf r).toNat)
        case atStart => exact ⟨0, _, _, x, Nat.zero_le _, rfl, rfl, HXX, HX, HB⟩
        case round =>
          clear HXX HX HB
          obtain ⟨k, A3, c3, x, hk, rfl, rfl, HXX, HX, HB⟩ := hrel
          have HSW : Hid (TopS w g B2 X Y mm m bc #[.int .i64 cs, .slice X mm cx, .slice Y mm cy, .int .i64 q1, .int .i64 q2] o l1 l2 R wr) := Lib.hid (HST.out.below HB.out)
          by_cases hlt2 : k < 200
          · have hk0 : (0 : Int) ≤ k := by omega
            have hk1 : (k : Int) < 200 := by omega
            have HE : Hid (Re.lerr mm o m R mm x = 0) := Lib.hid (Re.lerr_ok HV.out HX.out)
            have C1 := Lib.hid (iterate_any (some ⟨g, 0, none⟩) mm mm o B2 m k2 R A3 mm c3 x wr (by omega) (by omega) (by omega) HSW.out.own HSW.out.rs HXX.out)
            rw [HE.out] at C1
            go_wp2_with fail
            refine C1.out.mono ?_
            rintro e wi ⟨P, mp, cp, rfl, hb, hmp, hp, _⟩
            rw [if_pos rfl] at hmp
            have hmp' := hmp.symm
            subst hmp'
            have HP := Lib.hid hp
            replace HB := Lib.hid (HB.out.trans (hb.mono HB.out.size))
            replace HXX := Lib.hid ((HXX.out.below hb).mono hb.size)
            replace HSW := Lib.hid (HSW.out.below hb)
            clear hb hp hmp C1
            by_cases heq : eqn mm x (Re.step o m R x)
            · have C2 := Lib.hid (same_any A3 P mm c3 cp x (Re.step o m R x) wi.heap.size wi.heap.size wi (by omega) HXX.out HP.out)
              rw [decide_eq_true heq] at C2
              have HLO : Hid (∀ i, i < mm → l1 i ≤ x i) := Lib.hid ((Re.between HV.out fun i hi => (heq i hi).symm).1 HS1.out)
              have HHI : Hid (∀ i, i < mm → x i ≤ l2 i) := Lib.hid ((Re.between HV.out fun i hi => (heq i hi).symm).2 HS2.out)
              have HTN : Hid ((∀ i, i < mm → 0 ≤ Re.net m R x i ∧ Re.net m R x i ≤ 35184372088832) ∧ Re.tot (Re.net m R x) mm = Re.tot o mm) := Lib.hid ⟨Re.net_range HV.out HX.out, Re.tot_net HV.out fun i hi => (heq i hi).symm⟩
              clear heq HP
              go_wp2_with fail
              refine C2.out.mono ?_
              rintro e wj ⟨rfl, nq, rfl⟩
              go_wp2_with fail
              go_loopw [15] (fun i wr => ∃ q : Nat, q ≤ mm ∧ i = .int .i64 q ∧ ∃ nn, wr = wi.drewN nn) (fun i _ => mm - (intOf i).toNat)
              case atStart => exact ⟨0, Nat.zero_le _, rfl, nq, rfl⟩
              case round =>
                obtain ⟨q, hq, rfl, nn, rfl⟩ := hrel
                by_cases hlt3 : q < mm
                · obtain ⟨b1, f1, rfl, _, hc1⟩ := HXX.out.get hlt3
                  obtain ⟨b2, f2, rfl, _, hc2⟩ := HSW.out.x.get hlt3
                  obtain ⟨b3, f3, rfl, _, hc3⟩ := HSW.out.y.get hlt3
                  have d1 : wi.cell? ⟨bc, 1, none⟩ = some (.slice (some ⟨b2, f2, none⟩) mm cx) := HSW.out.has.cell 1
                  have d2 : wi.cell? ⟨bc, 2, none⟩ = some (.slice (some ⟨b3, f3, none⟩) mm cy) := HSW.out.has.cell 2
                  have h1 := HLO.out q hlt3
                  have h2 := HHI.out q hlt3
                  obtain ⟨xq, hxq⟩ : ∃ u, x q = u := ⟨_, rfl⟩
                  obtain ⟨lq, hlq⟩ : ∃ u, l1 q = u := ⟨_, rfl⟩
                  obtain ⟨uq, huq⟩ : ∃ u, l2 q = u := ⟨_, rfl⟩
                  rw [hxq] at hc1 h1 h2
                  rw [hlq] at hc2 h1
                  rw [huq] at hc3 h2
                  have hq0 : (0 : Int) ≤ q := by omega
                  have hq1 : (q : Int) < mm := by omega
                  have hd1 : decide (xq < lq) = false := by rw [decide_eq_false_iff_not]; omega
                  have hd2 : decide (uq < xq) = false := by rw [decide_eq_false_iff_not]; omega
                  clear hxq hlq huq
                  go_wp2_with fail
                  go_quiet (fail)
                  go_wp2_with fail
                  go_roundw
                  case rel => exact ⟨q + 1, by omega, by go_num, _, by first | rfl | exact World.drewN_drewN _ _ _⟩
                  case measure => simp [intOf]; omega
                · obtain ⟨wn, hwn⟩ : ∃ W, wi.drewN nn = W := ⟨_, rfl⟩
                  have hbn : Below wi.heap.size wi wn := by rw [← hwn]; exact below_drewN (Below.refl _ _) _
                  rw [hwn]
                  have HSN := Lib.hid (HSW.out.below hbn)
                  have HXN := Lib.hid ((HXX.out.below hbn).mono hbn.size)
                  have C4 := Lib.hid (net_any (some ⟨g, 0, none⟩) mm mm o B2 m k2 R A3 mm c3 x wn (by omega) (by omega) (by omega) HSN.out.own HSN.out.rs HXN.out)
                  rw [HE.out] at C4
                  have hq1 : ¬ (q : Int) < mm := by omega
                  clear hbn hwn HSW HXX
                  go_wp2_with fail
                  refine C4.out.mono ?_
                  rintro e wm ⟨PN, mp8, cp8, rfl, hb, hmp, hp, _⟩
                  rw [if_pos rfl] at hmp
                  have hmp' := hmp.symm
                  subst hmp'
                  have HPN := Lib.hid hp
                  have HSM := Lib.hid (HSN.out.below hb)
                  have D1 := Lib.hid (total_any PN mm cp8 (Re.net m R x) wm.heap.size wm (by omega) HPN.out HTN.out.1)
                  have D2 := Lib.hid fun q => (total_any (some ⟨g, 0, none⟩) mm mm o wm.heap.size (wm.drewN q) (by omega) (HSM.out.own.drewN q) HOR.out)
                  rw [HTN.out.2] at D1
                  obtain ⟨T0, hT⟩ : ∃ T, Re.tot o mm = T := ⟨_, rfl⟩
                  rw [hT] at D1 D2
                  clear hT hb hp C4 HPN hmp HTN
                  go_wp2_with fail
                  refine D1.out.mono ?_
                  rintro e w' ⟨rfl, qa, rfl⟩
                  go_wp2_with fail
                  refine (D2.out qa).mono ?_
                  rintro e w' ⟨rfl, qb, rfl⟩
                  obtain ⟨WE, hWE⟩ : ∃ W, (wm.drewN qa).drewN qb = W := ⟨_, rfl⟩
                  have HSE := Lib.hid (HSM.out.below (w' := WE) (by rw [← hWE]; exact below_drewN (below_drewN (Below.refl _ _) _) _))
                  rw [hWE]
                  clear hWE D1 D2 HSM HSN HXN
                  have e1 : WE.cell? ⟨bc, 1, none⟩ = some (.slice X mm cx) := HSE.out.has.cell 1
                  have CT := Lib.hid (net_any (some ⟨g, 0, none⟩) mm mm o B2 m k2 R X mm cx l1 WE (by omega) (by omega) (by omega) HSE.out.own HSE.out.rs HSE.out.x)
                  rw [HL1.out.1] at CT
                  go_wp2_with fail
                  refine CT.out.mono ?_
                  rintro e wt ⟨PT, mp9, cp9, rfl, hb, hmp, hp, _⟩
                  rw [if_pos rfl] at hmp
                  have hmp' := hmp.symm
                  subst hmp'
                  have HPT := Lib.hid hp
                  have HSF := Lib.hid (HSE.out.below hb)
                  have HB := Lib.hid HSF.out.bel
                  have CT1 := Lib.hid (total_any PT mm cp9 (Re.net m R l1) wt.heap.size wt (by omega) HPT.out HL1.out.2.1)
                  have CT2 := Lib.hid fun q => (total_any (some ⟨g, 0, none⟩) mm mm o wt.heap.size (wt.drewN q) (by omega) (HSF.out.own.drewN q) HOR.out)
                  rw [HL1.out.2.2] at CT1
                  obtain ⟨T, hT⟩ : ∃ T, Re.tot o mm = T := ⟨_, rfl⟩
                  rw [hT] at CT1 CT2
                  clear hT hb hp CT e1 HPT hmp
                  go_wp2_with fail
                  refine CT1.out.mono ?_
                  rintro e w' ⟨rfl, qa, rfl⟩
                  go_wp2_with fail
                  refine (CT2.out qa).mono ?_
                  rintro e w' ⟨rfl, qb, rfl⟩
                  go_wp2_with (first | (go_at_call 7; refine (awaket_any _).mono ?_; rintro e w99 ⟨rfl, hb99⟩))
                  go_ret
                  exact ⟨rfl, Below.trans (by repeat' (first | (with_reducible exact HB.out) | (with_reducible refine below_drewN ?_ _) | (with_reducible refine Below.drew ?_))) (hb99.mono (by simp; exact HB.out.size))⟩
            · have C2 := Lib.hid (same_any A3 P mm c3 cp x (Re.step o m R x) wi.heap.size wi.heap.size wi (by omega) HXX.out HP.out)
              rw [decide_eq_false heq] at C2
              have HPB : Hid (∀ i, i < mm → 0 ≤ Re.step o m R x i ∧ Re.step o m R x i ≤ 17592186044416) := Lib.hid fun i hi => by
                have h1 := Re.step_bound o m R x i
                have h2 := HVF.out.2.2.2.1 i hi
                omega
              clear heq HXX HX
              go_wp2_with fail
              refine C2.out.mono ?_
              rintro e wj ⟨rfl, nq, rfl⟩
              have HP2 : Hid (Nums (wi.drewN nq) (wi.drewN nq).heap.size P mm (Re.step o m R x)) := Lib.hid (HP.out.drewN nq)
              have HB2 : Hid (Below W6.heap.size W6 (wi.drewN nq)) := Lib.hid (below_drewN HB.out nq)
              clear HP HB C2
              go_wp2_with fail
              go_roundw
              case rel => exact ⟨k + 1, P, cp, _, by omega, by go_num, rfl, HP2, HPB, HB2⟩
              case measure => simp [intOf]; omega
          · have hk1 : ¬ (k : Int) < 200 := by omega
            have e1 : wr.cell? ⟨bc, 1, none⟩ = some (.slice X mm cx) := HSW.out.has.cell 1
            have CT := Lib.hid (net_any (some ⟨g, 0, none⟩) mm mm o B2 m k2 R X mm cx l1 wr (by omega) (by omega) (by omega) HSW.out.own HSW.out.rs HSW.out.x)
            rw [HL1.out.1] at CT
            go_wp2_with fail
            refine CT.out.mono ?_
            rintro e wt ⟨PT, mp9, cp9, rfl, hb, hmp, hp, _⟩
            rw [if_pos rfl] at hmp
            have hmp' := hmp.symm
            subst hmp'
            have HPT := Lib.hid hp
            have HSF := Lib.hid (HSW.out.below hb)
            have HB := Lib.hid HSF.out.bel
            have CT1 := Lib.hid (total_any PT mm cp9 (Re.net m R l1) wt.heap.size wt (by omega) HPT.out HL1.out.2.1)
            have CT2 := Lib.hid fun q => (total_any (some ⟨g, 0, none⟩) mm mm o wt.heap.size (wt.drewN q) (by omega) (HSF.out.own.drewN q) HOR.out)
            rw [HL1.out.2.2] at CT1
            obtain ⟨T, hT⟩ : ∃ T, Re.tot o mm = T := ⟨_, rfl⟩
            rw [hT] at CT1 CT2
            clear hT hb hp CT e1 HPT hmp
            go_wp2_with fail
            refine CT1.out.mono ?_
            rintro e w' ⟨rfl, qa, rfl⟩
            go_wp2_with fail
            refine (CT2.out qa).mono ?_
            rintro e w' ⟨rfl, qb, rfl⟩
            go_wp2_with (first | (go_at_call 7; refine (awaket_any _).mono ?_; rintro e w99 ⟨rfl, hb99⟩))
            go_ret
            exact ⟨rfl, Below.trans (by repeat' (first | (with_reducible exact HB.out) | (with_reducible refine below_drewN ?_ _) | (with_reducible refine Below.drew ?_))) (hb99.mono (by simp; exact HB.out.size))⟩
  · have hcs' : cs = 3 := by rw [← hcs, Re.cst, if_neg (by simp), if_neg hbo]
    subst hcs'
    clear hbo hmm HS1 HS2 HX HY HV HO HR
    go_wp2_with (first | (go_at_call 7; refine (awaket_any _).mono ?_; rintro e w99 ⟨rfl, hb99⟩))
    go_ret
    exact ⟨rfl, (HB.out.alloc HB.out.size _).trans (hb99.mono (by simp; exact Nat.le_succ_of_le HB.out.size))⟩

set_option maxRecDepth 100000 in
theorem lifted (os : Os) (started : os.Started) (H : Type) (enc : TypeId × Value → H) :
    ReturnsInHanded {} Tryz.checked os 3 .any (Rows.topCircleSpec.pre6 enc Tryz.prog Tryz.f3 Rows.topCircleRow.domain false) (Rows.topCircleSpec.post enc Tryz.prog Tryz.f3 false true false false) := by
  refine returnsInHanded_of_change (C := Tryz.checked) own started (by kernel_rfl) Tryz.func3
    (ChangeSpec.witness6 (enc := enc) (C := Tryz.checked) false ⟨#[], #[.slice none 0 0, .slice none 0 0], []⟩ 8 (by kernel_rfl) (by kernel_rfl) (by kernel_rfl) (by kernel_rfl)) ?_
  intro W base args ds gs before hval0 hW hcnd _
  have hval : ∀ (j : Nat) t v, Tryz.f3.params[j]? = some t → args[j]? = some v → Value.okWide Tryz.prog W .any base t v := hval0
  have hW' := hW
  obtain ⟨p, q, hA0, hV, rfl, hfz, hnd⟩ := hW
  have hA : DataW.TrodAll enc Tryz.prog W 0 (fun _ => true) true Tryz.f3.params.toList args.toList ds p := hA0
  rw [Tryz.params3] at hA hval
  obtain ⟨v0, vs0, d0, ds0, p0, q0, hargs, rfl, rfl, h0, r0⟩ := trodAll_cons hA
  obtain ⟨v1, vs1, d1, ds1, p1, q1, rfl, rfl, rfl, h1, r1⟩ := trodAll_cons r0
  obtain ⟨rfl, rfl, rfl⟩ := trodAll_nil r1
  obtain rfl : args = #[v0, v1] := by cases args; simp_all
  obtain ⟨rfl, rfl⟩ := trodVars_none hV
  have k0 := h0
  have lt0 : ∀ x ∈ p0, x.block < W.heap.size := by obtain ⟨m, hm⟩ := k0; exact DataW.trod_lt m _ _ _ hm
  obtain ⟨a0, len0, cap0, rfl⟩ := okWide_slice Tryz.underlying22 (hval 0 22 v0 rfl rfl)
  have r100 : Rd22 W [.slice a0 len0 cap0] := by obtain ⟨fuel, hf⟩ := h0; exact rd22 hf
  have k1 := h1
  have lt1 : ∀ x ∈ p1, x.block < W.heap.size := by obtain ⟨m, hm⟩ := k1; exact DataW.trod_lt m _ _ _ hm
  obtain ⟨a1, len1, cap1, rfl⟩ := okWide_slice Tryz.underlying22 (hval 1 22 v1 rfl rfl)
  have r101 : Rd22 W [.slice a1 len1 cap1] := by obtain ⟨fuel, hf⟩ := h1; exact rd22 hf
  clear hA0 hval0
  refine (walk _ _ W r100 r101).mono fun e W' ⟨he, bel⟩ => ?_
  subst he
  exact ⟨_, rfl, _, _, _, [], _, [], hW', trodAll_mk1 (shut_bool Tryz.underlying4 _), (trodAll_cons_mk (Below.trod laidOut (by kernel_rfl) (of_decide_eq_true (by kernel_rfl)) k0 bel lt0) (trodAll_cons_mk (Below.trod laidOut (by kernel_rfl) (of_decide_eq_true (by kernel_rfl)) k1 bel lt1) trodAll_mk0)), rfl, bel.frame _, fun h => by cases h⟩

theorem over : Rows.topCircleRow.holds Tryz.pinned (OpenSpec.ofChange Rows.topCircleSpec) :=
  OpenClaim.holds_of_wide 3 Tryz.f3 rfl rfl rfl rfl rfl rfl rfl ⟨rfl, rfl, rfl, rfl, rfl⟩ rfl rfl rfl rfl rfl (by kernel_rfl) Tryz.func3 closed
    (of_decide_eq_true (by kernel_rfl)) (by unfold Func.isWrapper; first | (rw [if_pos (by decide +kernel)]; kernel_rfl) | (rw [if_neg (by decide +kernel)]; exact ⟨rfl, rfl⟩))
    (fun os started H enc _ => lifted os started H enc)

/-- the statement -/
theorem proved : Rows.TopCircleSaid := over
#print axioms proved
end Go.Proofs.YtbeikfopneeodaaGreat.topCircle
