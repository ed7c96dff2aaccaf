/- The law RetroBetween: every solution lies between the least and the greatest one, and is the only one if they are equal. No condition. -/
import Derived.Test.YtdfajopniflaaaaRows
import Derived.Test.YtdfajopniflaaaaRead
import Derived.Test.YtdfajopniflaaaaReAw
import Derived.Test.YtdfajopniflaaaaReArgs
import Derived.WalkKit
import Derived.ProofKit
import Derived.OpenShut
import Derived.ShutString
import Derived.ChangeOld
import Derived.Below
namespace Go.Proofs.Ytdfajopniflaaaa.retroBetween
open Go.ChangeShapes Go.WideShapes Go.ChangeAt Go.RowKit
set_option linter.unusedVariables false

theorem own : ownKnob Try.prog.godebug = none := by kernel_rfl
theorem laidOut : laidOutB Try.prog = true := by kernel_rfl

/-- what holds at the head of every round -/
structure Rnd (w : World) (A A2 : Option Addr) (n m : Nat) (o : Nat → Int) (R : Nat → Re.Rt) (wr : World) : Prop where
  bel : Below w.heap.size w wr
  own : Nums wr wr.heap.size A n o
  rs : Rets wr wr.heap.size A2 m R
theorem Rnd.below {w : World} {A A2 : Option Addr} {n m : Nat} {o : Nat → Int} {R : Nat → Re.Rt} {wr w' : World} (h : Rnd w A A2 n m o R wr) (hb : Below wr.heap.size wr w') : Rnd w A A2 n m o R w' :=
  ⟨h.bel.trans (hb.mono h.bel.size), (h.own.below hb).mono hb.size, (h.rs.below hb).mono hb.size⟩

set_option maxHeartbeats 4000000 in
set_option maxRecDepth 100000 in
theorem walk (v0 : Value) (v1 : Value) (w : World) (h0 : Rd22 w [v0]) (h1 : Rd5 w [v1]) :
    Calls Try.prog 5 #[v0, v1] w fun e w' => e = .returned (.bool true) ∧ Below w.heap.size w w' := by
  obtain ⟨AD, nd, cd, zd, rfl, hnd, _, _, hdc, _⟩ := rd_ints h0
  obtain ⟨st0, rfl, st00, st01⟩ := rd_u8 h1
  obtain ⟨st, rfl⟩ : ∃ n : Nat, st0 = n := ⟨st0.toNat, by omega⟩
  have HDC := Lib.hid hdc
  clear h0 h1 hdc
  obtain ⟨bd, hbd⟩ : ∃ b, w.heap.size = b := ⟨_, rfl⟩
  have CN := Lib.hid (new2_any AD nd cd zd w hnd HDC.out)
  rw [hbd] at CN
  go_enter Try.func5, Try.ntmps5
  go_wp2_with fail
  refine CN.out.mono ?_
  rintro e w1 ⟨rfl, hb, hd⟩
  have HB : Hid (Below w.heap.size w w1) := Lib.hid (by rw [hbd]; exact hb)
  have HD := Lib.hid hd
  clear hb hd HDC CN
  go_wp2_with fail
  refine (retros_any _ _ HD.out).mono ?_
  intro e w2 hpost
  obtain ⟨g, n, m, B2, k2, o, R, rfl, hn1, hn5, hm6, hg, _, _, ho1, hr1, hB2, hob, _, hV1, hk, hd⟩ := retros_use hpost HD.out.lt
  have hbl := HD.out.lt
  replace HB : Hid (Below w.heap.size w w2) := Lib.hid (HB.out.trans (hk.below (by omega) HB.out.size))
  replace HD := Lib.hid hd
  have HO := Lib.hid ho1
  have HR := Lib.hid hr1
  have HV := Lib.hid hV1
  have HB2 : Hid (∀ ad, B2 = some ad → ad.block ≠ bd) := Lib.hid fun ad e => by have := (hB2 ad e).1; omega
  have hgb : g ≠ bd := by omega
  clear hpost hk hd ho1 hr1 hV1 hB2 hob
  go_wp2_with fail
  refine (list39_any _ (some ⟨g, 0, none⟩) n n o B2 m k2 R w2 HD.out HV.out HO.out HR.out (fun ad e => by injection e with e; subst e; exact hgb) HB2.out).mono ?_
  rintro e w3 ⟨gz, x0, rfl, hgz, hz, hzb, hk, hd⟩
  have HRN : Hid (Rnd w (some ⟨g, 0, none⟩) B2 n m o R w3) := Lib.hid ⟨HB.out.trans (hk.below (by omega) HB.out.size), HO.out.keeps_ne hk (fun ad e => by injection e with e; subst e; exact hgb), HR.out.keeps_ne hk HB2.out⟩
  have HX := Lib.hid hz.nums
  have HXB : Hid (∀ i, i < n → 0 ≤ x0 i ∧ x0 i ≤ 17592186044416) := Lib.hid fun i hi => by
    have h1 := hzb i hi
    have h2 := Re.top_bound HV.out i hi
    have h3 := (Re.verr_fine HV.out).2.2.2.1 i hi
    omega
  clear hk hd hz hzb HD HB2 HB HO HR
  have hconv : IntKind.i64.wrap (st : Int) = st := by rw [IntKind.wrap_i64]; omega
  go_wp2_with fail
  go_loopw [8, 9] (fun X i wr => ∃ (k : Nat) (A3 : Option Addr) (c3 : Nat) (x : Nat → Int), k ≤ st ∧ i = .int .i64 k ∧ X = .slice A3 n c3 ∧ Hid (Nums wr wr.heap.size A3 n x) ∧ Hid (∀ i, i < n → 0 ≤ x i ∧ x i ≤ 17592186044416) ∧ Hid (Rnd w (some ⟨g, 0, none⟩) B2 n m o R wr)) (fun _ i _ => st - (intOf i).toNat)
  case atStart => exact ⟨0, _, _, x0, Nat.zero_le _, rfl, rfl, HX, HXB, HRN⟩
  case round =>
    clear HX HXB HRN
    obtain ⟨k, A3, c3, x, hk, rfl, rfl, HX, HXB, HRN⟩ := hrel
    have HE : Hid (Re.lerr n o m R n x = 0) := Lib.hid (Re.lerr_ok HV.out HXB.out)
    by_cases hlt : k < st
    · have C1 := Lib.hid (riterate_any (some ⟨g, 0, none⟩) n n o B2 m k2 R A3 n c3 x wr (by omega) (by omega) (by omega) HRN.out.own HRN.out.rs HX.out)
      rw [HE.out] at C1
      have hki : (k : Int) < st := by omega
      go_wp2_with fail
      refine C1.out.mono ?_
      rintro e w5 ⟨P, mp, cp, rfl, hb, hmp, hp, _⟩
      rw [if_pos rfl] at hmp
      subst hmp
      have HP := Lib.hid hp
      replace HRN := Lib.hid (HRN.out.below hb)
      have HPB : Hid (∀ i, i < mp → 0 ≤ Re.step o m R x i ∧ Re.step o m R x i ≤ 17592186044416) := Lib.hid fun i hi => by
        have h1 := Re.step_bound o m R x i
        have h2 := (Re.verr_fine HV.out).2.2.2.1 i hi
        omega
      clear hb hp C1 HX HXB HE
      go_wp2_with fail
      go_roundw
      case rel => exact ⟨k + 1, P, cp, _, by omega, by go_num, rfl, HP, HPB, HRN⟩
      case measure => simp [intOf]; omega
    · have CS := Lib.hid (solve_any (some ⟨g, 0, none⟩) n n o B2 m k2 R wr (by omega) (by omega) HRN.out.own HRN.out.rs)
      rw [HV.out] at CS
      obtain ⟨s1, hs1⟩ : ∃ s, Re.least n o m R = s := ⟨_, rfl⟩
      obtain ⟨s2, hs2⟩ : ∃ s, Re.greatest n o m R = s := ⟨_, rfl⟩
      rw [hs1, hs2] at CS
      have HS1 := Lib.hid hs1
      have HS2 := Lib.hid hs2
      clear hs1 hs2
      have hki : ¬ (k : Int) < st := by omega
      go_wp2_with fail
      refine CS.out.mono ?_
      rintro e w5 ⟨X, Y, mm, cx, cy, rfl, hb, hmm, hx, hy⟩
      have HMM := Lib.hid hmm
      have HLX := Lib.hid hx
      have HLY := Lib.hid hy
      replace HRN := Lib.hid (HRN.out.below hb)
      replace HX := Lib.hid ((HX.out.below hb).mono hb.size)
      clear hmm hx hy hb CS
      obtain ⟨cs, hcs⟩ : ∃ c, Re.cst n 0 s1 s2 = c := ⟨_, rfl⟩
      obtain ⟨q1, hq1⟩ : ∃ q, Re.crn 0 s1 s2 (Re.rnd s1) = q := ⟨_, rfl⟩
      obtain ⟨q2, hq2⟩ : ∃ q, Re.crn 0 s1 s2 (Re.rnd s2) = q := ⟨_, rfl⟩
      rw [hcs, hq1, hq2]
      have HCS := Lib.hid hcs
      clear hcs hq1 hq2
      obtain ⟨W6, hW6⟩ : ∃ W, w5.alloc (.cells #[.int .i64 cs, .slice X mm cx, .slice Y mm cy, .int .i64 q1, .int .i64 q2] 36) = W := ⟨_, rfl⟩
      have hb6 : Below w5.heap.size w5 W6 := by rw [← hW6]; exact (Below.refl _ _).alloc (Nat.le_refl _) _
      have HC : Hid (Has W6 w5.heap.size #[.int .i64 cs, .slice X mm cx, .slice Y mm cy, .int .i64 q1, .int .i64 q2] 36) := Lib.hid (by rw [← hW6]; exact Has.new w5 _ _)
      replace HRN := Lib.hid (HRN.out.below hb6)
      replace HX := Lib.hid ((HX.out.below hb6).mono hb6.size)
      replace HLX := Lib.hid ((HLX.out.below hb6).mono hb6.size)
      replace HLY := Lib.hid ((HLY.out.below hb6).mono hb6.size)
      obtain ⟨bc, hbc⟩ : ∃ b, w5.heap.size = b := ⟨_, rfl⟩
      rw [hbc] at HC
      have C2 := Lib.hid (iterate_any (some ⟨g, 0, none⟩) n n o B2 m k2 R A3 n c3 x W6 (by omega) (by omega) (by omega) HRN.out.own HRN.out.rs HX.out)
      rw [HE.out] at C2
      clear hb6
      go_wp2_with fail
      clear hW6 hbc
      refine C2.out.mono ?_
      rintro e w7 ⟨P, mp, cp, rfl, hb, hmp, hp, _⟩
      rw [if_pos rfl] at hmp
      subst hmp
      have HP := Lib.hid hp
      replace HRN := Lib.hid (HRN.out.below hb)
      replace HX := Lib.hid ((HX.out.below hb).mono hb.size)
      replace HLX := Lib.hid ((HLX.out.below hb).mono hb.size)
      replace HLY := Lib.hid ((HLY.out.below hb).mono hb.size)
      replace HC := Lib.hid (HC.out.below hb HC.out.lt)
      have HB := Lib.hid HRN.out.bel
      clear hb hp C2 HE HRN
      obtain ⟨d0, d1, d2⟩ := HC.out.rules
      by_cases hbo : Re.both 0 s1 s2
      · obtain ⟨p1, rfl⟩ : ∃ p, s1 = some p := Option.isSome_iff_exists.1 hbo.2.1
        obtain ⟨p2, rfl⟩ : ∃ p, s2 = some p := Option.isSome_iff_exists.1 hbo.2.2
        obtain ⟨l1, r1⟩ := p1
        obtain ⟨l2, r2⟩ := p2
        obtain rfl : mm = mp := by rw [HMM.out, if_pos hbo]
        unfold Re.lst at HLX HLY
        simp only at HLX HLY
        have HCS2 : Hid (cs = if eqn mm l1 l2 then 1 else 2) := Lib.hid (by rw [← HCS.out, Re.cst, if_neg (by simp), if_pos hbo]; rfl)
        have hcs : cs = 1 ∨ cs = 2 := by
          rw [HCS2.out]
          split
          · exact .inl rfl
          · exact .inr rfl
        have hcs3 : (cs == 3) = false := by rw [beq_eq_false_iff_ne]; omega
        by_cases heq : eqn mm x (Re.step o m R x)
        · have C3 := Lib.hid (same_any A3 P mm c3 cp x (Re.step o m R x) w7.heap.size w7.heap.size w7 (by omega) HX.out HP.out)
          rw [decide_eq_true heq] at C3
          have HLO : Hid (∀ i, i < mm → l1 i ≤ x i) := Lib.hid ((Re.between HV.out fun i hi => (heq i hi).symm).1 HS1.out)
          have HHI : Hid (∀ i, i < mm → x i ≤ l2 i) := Lib.hid ((Re.between HV.out fun i hi => (heq i hi).symm).2 HS2.out)
          clear heq hbo HMM HCS HP HV HS1 HS2
          go_wp2_with fail
          refine C3.out.mono ?_
          rintro e w8 ⟨rfl, nq, rfl⟩
          go_wp2_with fail
          go_loopw [14, 84] (fun _ i wr => ∃ q : Nat, q ≤ mm ∧ i = .int .i64 q ∧ ∃ nn, wr = w7.drewN nn) (fun _ i _ => mm - (intOf i).toNat)
          case atStart => exact ⟨0, Nat.zero_le _, rfl, nq, rfl⟩
          case round =>
            obtain ⟨q, hq, rfl, nn, rfl⟩ := hrel
            by_cases hlt2 : q < mm
            · obtain ⟨b1, f1, rfl, _, hc1⟩ := HX.out.get hlt2
              obtain ⟨b2, f2, rfl, _, hc2⟩ := HLX.out.get hlt2
              obtain ⟨b3, f3, rfl, _, hc3⟩ := HLY.out.get hlt2
              have h1 := HLO.out q hlt2
              have h2 := HHI.out q hlt2
              obtain ⟨xq, hxq⟩ : ∃ u, x q = u := ⟨_, rfl⟩
              obtain ⟨lq, hlq⟩ : ∃ u, l1 q = u := ⟨_, rfl⟩
              obtain ⟨uq, huq⟩ : ∃ u, l2 q = u := ⟨_, rfl⟩
              rw [hxq] at hc1 h1 h2
              rw [hlq] at hc2 h1
              rw [huq] at hc3 h2
              have hq0 : (0 : Int) ≤ q := by omega
              have hq1 : (q : Int) < mm := by omega
              have hd1 : decide (xq < lq) = false := by rw [decide_eq_false_iff_not]; omega
              have hd2 : decide (uq < xq) = false := by rw [decide_eq_false_iff_not]; omega
              clear hxq hlq huq
              go_wp2_with fail
              go_quiet (fail)
              go_wp2_with fail
              go_roundw
              case rel => exact ⟨q + 1, by omega, by go_num, _, by first | rfl | exact World.drewN_drewN _ _ _⟩
              case measure => simp [intOf]; omega
            · rcases hcs with rfl | rfl
              · have heq2 : eqn mm l1 l2 := by
                  by_cases c : eqn mm l1 l2
                  · exact c
                  · have := HCS2.out
                    rw [if_neg c] at this
                    omega
                have HXL : Hid (eqn mm x l1) := Lib.hid fun i hi => by have h1 := HLO.out i hi; have h2 := HHI.out i hi; have h3 := heq2 i hi; omega
                have C4 := Lib.hid (same_any A3 X mm c3 cx x l1 w7.heap.size w7.heap.size (w7.drewN nn) (by omega) (HX.out.drewN nn) (HLX.out.drewN nn))
                rw [decide_eq_true HXL.out] at C4
                clear heq2
                go_wp2_with fail
                refine C4.out.mono ?_
                rintro e w9 ⟨rfl, nq2, rfl⟩
                go_wp2_with (first | (go_at_call 9; refine (awake39_any _).mono ?_; rintro e w99 ⟨rfl, hb99⟩))
                go_ret
                exact ⟨rfl, Below.trans (by repeat' (first | (with_reducible exact HB.out) | (with_reducible refine below_drewN ?_ _) | (with_reducible refine Below.drew ?_))) (hb99.mono (by simp; exact HB.out.size))⟩
              · go_wp2_with (first | (go_at_call 9; refine (awake39_any _).mono ?_; rintro e w99 ⟨rfl, hb99⟩))
                go_ret
                exact ⟨rfl, Below.trans (by repeat' (first | (with_reducible exact HB.out) | (with_reducible refine below_drewN ?_ _) | (with_reducible refine Below.drew ?_))) (hb99.mono (by simp; exact HB.out.size))⟩
        · have C3 := Lib.hid (same_any A3 P mm c3 cp x (Re.step o m R x) w7.heap.size w7.heap.size w7 (by omega) HX.out HP.out)
          rw [decide_eq_false heq] at C3
          clear heq hbo HMM HCS HP HV HS1 HS2
          go_wp2_with fail
          refine C3.out.mono ?_
          rintro e w8 ⟨rfl, nq, rfl⟩
          go_wp2_with (first | (go_at_call 9; refine (awake39_any _).mono ?_; rintro e w99 ⟨rfl, hb99⟩))
          go_ret
          exact ⟨rfl, Below.trans (by repeat' (first | (with_reducible exact HB.out) | (with_reducible refine below_drewN ?_ _) | (with_reducible refine Below.drew ?_))) (hb99.mono (by simp; exact HB.out.size))⟩
      · have hcs : cs = 3 := by rw [← HCS.out, Re.cst, if_neg (by simp), if_neg hbo]
        subst hcs
        clear hbo HMM HCS HP HV HS1 HS2 HX HLX HLY
        go_wp2_with (first | (go_at_call 9; refine (awake39_any _).mono ?_; rintro e w99 ⟨rfl, hb99⟩))
        go_ret
        exact ⟨rfl, HB.out.trans (hb99.mono HB.out.size)⟩

set_option maxRecDepth 100000 in
theorem lifted (os : Os) (started : os.Started) (H : Type) (enc : TypeId × Value → H) :
    ReturnsInHanded {} Try.checked os 5 .any (Rows.retroBetweenSpec.pre6 enc Try.prog Try.f5 Rows.retroBetweenRow.domain false) (Rows.retroBetweenSpec.post enc Try.prog Try.f5 false true false false) := by
  refine returnsInHanded_of_change (C := Try.checked) own started (by kernel_rfl) Try.func5
    (ChangeSpec.witness6 (enc := enc) (C := Try.checked) false ⟨#[], #[.slice none 0 0, .int .u8 0], []⟩ 8 (by kernel_rfl) (by kernel_rfl) (by kernel_rfl) (by kernel_rfl)) ?_
  intro W base args ds gs before hval0 hW hcnd _
  have hval : ∀ (j : Nat) t v, Try.f5.params[j]? = some t → args[j]? = some v → Value.okWide Try.prog W .any base t v := hval0
  have hW' := hW
  obtain ⟨p, q, hA0, hV, rfl, hfz, hnd⟩ := hW
  have hA : DataW.TrodAll enc Try.prog W 0 (fun _ => true) true Try.f5.params.toList args.toList ds p := hA0
  rw [Try.params5] at hA hval
  obtain ⟨v0, vs0, d0, ds0, p0, q0, hargs, rfl, rfl, h0, r0⟩ := trodAll_cons hA
  obtain ⟨v1, vs1, d1, ds1, p1, q1, rfl, rfl, rfl, h1, r1⟩ := trodAll_cons r0
  obtain ⟨rfl, rfl, rfl⟩ := trodAll_nil r1
  obtain rfl : args = #[v0, v1] := by cases args; simp_all
  obtain ⟨rfl, rfl⟩ := trodVars_none hV
  have k0 := h0
  have lt0 : ∀ x ∈ p0, x.block < W.heap.size := by obtain ⟨m, hm⟩ := k0; exact DataW.trod_lt m _ _ _ hm
  obtain ⟨a0, len0, cap0, rfl⟩ := okWide_slice Try.underlying22 (hval 0 22 v0 rfl rfl)
  have r100 : Rd22 W [.slice a0 len0 cap0] := by obtain ⟨fuel, hf⟩ := h0; exact rd22 hf
  have k1 := h1
  have lt1 : ∀ x ∈ p1, x.block < W.heap.size := by obtain ⟨m, hm⟩ := k1; exact DataW.trod_lt m _ _ _ hm
  obtain ⟨a1, rfl⟩ := okWide_int Try.underlying5 (hval 1 5 v1 rfl rfl)
  have r101 : Rd5 W [.int .u8 a1] := by obtain ⟨fuel, hf⟩ := h1; exact rd5 hf
  clear hA0 hval0
  refine (walk _ _ W r100 r101).mono fun e W' ⟨he, bel⟩ => ?_
  subst he
  exact ⟨_, rfl, _, _, _, [], _, [], hW', trodAll_mk1 (shut_bool Try.underlying4 _), (trodAll_cons_mk (Below.trod laidOut (by kernel_rfl) (of_decide_eq_true (by kernel_rfl)) k0 bel lt0) (trodAll_cons_mk (Below.trod laidOut (by kernel_rfl) (of_decide_eq_true (by kernel_rfl)) k1 bel lt1) trodAll_mk0)), rfl, bel.frame _, fun h => by cases h⟩

theorem over : Rows.retroBetweenRow.holds Try.pinned (OpenSpec.ofChange Rows.retroBetweenSpec) :=
  OpenClaim.holds_of_wide 5 Try.f5 rfl rfl rfl rfl rfl rfl rfl ⟨rfl, rfl, rfl, rfl, rfl⟩ rfl rfl rfl rfl rfl (by kernel_rfl) Try.func5 (by kernel_rfl)
    (of_decide_eq_true (by kernel_rfl)) (by unfold Func.isWrapper; first | (rw [if_pos (by decide +kernel)]; kernel_rfl) | (rw [if_neg (by decide +kernel)]; exact ⟨rfl, rfl⟩))
    (fun os started H enc _ => lifted os started H enc)

/-- the statement -/
theorem proved : Rows.RetroBetweenSaid := over
#print axioms proved
end Go.Proofs.Ytdfajopniflaaaa.retroBetween
