/- The law AdjustCheck: Check accepts the adjustment of an item, and no other one, for every input. No condition. -/
import Derived.Test.YtageedgbkaknnaaRows
import Derived.Test.YtageedgbkaknnaaRead
import Derived.Test.YtageedgbkaknnaaAdjChk
import Derived.Deep.DeepCutAuto
import Derived.Deep.CutBlock
import Derived.WalkKit
import Derived.ProofKit
import Derived.OpenShut
import Derived.ShutString
import Derived.ChangeOld
import Derived.Below
namespace Go.Proofs.Ytageedgbkaknnaa.adjustCheck
open Go.ChangeShapes Go.WideShapes Go.ChangeAt Go.RowKit
set_option linter.unusedVariables false

theorem own : ownKnob Try.prog.godebug = none := by kernel_rfl
theorem laidOut : laidOutB Try.prog = true := by kernel_rfl



set_option maxHeartbeats 4000000 in
set_option maxRecDepth 100000 in
theorem walk (c0 : List Value) (c1 : List Value) (c2 : List Value) (v3 : Value) (v4 : Value) (w : World) (h0 : Rd23 w c0) (h1 : Rd26 w c1) (h2 : Rd28 w c2) (h3 : Rd24 w [v3]) (h4 : Rd3 w [v4]) :
    Calls Try.prog 7 #[.agg c0.toArray, .agg c1.toArray, .agg c2.toArray, v3, v4] w fun e w' => e = .returned (.bool true) ∧ Below w.heap.size w w' := by
  obtain ⟨x0, x1, x2, x3, x4, x5, rfl, e0, e1, e2, e3, e4, e5⟩ := h0
  obtain ⟨v, rfl, _, _⟩ := rd_i64 e0
  obtain ⟨l, rfl, _, _⟩ := rd_i64 e1
  obtain ⟨de, rfl, _, _⟩ := rd_i64 e2
  obtain ⟨fr, rfl, _, _⟩ := rd_i64 e3
  obtain ⟨co, rfl, _, _⟩ := rd_i64 e4
  obtain ⟨av, rfl⟩ := rd_bool e5
  obtain ⟨y0, y1, y2, y3, rfl, f0, f1, f2, f3⟩ := h1
  obtain ⟨A0, n0, c0, _, rfl, _⟩ := rd_ints f0
  obtain ⟨va, rfl, _, _⟩ := rd_i64 f1
  obtain ⟨su, rfl, _, _⟩ := rd_i64 f2
  obtain ⟨gr, rfl, _, _⟩ := rd_i64 f3
  obtain ⟨z0, z1, z2, z3, z4, z5, z6, z7, z8, rfl, g0, g1, g2, g3, g4, g5, g6, g7, g8⟩ := h2
  obtain ⟨i0, rfl, _, _⟩ := rd_i64 g0
  obtain ⟨i1, rfl, _, _⟩ := rd_i64 g1
  obtain ⟨i2, rfl, _, _⟩ := rd_i64 g2
  obtain ⟨i3, rfl, _, _⟩ := rd_i64 g3
  obtain ⟨i4, rfl, _, _⟩ := rd_i64 g4
  obtain ⟨i5, rfl, _, _⟩ := rd_i64 g5
  obtain ⟨i6, rfl, _, _⟩ := rd_i64 g6
  obtain ⟨i7, rfl, _, _⟩ := rd_i64 g7
  obtain ⟨i8, rfl, _, _⟩ := rd_i64 g8
  obtain ⟨A, n, c, z, rfl, hn, _, _, hc, _⟩ := rd_ints h3
  obtain ⟨num, rfl, _, _⟩ := rd_i64 h4
  have HC := Lib.hid hc
  clear e0 e1 e2 e3 e4 e5 f0 f1 f2 f3 h3 h4 hc g0 g1 g2 g3 g4 g5 g6 g7 g8
  obtain ⟨⟨g, u, a, f, d, k, o, s, t⟩, hR⟩ : ∃ R, Ad.res ⟨v, l, de, fr, co, av⟩ ⟨va, su, gr⟩ = R := ⟨_, rfl⟩
  obtain ⟨er, he⟩ : ∃ R, Ad.err ⟨v, l, de, fr, co, av⟩ ⟨va, su, gr⟩ = R := ⟨_, rfl⟩
  have CR := radjust_c v l de fr co av A0 n0 c0 va su gr g u a f d k o s t er hR he
  have CK1 := check_c v l de fr co av A0 n0 c0 va su gr i0 i1 i2 i3 i4 i5 i6 i7 i8 g u a f d k o s t er he hR (decide (er = 0 ∧ i0 = g ∧ i1 = u ∧ i2 = a ∧ i3 = f ∧ i4 = d ∧ i5 = k ∧ i6 = o ∧ i7 = s ∧ i8 = t)) (by rw [decide_eq_true_iff])
  have CK2 := check_c v l de fr co av A0 n0 c0 va su gr g u a f d k o s t g u a f d k o s t er he hR (er == 0) (by simp)
  obtain ⟨q, hq⟩ : ∃ q, decide (er = 0 ∧ i0 = g ∧ i1 = u ∧ i2 = a ∧ i3 = f ∧ i4 = d ∧ i5 = k ∧ i6 = o ∧ i7 = s ∧ i8 = t) = q := ⟨_, rfl⟩
  rw [hq] at CK1
  have HQ := Lib.hid hq
  clear hR he hq
  go_enter Try.func7, Try.ntmps7
  go_wp2_with fail
  refine (CR.out _).mono ?_
  rintro e w1 ⟨rfl, hb⟩
  have HB : Hid (Below w.heap.size w w1) := Lib.hid ((((((Below.refl w.heap.size w).alloc (Nat.le_refl _) _).alloc (by simp) _).alloc (by simp; omega) _)).trans (hb.mono (by simp; omega)))
  have HD := Lib.hid ((((Has.new w _ _).alloc _).alloc _).below hb (by simp; omega))
  have HX := Lib.hid (((Has.new' (w.alloc _) (w.heap.size + 1) _ _ (by simp)).alloc _).below hb (by simp <;> omega))
  have HA := Lib.hid ((Has.new' ((w.alloc _).alloc _) (w.heap.size + 1 + 1) _ _ (by simp)).below hb (by simp))
  clear hb CR
  obtain ⟨d0, d1, d2⟩ := HD.out.rules
  obtain ⟨x0, x1, x2⟩ := HX.out.rules
  obtain ⟨a0, a1, a2⟩ := HA.out.rules
  go_upto_region 2 with (fail)
  have hs1 := HB.out.size
  obtain ⟨W, hW⟩ : ∃ W, (w1.alloc (.cells #[.int .i64 g, .int .i64 u, .int .i64 a, .int .i64 f, .int .i64 d, .int .i64 k, .int .i64 o, .int .i64 s, .int .i64 t] 28)) = W := ⟨_, rfl⟩
  have HBB : Hid (Has W w1.heap.size _ _) := Lib.hid (by rw [← hW]; exact Has.new w1 _ _)
  replace HD : Hid (Has W _ _ _) := Lib.hid (by rw [← hW]; exact HD.out.alloc _)
  replace HX : Hid (Has W _ _ _) := Lib.hid (by rw [← hW]; exact HX.out.alloc _)
  replace HA : Hid (Has W _ _ _) := Lib.hid (by rw [← hW]; exact HA.out.alloc _)
  replace HB : Hid (Below w.heap.size w W) := Lib.hid (by rw [← hW]; exact HB.out.alloc HB.out.size _)
  rw [hW]
  clear hW d0 d1 d2 x0 x1 x2 a0 a1 a2
  obtain ⟨d0, d1, d2⟩ := HD.out.rules
  obtain ⟨x0, x1, x2⟩ := HX.out.rules
  obtain ⟨a0, a1, a2⟩ := HA.out.rules
  obtain ⟨b0, b1, b2⟩ := HBB.out.rules
  go_cut [2, 45] (fun _ q wx => q = .bool false ∧ Below w.heap.size w wx)
  case first =>
    by_cases he : er = 0
    · subst he
      go_wp2_with fail
      refine (CK1.out _).mono ?_
      rintro e w2 ⟨rfl, hb⟩
      replace HD := Lib.hid (HD.out.below hb HD.out.lt)
      replace HX := Lib.hid (HX.out.below hb HX.out.lt)
      replace HA := Lib.hid (HA.out.below hb HA.out.lt)
      replace HBB := Lib.hid (HBB.out.below hb HBB.out.lt)
      replace HB : Hid (Below w.heap.size w w2) := Lib.hid (HB.out.trans (hb.mono HB.out.size))
      clear hb d0 d1 d2 x0 x1 x2 a0 a1 a2 b0 b1 b2
      obtain ⟨d0, d1, d2⟩ := HD.out.rules
      obtain ⟨x0, x1, x2⟩ := HX.out.rules
      obtain ⟨a0, a1, a2⟩ := HA.out.rules
      obtain ⟨b0, b1, b2⟩ := HBB.out.rules
      replace CK2 : Hid (∀ w : World, Calls Try.prog 14 #[.agg #[.int .i64 v, .int .i64 l, .int .i64 de, .int .i64 fr, .int .i64 co, .bool av], .agg #[.slice A0 n0 c0, .int .i64 va, .int .i64 su, .int .i64 gr], .agg #[.int .i64 g, .int .i64 u, .int .i64 a, .int .i64 f, .int .i64 d, .int .i64 k, .int .i64 o, .int .i64 s, .int .i64 t]] w fun r w' => r = .returned (.bool true) ∧ Below w.heap.size w w') := Lib.hid CK2.out
      by_cases hall : i0 = g ∧ i1 = u ∧ i2 = a ∧ i3 = f ∧ i4 = d ∧ i5 = k ∧ i6 = o ∧ i7 = s ∧ i8 = t
      · have hq : q = true := by rw [← HQ.out, decide_eq_true_iff]; exact ⟨by simp, hall⟩
        obtain ⟨rfl, rfl, rfl, rfl, rfl, rfl, rfl, rfl, rfl⟩ := hall
        subst hq
        go_wp2_with fail
        refine (CK2.out _).mono ?_
        rintro e w3 ⟨rfl, hb⟩
        replace HB : Hid (Below w.heap.size w w3) := Lib.hid (HB.out.trans (hb.mono HB.out.size))
        clear hb
        go_wp2_with fail
        go_meet
        case rel => exact ⟨rfl, HB.out⟩
      · have hq : q = false := by rw [← HQ.out, decide_eq_false_iff_not]; exact fun h => hall h.2
        subst hq
        have HN := Lib.hid hall
        clear hall
        go_wp2_with fail
        all_goals
          first
          | (exfalso; have := HN.out; omega)
          | (refine (CK2.out _).mono ?_
             rintro e w3 ⟨rfl, hb⟩
             replace HB : Hid (Below w.heap.size w w3) := Lib.hid (HB.out.trans (hb.mono HB.out.size))
             clear hb
             go_wp2_with fail
             go_meet
             case rel => exact ⟨rfl, HB.out⟩)
    · have he' : (er == 0) = false := by rw [beq_eq_false_iff_ne]; exact he
      have hq : q = false := by rw [← HQ.out, decide_eq_false_iff_not]; exact fun h => he h.1
      subst hq
      rw [he'] at CK2
      go_wp2_with fail
      refine (CK1.out _).mono ?_
      rintro e w2 ⟨rfl, hb⟩
      replace HD := Lib.hid (HD.out.below hb HD.out.lt)
      replace HX := Lib.hid (HX.out.below hb HX.out.lt)
      replace HBB := Lib.hid (HBB.out.below hb HBB.out.lt)
      replace HB : Hid (Below w.heap.size w w2) := Lib.hid (HB.out.trans (hb.mono HB.out.size))
      clear hb d0 d1 d2 x0 x1 x2 a0 a1 a2 b0 b1 b2
      obtain ⟨d0, d1, d2⟩ := HD.out.rules
      obtain ⟨x0, x1, x2⟩ := HX.out.rules
      obtain ⟨b0, b1, b2⟩ := HBB.out.rules
      go_wp2_with fail
      refine (CK2.out _).mono ?_
      rintro e w3 ⟨rfl, hb⟩
      replace HB : Hid (Below w.heap.size w w3) := Lib.hid (HB.out.trans (hb.mono HB.out.size))
      clear hb
      go_wp2_with fail
      go_meet
      case rel => exact ⟨rfl, HB.out⟩
  case rest =>
    obtain ⟨rfl, hB⟩ := hcut
    clear HB d0 d1 d2 x0 x1 x2 a0 a1 a2 b0 b1 b2 HD HX HA HBB CK1 CK2 HQ hs1
    have HB := Lib.hid hB
    have hs1 := hB.size
    clear hB
    go_wp2_with fail
    refine (made16_any A n c z _ hn ((HC.out.below HB.out).mono hs1)).mono ?_
    rintro e w2 ⟨⟨v', l', de', fr', co', av'⟩, ⟨va', su', gr'⟩, rfl, hd, hi, hb⟩
    replace HB : Hid (Below w.heap.size w w2) := Lib.hid (HB.out.trans (hb.mono HB.out.size))
    have hs2 := HB.out.size
    clear hb HC
    obtain ⟨⟨g', u', a', f', d', k', o', s', t'⟩, hR⟩ : ∃ R, Ad.res ⟨v', l', de', fr', co', av'⟩ ⟨va', su', gr'⟩ = R := ⟨_, rfl⟩
    obtain ⟨sg, su0, sa0, sf0, sd0, sk0, so0, ss0, st0, hsum, hsm, _, _⟩ := Ad.adds hd hi hR
    have he := Ad.err_ok hd hi
    obtain ⟨m0, m1⟩ := Am.within_bound num 5 (by omega)
    obtain ⟨m, hm⟩ : ∃ m, Am.within num 5 = m := ⟨_, rfl⟩
    rw [hm] at m0 m1
    have CW : Hid (∀ W, Calls Try.prog 13 #[.int .i64 num, .int .i64 5] W fun e w' => e = .returned (.int .i64 m) ∧ W = w') := Lib.hid fun W => by
      have := within_any num 5 W (by omega) (by omega)
      rw [hm] at this
      exact this
    have CR := radjust_c v' l' de' fr' co' av' none 0 0 va' su' gr' g' u' a' f' d' k' o' s' t' 0 hR he
    have CK1 := check_c v' l' de' fr' co' av' none 0 0 va' su' gr' g' u' a' f' d' k' o' s' t' g' u' a' f' d' k' o' s' t' 0 he hR true (by simp)
    have CK2 := check_c v' l' de' fr' co' av' none 0 0 va' su' gr' g' u' a' f' (d' + m) k' o' s' (t' - m) g' u' a' f' d' k' o' s' t' 0 he hR (m == 0) (by simp; omega)
    have hd1 : d' ≤ 1073741824 := by omega
    have ht1 : t' ≤ 1073741824 := by omega
    clear hR he hd hi hsum sg hm
    unfold Ad.Dec.agg Ad.Itm.agg
    simp only
    go_wp2_with fail
    refine (CR.out _).mono ?_
    rintro e w3 ⟨rfl, hb⟩
    have HD := Lib.hid (((Has.new w2 _ _).alloc _).below hb (by simp; omega))
    have HX := Lib.hid ((Has.new' (w2.alloc _) (w2.heap.size + 1) _ _ (by simp)).below hb (by simp))
    replace HB : Hid (Below w.heap.size w w3) := Lib.hid (((HB.out.alloc HB.out.size _).alloc (by simp; omega) _).trans (hb.mono (by simp; omega)))
    have hs3 := HB.out.size
    clear hb CR
    obtain ⟨d0, d1, d2⟩ := HD.out.rules
    obtain ⟨x0, x1, x2⟩ := HX.out.rules
    go_wp2_with (first | (go_at_call 13; refine (CW.out _).mono ?_; rintro e w' ⟨rfl, rfl⟩))
    refine (CK1.out _).mono ?_
    rintro e w4 ⟨rfl, hb⟩
    have HU := Lib.hid ((Has.new' (w3.alloc _) (w3.heap.size + 1) _ _ (by simp)).below hb (by simp))
    replace HD := Lib.hid (((HD.out.alloc _).alloc _).below hb (by simp; omega))
    replace HX := Lib.hid (((HX.out.alloc _).alloc _).below hb (by simp; omega))
    replace HB : Hid (Below w.heap.size w w4) := Lib.hid (((HB.out.alloc HB.out.size _).alloc (by simp; omega) _).trans (hb.mono (by simp; omega)))
    clear hb d0 d1 d2 x0 x1 x2
    obtain ⟨d0, d1, d2⟩ := HD.out.rules
    obtain ⟨x0, x1, x2⟩ := HX.out.rules
    obtain ⟨a0, a1, a2⟩ := HU.out.rules
    obtain ⟨qm, hqm⟩ : ∃ q, (m == 0) = q := ⟨_, rfl⟩
    rw [hqm] at CK2
    go_wp2_with fail
    refine (CK2.out _).mono ?_
    rintro e w5 ⟨rfl, hb⟩
    replace HB : Hid (Below w.heap.size w w5) := Lib.hid (HB.out.trans (hb.mono HB.out.size))
    clear hb
    go_wp2_with fail
    refine (awake16_any _).mono ?_
    rintro e w6 ⟨rfl, hb⟩
    go_wp2_with fail
    go_ret
    exact ⟨rfl, HB.out.trans (hb.mono HB.out.size)⟩

set_option maxRecDepth 100000 in
theorem lifted (os : Os) (started : os.Started) (H : Type) (enc : TypeId × Value → H) :
    ReturnsInHanded {} Try.checked os 7 .any (Rows.adjustCheckSpec.pre6 enc Try.prog Try.f7 Rows.adjustCheckRow.domain false) (Rows.adjustCheckSpec.post enc Try.prog Try.f7 false true false false) := by
  refine returnsInHanded_of_change (C := Try.checked) own started (by kernel_rfl) Try.func7
    (ChangeSpec.witness6 (enc := enc) (C := Try.checked) false ⟨#[], #[.agg #[.int .i64 0, .int .i64 0, .int .i64 0, .int .i64 0, .int .i64 0, .bool false], .agg #[.slice none 0 0, .int .i64 0, .int .i64 0, .int .i64 0], .agg #[.int .i64 0, .int .i64 0, .int .i64 0, .int .i64 0, .int .i64 0, .int .i64 0, .int .i64 0, .int .i64 0, .int .i64 0], .slice none 0 0, .int .i64 0], []⟩ 8 (by kernel_rfl) (by kernel_rfl) (by kernel_rfl) (by kernel_rfl)) ?_
  intro W base args ds gs before hval0 hW hcnd _
  have hval : ∀ (j : Nat) t v, Try.f7.params[j]? = some t → args[j]? = some v → Value.okWide Try.prog W .any base t v := hval0
  have hW' := hW
  obtain ⟨p, q, hA0, hV, rfl, hfz, hnd⟩ := hW
  have hA : DataW.TrodAll enc Try.prog W 0 (fun _ => true) true Try.f7.params.toList args.toList ds p := hA0
  rw [Try.params7] at hA hval
  obtain ⟨v0, vs0, d0, ds0, p0, q0, hargs, rfl, rfl, h0, r0⟩ := trodAll_cons hA
  obtain ⟨v1, vs1, d1, ds1, p1, q1, rfl, rfl, rfl, h1, r1⟩ := trodAll_cons r0
  obtain ⟨v2, vs2, d2, ds2, p2, q2, rfl, rfl, rfl, h2, r2⟩ := trodAll_cons r1
  obtain ⟨v3, vs3, d3, ds3, p3, q3, rfl, rfl, rfl, h3, r3⟩ := trodAll_cons r2
  obtain ⟨v4, vs4, d4, ds4, p4, q4, rfl, rfl, rfl, h4, r4⟩ := trodAll_cons r3
  obtain ⟨rfl, rfl, rfl⟩ := trodAll_nil r4
  obtain rfl : args = #[v0, v1, v2, v3, v4] := by cases args; simp_all
  obtain ⟨rfl, rfl⟩ := trodVars_none hV
  have k0 := h0
  have lt0 : ∀ x ∈ p0, x.block < W.heap.size := by obtain ⟨m, hm⟩ := k0; exact DataW.trod_lt m _ _ _ hm
  obtain ⟨⟨c0⟩, rfl, _⟩ := okWide_struct Try.underlying23 (hval 0 23 v0 rfl rfl)
  have r100 : Rd23 W c0 := by obtain ⟨fuel, hf⟩ := h0; exact rd23 hf
  have k1 := h1
  have lt1 : ∀ x ∈ p1, x.block < W.heap.size := by obtain ⟨m, hm⟩ := k1; exact DataW.trod_lt m _ _ _ hm
  obtain ⟨⟨c1⟩, rfl, _⟩ := okWide_struct Try.underlying26 (hval 1 26 v1 rfl rfl)
  have r101 : Rd26 W c1 := by obtain ⟨fuel, hf⟩ := h1; exact rd26 hf
  have k2 := h2
  have lt2 : ∀ x ∈ p2, x.block < W.heap.size := by obtain ⟨m, hm⟩ := k2; exact DataW.trod_lt m _ _ _ hm
  obtain ⟨⟨c2⟩, rfl, _⟩ := okWide_struct Try.underlying28 (hval 2 28 v2 rfl rfl)
  have r102 : Rd28 W c2 := by obtain ⟨fuel, hf⟩ := h2; exact rd28 hf
  have k3 := h3
  have lt3 : ∀ x ∈ p3, x.block < W.heap.size := by obtain ⟨m, hm⟩ := k3; exact DataW.trod_lt m _ _ _ hm
  obtain ⟨a3, len3, cap3, rfl⟩ := okWide_slice Try.underlying24 (hval 3 24 v3 rfl rfl)
  have r103 : Rd24 W [.slice a3 len3 cap3] := by obtain ⟨fuel, hf⟩ := h3; exact rd24 hf
  have k4 := h4
  have lt4 : ∀ x ∈ p4, x.block < W.heap.size := by obtain ⟨m, hm⟩ := k4; exact DataW.trod_lt m _ _ _ hm
  obtain ⟨a4, rfl⟩ := okWide_int Try.underlying3 (hval 4 3 v4 rfl rfl)
  have r104 : Rd3 W [.int .i64 a4] := by obtain ⟨fuel, hf⟩ := h4; exact rd3 hf
  clear hA0 hval0
  refine (walk c0 c1 c2 _ _ W r100 r101 r102 r103 r104).mono fun e W' ⟨he, bel⟩ => ?_
  subst he
  exact ⟨_, rfl, _, _, _, [], _, [], hW', trodAll_mk1 (shut_bool Try.underlying4 _), (trodAll_cons_mk (Below.trod laidOut (by kernel_rfl) (of_decide_eq_true (by kernel_rfl)) k0 bel lt0) (trodAll_cons_mk (Below.trod laidOut (by kernel_rfl) (of_decide_eq_true (by kernel_rfl)) k1 bel lt1) (trodAll_cons_mk (Below.trod laidOut (by kernel_rfl) (of_decide_eq_true (by kernel_rfl)) k2 bel lt2) (trodAll_cons_mk (Below.trod laidOut (by kernel_rfl) (of_decide_eq_true (by kernel_rfl)) k3 bel lt3) (trodAll_cons_mk (Below.trod laidOut (by kernel_rfl) (of_decide_eq_true (by kernel_rfl)) k4 bel lt4) trodAll_mk0))))), rfl, bel.frame _, fun h => by cases h⟩

theorem over : Rows.adjustCheckRow.holds Try.pinned (OpenSpec.ofChange Rows.adjustCheckSpec) :=
  OpenClaim.holds_of_wide 7 Try.f7 rfl rfl rfl rfl rfl rfl rfl ⟨rfl, rfl, rfl, rfl, rfl⟩ rfl rfl rfl rfl rfl (by kernel_rfl) Try.func7 (by kernel_rfl)
    (of_decide_eq_true (by kernel_rfl)) (by unfold Func.isWrapper; first | (rw [if_pos (by decide +kernel)]; kernel_rfl) | (rw [if_neg (by decide +kernel)]; exact ⟨rfl, rfl⟩))
    (fun os started H enc _ => lifted os started H enc)

/-- the statement -/
theorem proved : Rows.AdjustCheckSaid := over
#print axioms proved
end Go.Proofs.Ytageedgbkaknnaa.adjustCheck
