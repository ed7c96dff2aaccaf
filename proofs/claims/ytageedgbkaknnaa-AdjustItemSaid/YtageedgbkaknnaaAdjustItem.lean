/- The law AdjustItem: Adjust returns the specified adjustment or error, for all decisions and items. No condition. -/
import Derived.Test.YtageedgbkaknnaaRows
import Derived.Test.YtageedgbkaknnaaRead
import Derived.Test.YtageedgbkaknnaaAdjBlk
import Derived.Deep.DeepCutAuto
import Derived.Deep.CutBlock
import Derived.WalkKit
import Derived.ProofKit
import Derived.OpenShut
import Derived.ShutString
import Derived.ChangeOld
import Derived.Below
namespace Go.Proofs.Ytageedgbkaknnaa.adjustItem
open Go.ChangeShapes Go.WideShapes Go.ChangeAt Go.RowKit
set_option linter.unusedVariables false

theorem own : ownKnob Try.prog.godebug = none := by kernel_rfl
theorem laidOut : laidOutB Try.prog = true := by kernel_rfl

/-- what holds at the head of every round -/
def Rel (w : World) (ba bb bd bx : Nat) (i : Value) (wr : World) : Prop :=
  ∃ k : Nat, k ≤ 2 ∧ i = .int .i64 k ∧ IsAdjB wr ba ∧ IsAdjB wr bb ∧ IsDecB wr bd ∧ IsItmB wr bx ∧ Below w.heap.size w wr

set_option maxHeartbeats 4000000 in
set_option maxRecDepth 100000 in
theorem walk (c0 : List Value) (c1 : List Value) (v2 : Value) (v3 : Value) (v4 : Value) (w : World) (h0 : Rd23 w c0) (h1 : Rd26 w c1) (h2 : Rd24 w [v2]) (h3 : Rd5 w [v3]) (h4 : Rd3 w [v4]) :
    Calls Try.prog 3 #[.agg c0.toArray, .agg c1.toArray, v2, v3, v4] w fun e w' => e = .returned (.bool true) ∧ Below w.heap.size w w' := by
  obtain ⟨x0, x1, x2, x3, x4, x5, rfl, e0, e1, e2, e3, e4, e5⟩ := h0
  obtain ⟨v, rfl, _, _⟩ := rd_i64 e0
  obtain ⟨l, rfl, _, _⟩ := rd_i64 e1
  obtain ⟨de, rfl, _, _⟩ := rd_i64 e2
  obtain ⟨fr, rfl, _, _⟩ := rd_i64 e3
  obtain ⟨co, rfl, _, _⟩ := rd_i64 e4
  obtain ⟨av, rfl⟩ := rd_bool e5
  obtain ⟨y0, y1, y2, y3, rfl, f0, f1, f2, f3⟩ := h1
  obtain ⟨A0, n0, c0, _, rfl, _⟩ := rd_ints f0
  obtain ⟨va, rfl, _, _⟩ := rd_i64 f1
  obtain ⟨su, rfl, _, _⟩ := rd_i64 f2
  obtain ⟨gr, rfl, _, _⟩ := rd_i64 f3
  obtain ⟨A, n, c, z, rfl, hn, _, _, hc, _⟩ := rd_ints h2
  obtain ⟨wh, rfl, wh0, wh1⟩ := rd_u8 h3
  obtain ⟨num, rfl, _, _⟩ := rd_i64 h4
  have HC := Lib.hid hc
  clear e0 e1 e2 e3 e4 e5 f0 f1 f2 f3 h2 h3 h4 hc
  obtain ⟨⟨g, u, a, f, d, k, o, s, t⟩, hR⟩ : ∃ R, Ad.res ⟨v, l, de, fr, co, av⟩ ⟨va, su, gr⟩ = R := ⟨_, rfl⟩
  obtain ⟨er, he⟩ : ∃ R, Ad.err ⟨v, l, de, fr, co, av⟩ ⟨va, su, gr⟩ = R := ⟨_, rfl⟩
  have CA := adjust_c v l de fr co av A0 n0 c0 va su gr g u a f d k o s t er hR he
  have CR := radjust_c v l de fr co av A0 n0 c0 va su gr g u a f d k o s t er hR he
  clear hR he
  obtain ⟨qq, hqq⟩ : ∃ q, wh % 9 = q := ⟨_, rfl⟩
  have hq : qq = 0 ∨ qq = 1 ∨ qq = 2 ∨ qq = 3 ∨ qq = 4 ∨ qq = 5 ∨ qq = 6 ∨ qq = 7 ∨ qq = 8 := by omega
  go_enter Try.func3, Try.ntmps3
  go_wp2_with fail
  refine (CA.out _).mono ?_
  rintro e w1 ⟨rfl, hb⟩
  have HD := Lib.hid (((Has.new w _ _).alloc _).below hb (by simp; omega))
  have HX := Lib.hid ((Has.new' (w.alloc _) (w.heap.size + 1) _ _ (by simp)).below hb (by simp))
  have HB : Hid (Below w.heap.size w w1) := Lib.hid ((((Below.refl w.heap.size w).alloc (Nat.le_refl _) _).alloc (by simp) _).trans (hb.mono (by simp; omega)))
  clear hb
  obtain ⟨d0, d1, d2⟩ := HD.out.rules
  obtain ⟨z0, z1, z2⟩ := HX.out.rules
  go_wp2_with fail
  refine (CR.out _).mono ?_
  rintro e w2 ⟨rfl, hb⟩
  have HS1 := Lib.hid HB.out.size
  have HAB := Lib.hid ((Has.new w1 _ _).below hb (by simp))
  replace HB : Hid (Below w.heap.size w w2) := Lib.hid ((HB.out.alloc HB.out.size _).trans (hb.mono (by simp; have := HB.out.size; omega)))
  clear hb d0 d1 d2 z0 z1 z2 CA CR HD HX
  obtain ⟨a0, a1, a2⟩ := HAB.out.rules
  go_wp2_with fail
  refine (made16_any A n c z _ hn ((HC.out.below (HB.out.alloc HB.out.size _)).mono (by simp; have := HB.out.size; omega))).mono ?_
  rintro e w3 ⟨⟨v', l', de', fr', co', av'⟩, ⟨va', su', gr'⟩, rfl, _, _, hb⟩
  have hs := HB.out.size
  have hsa : w.heap.size ≤ w1.heap.size := HS1.out
  replace HAB := Lib.hid ((HAB.out.alloc _).below hb (by simp; omega))
  have HBB := Lib.hid ((Has.new w2 _ _).below hb (by simp))
  replace HB : Hid (Below w.heap.size w w3) := Lib.hid ((HB.out.alloc HB.out.size _).trans (hb.mono (by simp; omega)))
  have hs3 : w2.heap.size < w3.heap.size := HBB.out.lt
  clear hb a0 a1 HS1
  unfold Ad.Dec.agg Ad.Itm.agg
  simp only
  obtain ⟨ba, hba⟩ : ∃ b, w1.heap.size = b := ⟨_, rfl⟩
  obtain ⟨bb, hbb⟩ : ∃ b, w2.heap.size = b := ⟨_, rfl⟩
  rw [hba] at HAB a2 hsa ⊢
  rw [hbb] at HBB a2 hs3 ⊢
  rw [hbb] at hs
  clear hba hbb
  go_wp2_with fail
  have HR : Hid (Rel w ba bb w3.heap.size (w3.heap.size + 1) (.int .i64 0) ((w3.alloc (.cells #[.int .i64 v', .int .i64 l', .int .i64 de', .int .i64 fr', .int .i64 co', .bool av'] 23)).alloc (.cells #[.slice none 0 0, .int .i64 va', .int .i64 su', .int .i64 gr'] 26))) :=
    Lib.hid ⟨0, by omega, rfl, ⟨_, _, _, _, _, _, _, _, _, (HAB.out.alloc _).alloc _⟩, ⟨_, _, _, _, _, _, _, _, _, (HBB.out.alloc _).alloc _⟩, ⟨_, _, _, _, _, _, (Has.new w3 _ _).alloc _⟩, ⟨_, _, _, _, _, _, Has.new' (w3.alloc _) _ _ _ (by simp)⟩, (HB.out.alloc (by omega) _).alloc (by simp; omega) _⟩
  obtain ⟨W, hW⟩ : ∃ W, (w3.alloc (.cells #[.int .i64 v', .int .i64 l', .int .i64 de', .int .i64 fr', .int .i64 co', .bool av'] 23)).alloc (.cells #[.slice none 0 0, .int .i64 va', .int .i64 su', .int .i64 gr'] 26) = W := ⟨_, rfl⟩
  rw [hW] at HR ⊢
  obtain ⟨bd, hbd⟩ : ∃ b, w3.heap.size = b := ⟨_, rfl⟩
  rw [hbd] at HR hs3 ⊢
  clear hW hbd HAB HBB HB HC
  go_loopw [12, 14, 17] (fun _ _ i wr => Rel w ba bb bd (bd + 1) i wr) (fun _ _ i _ => 2 - (intOf i).toNat)
  case atStart => exact HR.out
  case round =>
    obtain ⟨j, hj, rfl, HA, HBq, HD, HX, HB⟩ := hrel
    by_cases hlt : j < 2
    · skip
      obtain ⟨v2, l2, de2, fr2, co2, av2, hD⟩ := HD
      obtain ⟨A2, n2, c2, va2, su2, gr2, hX⟩ := HX
      obtain ⟨p0, p1, p2, p3, p4, p5, p6, p7, p8, hA⟩ := HA
      obtain ⟨q0, q1, q2, q3, q4, q5, q6, q7, q8, hQ⟩ := HBq
      have HD1 := Lib.hid hD
      have HX1 := Lib.hid hX
      have HA1 := Lib.hid hA
      have HQ1 := Lib.hid hQ
      have HB1 := Lib.hid HB
      clear hD hX hA hQ HB
      obtain ⟨⟨g2, u2, a2', f2, d2, k2, o2, s2, t2⟩, hR2⟩ : ∃ R, Ad.res ⟨v2, l2, de2, fr2, co2, av2⟩ ⟨va2, su2, gr2⟩ = R := ⟨_, rfl⟩
      obtain ⟨er2, he2⟩ : ∃ R, Ad.err ⟨v2, l2, de2, fr2, co2, av2⟩ ⟨va2, su2, gr2⟩ = R := ⟨_, rfl⟩
      have CA2 := adjust_c v2 l2 de2 fr2 co2 av2 A2 n2 c2 va2 su2 gr2 g2 u2 a2' f2 d2 k2 o2 s2 t2 er2 hR2 he2
      have CR2 := radjust_c v2 l2 de2 fr2 co2 av2 A2 n2 c2 va2 su2 gr2 g2 u2 a2' f2 d2 k2 o2 s2 t2 er2 hR2 he2
      clear hR2 he2
      obtain ⟨d0, d1, d3⟩ := HD1.out.rules
      obtain ⟨x0, x1, x2⟩ := HX1.out.rules
      go_wp2_with fail
      refine (CA2.out _).mono ?_
      rintro e w4 ⟨rfl, hb⟩
      replace HD1 := Lib.hid (HD1.out.below hb HD1.out.lt)
      replace HX1 := Lib.hid (HX1.out.below hb HX1.out.lt)
      replace HA1 := Lib.hid (HA1.out.below hb HA1.out.lt)
      replace HQ1 := Lib.hid (HQ1.out.below hb HQ1.out.lt)
      replace HB1 : Hid (Below w.heap.size w w4) := Lib.hid (HB1.out.trans (hb.mono HB1.out.size))
      clear d0 d1 d3 x0 x1 x2 hb CA2
      obtain ⟨d0, d1, d3⟩ := HD1.out.rules
      obtain ⟨x0, x1, x2⟩ := HX1.out.rules
      obtain ⟨a0, a1, a3⟩ := HA1.out.rules
      go_wp2_with fail
      have P5 := HA1.out.put9 (.int .i64 g2) (.int .i64 u2) (.int .i64 a2') (.int .i64 f2) (.int .i64 d2) (.int .i64 k2) (.int .i64 o2) (.int .i64 s2) (.int .i64 t2)
      obtain ⟨W5, hW5⟩ : ∃ W5, (((((((((w4.setCell ⟨ba, 0, none⟩ (.int .i64 g2)).setCell ⟨ba, 1, none⟩ (.int .i64 u2)).setCell ⟨ba, 2, none⟩ (.int .i64 a2')).setCell ⟨ba, 3, none⟩ (.int .i64 f2)).setCell ⟨ba, 4, none⟩ (.int .i64 d2)).setCell ⟨ba, 5, none⟩ (.int .i64 k2)).setCell ⟨ba, 6, none⟩ (.int .i64 o2)).setCell ⟨ba, 7, none⟩ (.int .i64 s2)).setCell ⟨ba, 8, none⟩ (.int .i64 t2)) = W5 := ⟨_, rfl⟩
      rw [hW5] at P5 ⊢
      replace HA1 := Lib.hid P5.1
      replace HD1 := Lib.hid (HD1.out.keeps P5.2 (by omega))
      replace HX1 := Lib.hid (HX1.out.keeps P5.2 (by omega))
      replace HQ1 := Lib.hid (HQ1.out.keeps P5.2 (by omega))
      replace HB1 : Hid (Below w.heap.size w W5) := Lib.hid (HB1.out.trans (P5.2.below hsa HB1.out.size))
      clear d0 d1 d3 x0 x1 x2 a0 a1 a3 P5 hW5
      refine (CR2.out _).mono ?_
      rintro e w6 ⟨rfl, hb⟩
      replace HD1 := Lib.hid (HD1.out.below hb HD1.out.lt)
      replace HX1 := Lib.hid (HX1.out.below hb HX1.out.lt)
      replace HA1 := Lib.hid (HA1.out.below hb HA1.out.lt)
      replace HQ1 := Lib.hid (HQ1.out.below hb HQ1.out.lt)
      replace HB1 : Hid (Below w.heap.size w w6) := Lib.hid (HB1.out.trans (hb.mono HB1.out.size))
      clear hb CR2
      obtain ⟨a0, a1, a3⟩ := HQ1.out.rules
      go_upto_region 11 with (fail)
      have P7 := HQ1.out.put9 (.int .i64 g2) (.int .i64 u2) (.int .i64 a2') (.int .i64 f2) (.int .i64 d2) (.int .i64 k2) (.int .i64 o2) (.int .i64 s2) (.int .i64 t2)
      obtain ⟨W7, hW7⟩ : ∃ W7, (((((((((w6.setCell ⟨bb, 0, none⟩ (.int .i64 g2)).setCell ⟨bb, 1, none⟩ (.int .i64 u2)).setCell ⟨bb, 2, none⟩ (.int .i64 a2')).setCell ⟨bb, 3, none⟩ (.int .i64 f2)).setCell ⟨bb, 4, none⟩ (.int .i64 d2)).setCell ⟨bb, 5, none⟩ (.int .i64 k2)).setCell ⟨bb, 6, none⟩ (.int .i64 o2)).setCell ⟨bb, 7, none⟩ (.int .i64 s2)).setCell ⟨bb, 8, none⟩ (.int .i64 t2)) = W7 := ⟨_, rfl⟩
      rw [hW7] at P7 ⊢
      replace HQ1 := Lib.hid P7.1
      replace HD1 := Lib.hid (HD1.out.keeps P7.2 (by omega))
      replace HX1 := Lib.hid (HX1.out.keeps P7.2 (by omega))
      replace HA1 := Lib.hid (HA1.out.keeps P7.2 (by omega))
      replace HB1 : Hid (Below w.heap.size w W7) := Lib.hid (HB1.out.trans (P7.2.below hs HB1.out.size))
      clear a0 a1 a3 P7 hW7
      obtain ⟨d0, d1, d3⟩ := HD1.out.rules
      obtain ⟨x0, x1, x2⟩ := HX1.out.rules
      obtain ⟨a0, a1, a3⟩ := HA1.out.rules
      obtain ⟨b0, b1, b3⟩ := HQ1.out.rules
      rcases hq with rfl | rfl | rfl | rfl | rfl | rfl | rfl | rfl | rfl
      all_goals
        go_wp2_with fail
        have ja : IsAdjB W7 ba := ⟨_, _, _, _, _, _, _, _, _, HA1.out⟩
        have jb : IsAdjB W7 bb := ⟨_, _, _, _, _, _, _, _, _, HQ1.out⟩
        have jd : IsDecB W7 bd := ⟨_, _, _, _, _, _, HD1.out⟩
        have jx : IsItmB W7 (bd + 1) := ⟨_, _, _, _, _, _, HX1.out⟩
        refine ⟨⟨j + 1, by omega, by go_num, ja.far (by simp; omega) _, jb.far (by simp; omega) _, ?_, ?_, HB1.out.setCell (by simp; omega) _⟩, by simp [intOf]; omega⟩
        · first
            | exact jd.put _ (by omega) num
            | exact jd.put5 _
            | exact jd.far (by simp) _
        · first
            | exact jx.put _ (by omega) (by omega) num
            | exact jx.far (by simp) _
    · skip
      obtain ⟨v2, l2, de2, fr2, co2, av2, hD⟩ := HD
      obtain ⟨A2, n2, c2, va2, su2, gr2, hX⟩ := HX
      obtain ⟨p0, p1, p2, p3, p4, p5, p6, p7, p8, hA⟩ := HA
      obtain ⟨q0, q1, q2, q3, q4, q5, q6, q7, q8, hQ⟩ := HBq
      have HD1 := Lib.hid hD
      have HX1 := Lib.hid hX
      have HA1 := Lib.hid hA
      have HQ1 := Lib.hid hQ
      have HB1 := Lib.hid HB
      clear hD hX hA hQ HB
      obtain ⟨⟨g2, u2, a2', f2, d2, k2, o2, s2, t2⟩, hR2⟩ : ∃ R, Ad.res ⟨v2, l2, de2, fr2, co2, av2⟩ ⟨va2, su2, gr2⟩ = R := ⟨_, rfl⟩
      obtain ⟨er2, he2⟩ : ∃ R, Ad.err ⟨v2, l2, de2, fr2, co2, av2⟩ ⟨va2, su2, gr2⟩ = R := ⟨_, rfl⟩
      have CA2 := adjust_c v2 l2 de2 fr2 co2 av2 A2 n2 c2 va2 su2 gr2 g2 u2 a2' f2 d2 k2 o2 s2 t2 er2 hR2 he2
      have CR2 := radjust_c v2 l2 de2 fr2 co2 av2 A2 n2 c2 va2 su2 gr2 g2 u2 a2' f2 d2 k2 o2 s2 t2 er2 hR2 he2
      clear hR2 he2
      obtain ⟨d0, d1, d3⟩ := HD1.out.rules
      obtain ⟨x0, x1, x2⟩ := HX1.out.rules
      go_wp2_with fail
      refine (CA2.out _).mono ?_
      rintro e w4 ⟨rfl, hb⟩
      replace HD1 := Lib.hid (HD1.out.below hb HD1.out.lt)
      replace HX1 := Lib.hid (HX1.out.below hb HX1.out.lt)
      replace HA1 := Lib.hid (HA1.out.below hb HA1.out.lt)
      replace HQ1 := Lib.hid (HQ1.out.below hb HQ1.out.lt)
      replace HB1 : Hid (Below w.heap.size w w4) := Lib.hid (HB1.out.trans (hb.mono HB1.out.size))
      clear d0 d1 d3 x0 x1 x2 hb CA2
      obtain ⟨d0, d1, d3⟩ := HD1.out.rules
      obtain ⟨x0, x1, x2⟩ := HX1.out.rules
      obtain ⟨a0, a1, a3⟩ := HA1.out.rules
      go_wp2_with fail
      have P5 := HA1.out.put9 (.int .i64 g2) (.int .i64 u2) (.int .i64 a2') (.int .i64 f2) (.int .i64 d2) (.int .i64 k2) (.int .i64 o2) (.int .i64 s2) (.int .i64 t2)
      obtain ⟨W5, hW5⟩ : ∃ W5, (((((((((w4.setCell ⟨ba, 0, none⟩ (.int .i64 g2)).setCell ⟨ba, 1, none⟩ (.int .i64 u2)).setCell ⟨ba, 2, none⟩ (.int .i64 a2')).setCell ⟨ba, 3, none⟩ (.int .i64 f2)).setCell ⟨ba, 4, none⟩ (.int .i64 d2)).setCell ⟨ba, 5, none⟩ (.int .i64 k2)).setCell ⟨ba, 6, none⟩ (.int .i64 o2)).setCell ⟨ba, 7, none⟩ (.int .i64 s2)).setCell ⟨ba, 8, none⟩ (.int .i64 t2)) = W5 := ⟨_, rfl⟩
      rw [hW5] at P5 ⊢
      replace HA1 := Lib.hid P5.1
      replace HD1 := Lib.hid (HD1.out.keeps P5.2 (by omega))
      replace HX1 := Lib.hid (HX1.out.keeps P5.2 (by omega))
      replace HQ1 := Lib.hid (HQ1.out.keeps P5.2 (by omega))
      replace HB1 : Hid (Below w.heap.size w W5) := Lib.hid (HB1.out.trans (P5.2.below hsa HB1.out.size))
      clear d0 d1 d3 x0 x1 x2 a0 a1 a3 P5 hW5
      refine (CR2.out _).mono ?_
      rintro e w6 ⟨rfl, hb⟩
      replace HD1 := Lib.hid (HD1.out.below hb HD1.out.lt)
      replace HX1 := Lib.hid (HX1.out.below hb HX1.out.lt)
      replace HA1 := Lib.hid (HA1.out.below hb HA1.out.lt)
      replace HQ1 := Lib.hid (HQ1.out.below hb HQ1.out.lt)
      replace HB1 : Hid (Below w.heap.size w w6) := Lib.hid (HB1.out.trans (hb.mono HB1.out.size))
      clear hb CR2
      obtain ⟨a0, a1, a3⟩ := HQ1.out.rules
      go_upto_region 34 with (fail)
      have P7 := HQ1.out.put9 (.int .i64 g2) (.int .i64 u2) (.int .i64 a2') (.int .i64 f2) (.int .i64 d2) (.int .i64 k2) (.int .i64 o2) (.int .i64 s2) (.int .i64 t2)
      obtain ⟨W7, hW7⟩ : ∃ W7, (((((((((w6.setCell ⟨bb, 0, none⟩ (.int .i64 g2)).setCell ⟨bb, 1, none⟩ (.int .i64 u2)).setCell ⟨bb, 2, none⟩ (.int .i64 a2')).setCell ⟨bb, 3, none⟩ (.int .i64 f2)).setCell ⟨bb, 4, none⟩ (.int .i64 d2)).setCell ⟨bb, 5, none⟩ (.int .i64 k2)).setCell ⟨bb, 6, none⟩ (.int .i64 o2)).setCell ⟨bb, 7, none⟩ (.int .i64 s2)).setCell ⟨bb, 8, none⟩ (.int .i64 t2)) = W7 := ⟨_, rfl⟩
      rw [hW7] at P7 ⊢
      replace HQ1 := Lib.hid P7.1
      replace HD1 := Lib.hid (HD1.out.keeps P7.2 (by omega))
      replace HX1 := Lib.hid (HX1.out.keeps P7.2 (by omega))
      replace HA1 := Lib.hid (HA1.out.keeps P7.2 (by omega))
      replace HB1 : Hid (Below w.heap.size w W7) := Lib.hid (HB1.out.trans (P7.2.below hs HB1.out.size))
      clear a0 a1 a3 P7 hW7
      obtain ⟨d0, d1, d3⟩ := HD1.out.rules
      obtain ⟨x0, x1, x2⟩ := HX1.out.rules
      obtain ⟨a0, a1, a3⟩ := HA1.out.rules
      obtain ⟨b0, b1, b3⟩ := HQ1.out.rules
      go_wp2_with (first | (go_at_call 12; refine (awake16_any _).mono ?_; rintro e w4 ⟨rfl, hb4⟩))
      go_ret
      exact ⟨rfl, HB1.out.trans (hb4.mono HB1.out.size)⟩

set_option maxRecDepth 100000 in
theorem lifted (os : Os) (started : os.Started) (H : Type) (enc : TypeId × Value → H) :
    ReturnsInHanded {} Try.checked os 3 .any (Rows.adjustItemSpec.pre6 enc Try.prog Try.f3 Rows.adjustItemRow.domain false) (Rows.adjustItemSpec.post enc Try.prog Try.f3 false true false false) := by
  refine returnsInHanded_of_change (C := Try.checked) own started (by kernel_rfl) Try.func3
    (ChangeSpec.witness6 (enc := enc) (C := Try.checked) false ⟨#[], #[.agg #[.int .i64 0, .int .i64 0, .int .i64 0, .int .i64 0, .int .i64 0, .bool false], .agg #[.slice none 0 0, .int .i64 0, .int .i64 0, .int .i64 0], .slice none 0 0, .int .u8 0, .int .i64 0], []⟩ 8 (by kernel_rfl) (by kernel_rfl) (by kernel_rfl) (by kernel_rfl)) ?_
  intro W base args ds gs before hval0 hW hcnd _
  have hval : ∀ (j : Nat) t v, Try.f3.params[j]? = some t → args[j]? = some v → Value.okWide Try.prog W .any base t v := hval0
  have hW' := hW
  obtain ⟨p, q, hA0, hV, rfl, hfz, hnd⟩ := hW
  have hA : DataW.TrodAll enc Try.prog W 0 (fun _ => true) true Try.f3.params.toList args.toList ds p := hA0
  rw [Try.params3] at hA hval
  obtain ⟨v0, vs0, d0, ds0, p0, q0, hargs, rfl, rfl, h0, r0⟩ := trodAll_cons hA
  obtain ⟨v1, vs1, d1, ds1, p1, q1, rfl, rfl, rfl, h1, r1⟩ := trodAll_cons r0
  obtain ⟨v2, vs2, d2, ds2, p2, q2, rfl, rfl, rfl, h2, r2⟩ := trodAll_cons r1
  obtain ⟨v3, vs3, d3, ds3, p3, q3, rfl, rfl, rfl, h3, r3⟩ := trodAll_cons r2
  obtain ⟨v4, vs4, d4, ds4, p4, q4, rfl, rfl, rfl, h4, r4⟩ := trodAll_cons r3
  obtain ⟨rfl, rfl, rfl⟩ := trodAll_nil r4
  obtain rfl : args = #[v0, v1, v2, v3, v4] := by cases args; simp_all
  obtain ⟨rfl, rfl⟩ := trodVars_none hV
  have k0 := h0
  have lt0 : ∀ x ∈ p0, x.block < W.heap.size := by obtain ⟨m, hm⟩ := k0; exact DataW.trod_lt m _ _ _ hm
  obtain ⟨⟨c0⟩, rfl, _⟩ := okWide_struct Try.underlying23 (hval 0 23 v0 rfl rfl)
  have r100 : Rd23 W c0 := by obtain ⟨fuel, hf⟩ := h0; exact rd23 hf
  have k1 := h1
  have lt1 : ∀ x ∈ p1, x.block < W.heap.size := by obtain ⟨m, hm⟩ := k1; exact DataW.trod_lt m _ _ _ hm
  obtain ⟨⟨c1⟩, rfl, _⟩ := okWide_struct Try.underlying26 (hval 1 26 v1 rfl rfl)
  have r101 : Rd26 W c1 := by obtain ⟨fuel, hf⟩ := h1; exact rd26 hf
  have k2 := h2
  have lt2 : ∀ x ∈ p2, x.block < W.heap.size := by obtain ⟨m, hm⟩ := k2; exact DataW.trod_lt m _ _ _ hm
  obtain ⟨a2, len2, cap2, rfl⟩ := okWide_slice Try.underlying24 (hval 2 24 v2 rfl rfl)
  have r102 : Rd24 W [.slice a2 len2 cap2] := by obtain ⟨fuel, hf⟩ := h2; exact rd24 hf
  have k3 := h3
  have lt3 : ∀ x ∈ p3, x.block < W.heap.size := by obtain ⟨m, hm⟩ := k3; exact DataW.trod_lt m _ _ _ hm
  obtain ⟨a3, rfl⟩ := okWide_int Try.underlying5 (hval 3 5 v3 rfl rfl)
  have r103 : Rd5 W [.int .u8 a3] := by obtain ⟨fuel, hf⟩ := h3; exact rd5 hf
  have k4 := h4
  have lt4 : ∀ x ∈ p4, x.block < W.heap.size := by obtain ⟨m, hm⟩ := k4; exact DataW.trod_lt m _ _ _ hm
  obtain ⟨a4, rfl⟩ := okWide_int Try.underlying3 (hval 4 3 v4 rfl rfl)
  have r104 : Rd3 W [.int .i64 a4] := by obtain ⟨fuel, hf⟩ := h4; exact rd3 hf
  clear hA0 hval0
  refine (walk c0 c1 _ _ _ W r100 r101 r102 r103 r104).mono fun e W' ⟨he, bel⟩ => ?_
  subst he
  exact ⟨_, rfl, _, _, _, [], _, [], hW', trodAll_mk1 (shut_bool Try.underlying4 _), (trodAll_cons_mk (Below.trod laidOut (by kernel_rfl) (of_decide_eq_true (by kernel_rfl)) k0 bel lt0) (trodAll_cons_mk (Below.trod laidOut (by kernel_rfl) (of_decide_eq_true (by kernel_rfl)) k1 bel lt1) (trodAll_cons_mk (Below.trod laidOut (by kernel_rfl) (of_decide_eq_true (by kernel_rfl)) k2 bel lt2) (trodAll_cons_mk (Below.trod laidOut (by kernel_rfl) (of_decide_eq_true (by kernel_rfl)) k3 bel lt3) (trodAll_cons_mk (Below.trod laidOut (by kernel_rfl) (of_decide_eq_true (by kernel_rfl)) k4 bel lt4) trodAll_mk0))))), rfl, bel.frame _, fun h => by cases h⟩

theorem over : Rows.adjustItemRow.holds Try.pinned (OpenSpec.ofChange Rows.adjustItemSpec) :=
  OpenClaim.holds_of_wide 3 Try.f3 rfl rfl rfl rfl rfl rfl rfl ⟨rfl, rfl, rfl, rfl, rfl⟩ rfl rfl rfl rfl rfl (by kernel_rfl) Try.func3 (by kernel_rfl)
    (of_decide_eq_true (by kernel_rfl)) (by unfold Func.isWrapper; first | (rw [if_pos (by decide +kernel)]; kernel_rfl) | (rw [if_neg (by decide +kernel)]; exact ⟨rfl, rfl⟩))
    (fun os started H enc _ => lifted os started H enc)

/-- the statement -/
theorem proved : Rows.AdjustItemSaid := over
#print axioms proved
end Go.Proofs.Ytageedgbkaknnaa.adjustItem
