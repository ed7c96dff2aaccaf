/- The law AdjustMore: a greater loss never leads to a smaller payment, a greater deductible, franchise or share of coinsurance never leads to a greater one, and a greater limit never leads to a smaller one, for every input. No condition. -/
import Derived.Test.YtageedgbkaknnaaRows
import Derived.Test.YtageedgbkaknnaaRead
import Derived.Test.YtageedgbkaknnaaAdjBlk
import Derived.Test.YtageedgbkaknnaaAdjMore
import Derived.RegionTactic
import Derived.StillTailTactics
import Derived.Deep.DeepCutAuto
import Derived.Deep.CutBlock
import Derived.WalkKit
import Derived.ProofKit
import Derived.OpenShut
import Derived.ShutString
import Derived.ChangeOld
import Derived.Below
namespace Go.Proofs.Ytageedgbkaknnaa.adjustMore
open Go.ChangeShapes Go.WideShapes Go.ChangeAt Go.RowKit
set_option linter.unusedVariables false

theorem own : ownKnob Try.prog.godebug = none := by kernel_rfl
theorem laidOut : laidOutB Try.prog = true := by kernel_rfl

/-- the two copies behind the region: whichever was made first -/
def Copies (w : World) (b7 b8 : Nat) (D X : Array Value) (p q : Value) (W : World) : Prop :=
  ∃ b9 b10 : Nat, p = .pointer (some ⟨b9, 0, none⟩) ∧ q = .pointer (some ⟨b10, 0, none⟩) ∧ Has W b7 D 23 ∧ Has W b8 X 26 ∧ Has W b9 D 23 ∧ Has W b10 X 26 ∧
    b7 < b9 ∧ b7 < b10 ∧ b8 < b9 ∧ b8 < b10 ∧ b9 ≠ b10 ∧ Below w.heap.size w W

theorem still_left {P : Program} {f : FuncId} {args : Array Value} {w : World} {v : Value} (h : Calls P f args w fun e w' => e = .returned v ∧ w = w') : Calls P f args w fun e w'' => e = .returned v ∧ w'' = w :=
  h.mono fun _ _ ⟨he, hm⟩ => ⟨he, hm.symm⟩

set_option maxHeartbeats 4000000 in
set_option maxRecDepth 100000 in
theorem walk (v0 : Value) (v1 : Value) (v2 : Value) (w : World) (h0 : Rd24 w [v0]) (h1 : Rd5 w [v1]) (h2 : Rd3 w [v2]) :
    Calls Try.prog 5 #[v0, v1, v2] w fun e w' => e = .returned (.bool true) ∧ Below w.heap.size w w' := by
  obtain ⟨A, n, c, z, rfl, hn, _, _, hc, _⟩ := rd_ints h0
  obtain ⟨wh, rfl, wh0, wh1⟩ := rd_u8 h1
  obtain ⟨num, rfl, _, _⟩ := rd_i64 h2
  have HC := Lib.hid hc
  clear h0 h1 h2 hc
  obtain ⟨qq, hqq⟩ : ∃ q, wh % 5 = q := ⟨_, rfl⟩
  have hq : qq = 0 ∨ qq = 1 ∨ qq = 2 ∨ qq = 3 ∨ qq = 4 := by omega
  go_enter Try.func5, Try.ntmps5
  go_wp2_with fail
  refine (made16_any A n c z _ hn HC.out).mono ?_
  rintro e w1 ⟨⟨v, l, de, fr, co, av⟩, ⟨va, su, gr⟩, rfl, hd, hi, hb⟩
  have HB := Lib.hid hb
  have hs := hb.size
  have HDE := Lib.hid hd
  have HIE := Lib.hid hi
  clear hb hd hi HC
  unfold Ad.Dec.agg Ad.Itm.agg
  simp only
  go_upto_region 2 with (fail)
  obtain ⟨W, hW⟩ : ∃ W, (w1.alloc (.cells #[.int .i64 v, .int .i64 l, .int .i64 de, .int .i64 fr, .int .i64 co, .bool av] 23)).alloc (.cells #[.slice none 0 0, .int .i64 va, .int .i64 su, .int .i64 gr] 26) = W := ⟨_, rfl⟩
  have HD7 : Hid (Has W w1.heap.size _ _) := Lib.hid (by rw [← hW]; exact (Has.new w1 _ _).alloc _)
  have HX8 : Hid (Has W (w1.heap.size + 1) _ _) := Lib.hid (by rw [← hW]; exact Has.new' (w1.alloc _) _ _ _ (by simp))
  replace HB : Hid (Below w.heap.size w W) := Lib.hid (by rw [← hW]; exact (HB.out.alloc hs _).alloc (by simp; omega) _)
  rw [hW]
  clear hW
  obtain ⟨b7, hb7⟩ : ∃ b, w1.heap.size = b := ⟨_, rfl⟩
  rw [hb7] at HD7 HX8 hs ⊢
  clear hb7
  obtain ⟨d0, d1, d2⟩ := HD7.out.rules
  obtain ⟨x0, x1, x2⟩ := HX8.out.rules
  go_cut [9, 10] (fun p q wx => Copies w b7 (b7 + 1) #[.int .i64 v, .int .i64 l, .int .i64 de, .int .i64 fr, .int .i64 co, .bool av] #[.slice none 0 0, .int .i64 va, .int .i64 su, .int .i64 gr] p q wx)
  case first =>
    go_region
    all_goals
      go_wp2_with fail
      go_meet
      case rel =>
        first
        | exact ⟨W.heap.size, W.heap.size + 1, rfl, rfl, (HD7.out.alloc _).alloc _, (HX8.out.alloc _).alloc _, (Has.new W _ _).alloc _, Has.new' (W.alloc _) _ _ _ (by simp), d2, by omega, x2, by omega, by omega, ((HB.out.alloc HB.out.size _).alloc (by have := HB.out.size; simp; omega) _).drew⟩
        | exact ⟨W.heap.size + 1, W.heap.size, rfl, rfl, (HD7.out.alloc _).alloc _, (HX8.out.alloc _).alloc _, Has.new' (W.alloc _) _ _ _ (by simp), (Has.new W _ _).alloc _, by omega, d2, by omega, x2, by omega, ((HB.out.alloc HB.out.size _).alloc (by have := HB.out.size; simp; omega) _).drew⟩
  case rest =>
    obtain ⟨b9, b10, rfl, rfl, h7, h8, h9, h10, l1, l2, l3, l4, l5, hB⟩ := hcut
    clear d0 d1 d2 x0 x1 x2 HD7 HX8 HB
    have H7 := Lib.hid h7
    have H8 := Lib.hid h8
    have H9 := Lib.hid h9
    have H10 := Lib.hid h10
    have HB := Lib.hid hB
    clear h7 h8 h9 h10 hB
    obtain ⟨d0, d1, d2⟩ := H7.out.rules
    by_cases hv : v = 4
    · obtain ⟨fv, fl0, fl1, fd0, fd1, ff0, ff1, fc0, fc1, fv0, fv1, fs0, fs1, fg0, fg1⟩ := Ad.fine_of hv HDE.out HIE.out
      subst hv
      simp only at fl0 fl1 fd0 fd1 ff0 ff1 fc0 fc1 fv0 fv1 fs0 fs1 fg0 fg1
      rcases hq with rfl | rfl | rfl | rfl | rfl
      · skip
        obtain ⟨y0, y1, y2⟩ := H10.out.rules
        obtain ⟨t0, t1⟩ := Am.within_bound num (1073741824 - gr + 1) (by omega)
        obtain ⟨t, ht⟩ : ∃ t, Am.within num (1073741824 - gr + 1) = t := ⟨_, rfl⟩
        rw [ht] at t0 t1
        have CW : Hid (∀ W, Calls Try.prog 13 #[.int .i64 num, .int .i64 (1073741824 - gr + 1)] W fun e w' => e = .returned (.int .i64 t) ∧ w' = W) := Lib.hid fun W => by
          have := still_left (within_any num (1073741824 - gr + 1) W (by omega) (by omega))
          rw [ht] at this
          exact this
        clear ht
        have F1 : Ad.Fine ⟨4, l, de, fr, co, av⟩ ⟨va, su, gr⟩ := ⟨rfl, by (try simp only); omega, by (try simp only); omega, by (try simp only); omega, by (try simp only); omega, by (try simp only); omega, by (try simp only); omega, by (try simp only); omega, by (try simp only); omega, by (try simp only); omega, by (try simp only); omega, by (try simp only); omega, by (try simp only); omega, by (try simp only); omega, by (try simp only); omega⟩
        have F2 : Ad.Fine ⟨4, l, de, fr, co, av⟩ ⟨va, su, gr + t⟩ := ⟨rfl, by (try simp only); omega, by (try simp only); omega, by (try simp only); omega, by (try simp only); omega, by (try simp only); omega, by (try simp only); omega, by (try simp only); omega, by (try simp only); omega, by (try simp only); omega, by (try simp only); omega, by (try simp only); omega, by (try simp only); omega, by (try simp only); omega, by (try simp only); omega⟩
        have hnet := Ad.net_gross F1 F2 (by (try simp only); omega)
        obtain ⟨u1, a1, f1, p1, k1, o1, s1, hR1⟩ := Ad.res_fine F1
        obtain ⟨u2, a2, f2, p2, k2, o2, s2, hR2⟩ := Ad.res_fine F2
        obtain ⟨n1, hn1⟩ : ∃ x, Ad.net ⟨4, l, de, fr, co, av⟩ ⟨va, su, gr⟩ = x := ⟨_, rfl⟩
        obtain ⟨n2, hn2⟩ : ∃ x, Ad.net ⟨4, l, de, fr, co, av⟩ ⟨va, su, gr + t⟩ = x := ⟨_, rfl⟩
        rw [hn1] at hR1
        rw [hn2] at hR2
        simp only at hR1 hR2 hnet
        have hnet' : n1 ≤ n2 := by rw [← hn1, ← hn2]; exact hnet
        have C1 := adjust_c 4 l de fr co av none 0 0 va su gr _ u1 a1 f1 p1 k1 o1 s1 n1 0 hR1 F1.err
        have C2 := adjust_c 4 l de fr co av none 0 0 va su (gr + t) _ u2 a2 f2 p2 k2 o2 s2 n2 0 hR2 F2.err
        clear hnet hR1 hR2 hn1 hn2 F1 F2
        have w1' : IntKind.i64.wrap (1073741824 - gr) = 1073741824 - gr := by rw [IntKind.wrap_i64]; omega
        have w2' : IntKind.i64.wrap (1073741824 - gr + 1) = 1073741824 - gr + 1 := by rw [IntKind.wrap_i64]; omega
        have w3' : IntKind.i64.wrap (gr + t) = gr + t := by rw [IntKind.wrap_i64]; omega
        go_wp2_with fail
        refine wp_region_still_tail 10 (by kernel_rfl) (by kernel_rfl) ?_
        simp only [List.take_succ_cons, List.take_zero, List.drop_succ_cons, List.drop_zero]
        repeat (first | still_step | (refine wpStill_step (fun K hK => ?_); go_simp; (with_reducible refine ⟨_, CW.out _, hK _ ?_⟩); clear hK K))
        try refine wpStill_nil ?_
        clear w1' w2' w3' CW
        obtain ⟨wd, hwd⟩ : ∃ wd, wc.drew = wd := ⟨_, rfl⟩
        change wpList _ _ _ _ _ wc.drew
        rw [hwd]
        replace H7 : Hid (Has wd b7 _ _) := Lib.hid (by rw [← hwd]; exact H7.out.drew)
        replace H8 : Hid (Has wd (b7 + 1) _ _) := Lib.hid (by rw [← hwd]; exact H8.out.drew)
        replace H9 : Hid (Has wd b9 _ _) := Lib.hid (by rw [← hwd]; exact H9.out.drew)
        replace H10 : Hid (Has wd b10 _ _) := Lib.hid (by rw [← hwd]; exact H10.out.drew)
        replace HB : Hid (Below w.heap.size w wd) := Lib.hid (by rw [← hwd]; exact HB.out.drew)
        clear hwd d0 d1 d2 y0 y1 y2
        obtain ⟨y0, y1, y2⟩ := H10.out.rules
        go_upto_region 19 with (fail)
        obtain ⟨we, hwe⟩ : ∃ we, wd.setCell ⟨b10, 3, none⟩ (.int .i64 (gr + t)) = we := ⟨_, rfl⟩
        rw [hwe]
        replace H7 : Hid (Has we b7 _ _) := Lib.hid (by rw [← hwe]; exact H7.out.far (by simp; omega) _)
        replace H8 : Hid (Has we (b7 + 1) _ _) := Lib.hid (by rw [← hwe]; exact H8.out.far (by simp; omega) _)
        replace H9 : Hid (Has we _ _ _) := Lib.hid (by rw [← hwe]; exact H9.out.far (by simp; omega) _)
        have H10' := H10.out.put 3 (.int .i64 (gr + t))
        rw [hwe] at H10'
        simp only [List.setIfInBounds_toArray, List.set_cons_zero, List.set_cons_succ] at H10'
        replace H10 := Lib.hid H10'
        replace HB : Hid (Below w.heap.size w we) := Lib.hid (by rw [← hwe]; exact HB.out.setCell (by simp; omega) _)
        clear hwe H10' y0 y1 y2
        obtain ⟨d0, d1, d2⟩ := H7.out.rules
        obtain ⟨x0, x1, x2⟩ := H8.out.rules
        go_wp2_with fail
        refine (C1.out _).mono ?_
        rintro e w5 ⟨rfl, hb⟩
        replace H9 := Lib.hid (H9.out.below hb H9.out.lt)
        replace H10 := Lib.hid (H10.out.below hb H10.out.lt)
        replace HB : Hid (Below w.heap.size w w5) := Lib.hid (HB.out.trans (hb.mono HB.out.size))
        clear hb d0 d1 d2 x0 x1 x2 H7 H8 C1
        obtain ⟨d0, d1, d2⟩ := H9.out.rules
        obtain ⟨x0, x1, x2⟩ := H10.out.rules
        have hz5 := HB.out.size
        go_wp2_with fail
        refine (C2.out _).mono ?_
        rintro e w6 ⟨rfl, hb⟩
        have HA := Lib.hid ((Has.new w5 _ _).below hb (by simp))
        replace HB : Hid (Below w.heap.size w w6) := Lib.hid ((HB.out.alloc HB.out.size _).trans (hb.mono (by simp; omega)))
        clear hb d0 d1 d2 x0 x1 x2 H9 H10 C2
        obtain ⟨a0', a1', a2'⟩ := HA.out.rules
        have hz6 := HB.out.size
        go_wp2_with (first | (go_at_call 12; refine (awake16_any _).mono ?_; rintro e w4 ⟨rfl, hb4⟩))
        go_ret
        exact ⟨rfl, (HB.out.alloc HB.out.size _).trans (hb4.mono (by simp; omega))⟩
      · skip
        obtain ⟨y0, y1, y2⟩ := H9.out.rules
        obtain ⟨t0, t1⟩ := Am.within_bound num (1073741824 - de + 1) (by omega)
        obtain ⟨t, ht⟩ : ∃ t, Am.within num (1073741824 - de + 1) = t := ⟨_, rfl⟩
        rw [ht] at t0 t1
        have CW : Hid (∀ W, Calls Try.prog 13 #[.int .i64 num, .int .i64 (1073741824 - de + 1)] W fun e w' => e = .returned (.int .i64 t) ∧ w' = W) := Lib.hid fun W => by
          have := still_left (within_any num (1073741824 - de + 1) W (by omega) (by omega))
          rw [ht] at this
          exact this
        clear ht
        have F1 : Ad.Fine ⟨4, l, de, fr, co, av⟩ ⟨va, su, gr⟩ := ⟨rfl, by (try simp only); omega, by (try simp only); omega, by (try simp only); omega, by (try simp only); omega, by (try simp only); omega, by (try simp only); omega, by (try simp only); omega, by (try simp only); omega, by (try simp only); omega, by (try simp only); omega, by (try simp only); omega, by (try simp only); omega, by (try simp only); omega, by (try simp only); omega⟩
        have F2 : Ad.Fine ⟨4, l, de + t, fr, co, av⟩ ⟨va, su, gr⟩ := ⟨rfl, by (try simp only); omega, by (try simp only); omega, by (try simp only); omega, by (try simp only); omega, by (try simp only); omega, by (try simp only); omega, by (try simp only); omega, by (try simp only); omega, by (try simp only); omega, by (try simp only); omega, by (try simp only); omega, by (try simp only); omega, by (try simp only); omega, by (try simp only); omega⟩
        have hnet := Ad.net_ded F1 F2 (by (try simp only); omega)
        obtain ⟨u1, a1, f1, p1, k1, o1, s1, hR1⟩ := Ad.res_fine F1
        obtain ⟨u2, a2, f2, p2, k2, o2, s2, hR2⟩ := Ad.res_fine F2
        obtain ⟨n1, hn1⟩ : ∃ x, Ad.net ⟨4, l, de, fr, co, av⟩ ⟨va, su, gr⟩ = x := ⟨_, rfl⟩
        obtain ⟨n2, hn2⟩ : ∃ x, Ad.net ⟨4, l, de + t, fr, co, av⟩ ⟨va, su, gr⟩ = x := ⟨_, rfl⟩
        rw [hn1] at hR1
        rw [hn2] at hR2
        simp only at hR1 hR2 hnet
        have hnet' : n2 ≤ n1 := by rw [← hn1, ← hn2]; exact hnet
        have C1 := adjust_c 4 l de fr co av none 0 0 va su gr _ u1 a1 f1 p1 k1 o1 s1 n1 0 hR1 F1.err
        have C2 := adjust_c 4 l (de + t) fr co av none 0 0 va su gr _ u2 a2 f2 p2 k2 o2 s2 n2 0 hR2 F2.err
        clear hnet hR1 hR2 hn1 hn2 F1 F2
        have w1' : IntKind.i64.wrap (1073741824 - de) = 1073741824 - de := by rw [IntKind.wrap_i64]; omega
        have w2' : IntKind.i64.wrap (1073741824 - de + 1) = 1073741824 - de + 1 := by rw [IntKind.wrap_i64]; omega
        have w3' : IntKind.i64.wrap (de + t) = de + t := by rw [IntKind.wrap_i64]; omega
        go_wp2_with fail
        refine wp_region_still_tail 10 (by kernel_rfl) (by kernel_rfl) ?_
        simp only [List.take_succ_cons, List.take_zero, List.drop_succ_cons, List.drop_zero]
        repeat (first | still_step | (refine wpStill_step (fun K hK => ?_); go_simp; (with_reducible refine ⟨_, CW.out _, hK _ ?_⟩); clear hK K))
        try refine wpStill_nil ?_
        clear w1' w2' w3' CW
        obtain ⟨wd, hwd⟩ : ∃ wd, wc.drew = wd := ⟨_, rfl⟩
        change wpList _ _ _ _ _ wc.drew
        rw [hwd]
        replace H7 : Hid (Has wd b7 _ _) := Lib.hid (by rw [← hwd]; exact H7.out.drew)
        replace H8 : Hid (Has wd (b7 + 1) _ _) := Lib.hid (by rw [← hwd]; exact H8.out.drew)
        replace H9 : Hid (Has wd b9 _ _) := Lib.hid (by rw [← hwd]; exact H9.out.drew)
        replace H10 : Hid (Has wd b10 _ _) := Lib.hid (by rw [← hwd]; exact H10.out.drew)
        replace HB : Hid (Below w.heap.size w wd) := Lib.hid (by rw [← hwd]; exact HB.out.drew)
        clear hwd d0 d1 d2 y0 y1 y2
        obtain ⟨y0, y1, y2⟩ := H9.out.rules
        go_upto_region 19 with (fail)
        obtain ⟨we, hwe⟩ : ∃ we, wd.setCell ⟨b9, 2, none⟩ (.int .i64 (de + t)) = we := ⟨_, rfl⟩
        rw [hwe]
        replace H7 : Hid (Has we b7 _ _) := Lib.hid (by rw [← hwe]; exact H7.out.far (by simp; omega) _)
        replace H8 : Hid (Has we (b7 + 1) _ _) := Lib.hid (by rw [← hwe]; exact H8.out.far (by simp; omega) _)
        replace H10 : Hid (Has we _ _ _) := Lib.hid (by rw [← hwe]; exact H10.out.far (by simp; omega) _)
        have H9' := H9.out.put 2 (.int .i64 (de + t))
        rw [hwe] at H9'
        simp only [List.setIfInBounds_toArray, List.set_cons_zero, List.set_cons_succ] at H9'
        replace H9 := Lib.hid H9'
        replace HB : Hid (Below w.heap.size w we) := Lib.hid (by rw [← hwe]; exact HB.out.setCell (by simp; omega) _)
        clear hwe H9' y0 y1 y2
        obtain ⟨d0, d1, d2⟩ := H7.out.rules
        obtain ⟨x0, x1, x2⟩ := H8.out.rules
        go_wp2_with fail
        refine (C1.out _).mono ?_
        rintro e w5 ⟨rfl, hb⟩
        replace H9 := Lib.hid (H9.out.below hb H9.out.lt)
        replace H10 := Lib.hid (H10.out.below hb H10.out.lt)
        replace HB : Hid (Below w.heap.size w w5) := Lib.hid (HB.out.trans (hb.mono HB.out.size))
        clear hb d0 d1 d2 x0 x1 x2 H7 H8 C1
        obtain ⟨d0, d1, d2⟩ := H9.out.rules
        obtain ⟨x0, x1, x2⟩ := H10.out.rules
        have hz5 := HB.out.size
        go_wp2_with fail
        refine (C2.out _).mono ?_
        rintro e w6 ⟨rfl, hb⟩
        have HA := Lib.hid ((Has.new w5 _ _).below hb (by simp))
        replace HB : Hid (Below w.heap.size w w6) := Lib.hid ((HB.out.alloc HB.out.size _).trans (hb.mono (by simp; omega)))
        clear hb d0 d1 d2 x0 x1 x2 H9 H10 C2
        obtain ⟨a0', a1', a2'⟩ := HA.out.rules
        have hz6 := HB.out.size
        go_wp2_with (first | (go_at_call 12; refine (awake16_any _).mono ?_; rintro e w4 ⟨rfl, hb4⟩))
        go_ret
        exact ⟨rfl, (HB.out.alloc HB.out.size _).trans (hb4.mono (by simp; omega))⟩
      · skip
        obtain ⟨y0, y1, y2⟩ := H9.out.rules
        obtain ⟨t0, t1⟩ := Am.within_bound num (1073741824 - fr + 1) (by omega)
        obtain ⟨t, ht⟩ : ∃ t, Am.within num (1073741824 - fr + 1) = t := ⟨_, rfl⟩
        rw [ht] at t0 t1
        have CW : Hid (∀ W, Calls Try.prog 13 #[.int .i64 num, .int .i64 (1073741824 - fr + 1)] W fun e w' => e = .returned (.int .i64 t) ∧ w' = W) := Lib.hid fun W => by
          have := still_left (within_any num (1073741824 - fr + 1) W (by omega) (by omega))
          rw [ht] at this
          exact this
        clear ht
        have F1 : Ad.Fine ⟨4, l, de, fr, co, av⟩ ⟨va, su, gr⟩ := ⟨rfl, by (try simp only); omega, by (try simp only); omega, by (try simp only); omega, by (try simp only); omega, by (try simp only); omega, by (try simp only); omega, by (try simp only); omega, by (try simp only); omega, by (try simp only); omega, by (try simp only); omega, by (try simp only); omega, by (try simp only); omega, by (try simp only); omega, by (try simp only); omega⟩
        have F2 : Ad.Fine ⟨4, l, de, fr + t, co, av⟩ ⟨va, su, gr⟩ := ⟨rfl, by (try simp only); omega, by (try simp only); omega, by (try simp only); omega, by (try simp only); omega, by (try simp only); omega, by (try simp only); omega, by (try simp only); omega, by (try simp only); omega, by (try simp only); omega, by (try simp only); omega, by (try simp only); omega, by (try simp only); omega, by (try simp only); omega, by (try simp only); omega⟩
        have hnet := Ad.net_fran F1 F2 (by (try simp only); omega)
        obtain ⟨u1, a1, f1, p1, k1, o1, s1, hR1⟩ := Ad.res_fine F1
        obtain ⟨u2, a2, f2, p2, k2, o2, s2, hR2⟩ := Ad.res_fine F2
        obtain ⟨n1, hn1⟩ : ∃ x, Ad.net ⟨4, l, de, fr, co, av⟩ ⟨va, su, gr⟩ = x := ⟨_, rfl⟩
        obtain ⟨n2, hn2⟩ : ∃ x, Ad.net ⟨4, l, de, fr + t, co, av⟩ ⟨va, su, gr⟩ = x := ⟨_, rfl⟩
        rw [hn1] at hR1
        rw [hn2] at hR2
        simp only at hR1 hR2 hnet
        have hnet' : n2 ≤ n1 := by rw [← hn1, ← hn2]; exact hnet
        have C1 := adjust_c 4 l de fr co av none 0 0 va su gr _ u1 a1 f1 p1 k1 o1 s1 n1 0 hR1 F1.err
        have C2 := adjust_c 4 l de (fr + t) co av none 0 0 va su gr _ u2 a2 f2 p2 k2 o2 s2 n2 0 hR2 F2.err
        clear hnet hR1 hR2 hn1 hn2 F1 F2
        have w1' : IntKind.i64.wrap (1073741824 - fr) = 1073741824 - fr := by rw [IntKind.wrap_i64]; omega
        have w2' : IntKind.i64.wrap (1073741824 - fr + 1) = 1073741824 - fr + 1 := by rw [IntKind.wrap_i64]; omega
        have w3' : IntKind.i64.wrap (fr + t) = fr + t := by rw [IntKind.wrap_i64]; omega
        go_wp2_with fail
        refine wp_region_still_tail 10 (by kernel_rfl) (by kernel_rfl) ?_
        simp only [List.take_succ_cons, List.take_zero, List.drop_succ_cons, List.drop_zero]
        repeat (first | still_step | (refine wpStill_step (fun K hK => ?_); go_simp; (with_reducible refine ⟨_, CW.out _, hK _ ?_⟩); clear hK K))
        try refine wpStill_nil ?_
        clear w1' w2' w3' CW
        obtain ⟨wd, hwd⟩ : ∃ wd, wc.drew = wd := ⟨_, rfl⟩
        change wpList _ _ _ _ _ wc.drew
        rw [hwd]
        replace H7 : Hid (Has wd b7 _ _) := Lib.hid (by rw [← hwd]; exact H7.out.drew)
        replace H8 : Hid (Has wd (b7 + 1) _ _) := Lib.hid (by rw [← hwd]; exact H8.out.drew)
        replace H9 : Hid (Has wd b9 _ _) := Lib.hid (by rw [← hwd]; exact H9.out.drew)
        replace H10 : Hid (Has wd b10 _ _) := Lib.hid (by rw [← hwd]; exact H10.out.drew)
        replace HB : Hid (Below w.heap.size w wd) := Lib.hid (by rw [← hwd]; exact HB.out.drew)
        clear hwd d0 d1 d2 y0 y1 y2
        obtain ⟨y0, y1, y2⟩ := H9.out.rules
        go_upto_region 19 with (fail)
        obtain ⟨we, hwe⟩ : ∃ we, wd.setCell ⟨b9, 3, none⟩ (.int .i64 (fr + t)) = we := ⟨_, rfl⟩
        rw [hwe]
        replace H7 : Hid (Has we b7 _ _) := Lib.hid (by rw [← hwe]; exact H7.out.far (by simp; omega) _)
        replace H8 : Hid (Has we (b7 + 1) _ _) := Lib.hid (by rw [← hwe]; exact H8.out.far (by simp; omega) _)
        replace H10 : Hid (Has we _ _ _) := Lib.hid (by rw [← hwe]; exact H10.out.far (by simp; omega) _)
        have H9' := H9.out.put 3 (.int .i64 (fr + t))
        rw [hwe] at H9'
        simp only [List.setIfInBounds_toArray, List.set_cons_zero, List.set_cons_succ] at H9'
        replace H9 := Lib.hid H9'
        replace HB : Hid (Below w.heap.size w we) := Lib.hid (by rw [← hwe]; exact HB.out.setCell (by simp; omega) _)
        clear hwe H9' y0 y1 y2
        obtain ⟨d0, d1, d2⟩ := H7.out.rules
        obtain ⟨x0, x1, x2⟩ := H8.out.rules
        go_wp2_with fail
        refine (C1.out _).mono ?_
        rintro e w5 ⟨rfl, hb⟩
        replace H9 := Lib.hid (H9.out.below hb H9.out.lt)
        replace H10 := Lib.hid (H10.out.below hb H10.out.lt)
        replace HB : Hid (Below w.heap.size w w5) := Lib.hid (HB.out.trans (hb.mono HB.out.size))
        clear hb d0 d1 d2 x0 x1 x2 H7 H8 C1
        obtain ⟨d0, d1, d2⟩ := H9.out.rules
        obtain ⟨x0, x1, x2⟩ := H10.out.rules
        have hz5 := HB.out.size
        go_wp2_with fail
        refine (C2.out _).mono ?_
        rintro e w6 ⟨rfl, hb⟩
        have HA := Lib.hid ((Has.new w5 _ _).below hb (by simp))
        replace HB : Hid (Below w.heap.size w w6) := Lib.hid ((HB.out.alloc HB.out.size _).trans (hb.mono (by simp; omega)))
        clear hb d0 d1 d2 x0 x1 x2 H9 H10 C2
        obtain ⟨a0', a1', a2'⟩ := HA.out.rules
        have hz6 := HB.out.size
        go_wp2_with (first | (go_at_call 12; refine (awake16_any _).mono ?_; rintro e w4 ⟨rfl, hb4⟩))
        go_ret
        exact ⟨rfl, (HB.out.alloc HB.out.size _).trans (hb4.mono (by simp; omega))⟩
      · skip
        obtain ⟨y0, y1, y2⟩ := H9.out.rules
        obtain ⟨t0, t1⟩ := Am.within_bound num (1000000 - co + 1) (by omega)
        obtain ⟨t, ht⟩ : ∃ t, Am.within num (1000000 - co + 1) = t := ⟨_, rfl⟩
        rw [ht] at t0 t1
        have CW : Hid (∀ W, Calls Try.prog 13 #[.int .i64 num, .int .i64 (1000000 - co + 1)] W fun e w' => e = .returned (.int .i64 t) ∧ w' = W) := Lib.hid fun W => by
          have := still_left (within_any num (1000000 - co + 1) W (by omega) (by omega))
          rw [ht] at this
          exact this
        clear ht
        have F1 : Ad.Fine ⟨4, l, de, fr, co, av⟩ ⟨va, su, gr⟩ := ⟨rfl, by (try simp only); omega, by (try simp only); omega, by (try simp only); omega, by (try simp only); omega, by (try simp only); omega, by (try simp only); omega, by (try simp only); omega, by (try simp only); omega, by (try simp only); omega, by (try simp only); omega, by (try simp only); omega, by (try simp only); omega, by (try simp only); omega, by (try simp only); omega⟩
        have F2 : Ad.Fine ⟨4, l, de, fr, co + t, av⟩ ⟨va, su, gr⟩ := ⟨rfl, by (try simp only); omega, by (try simp only); omega, by (try simp only); omega, by (try simp only); omega, by (try simp only); omega, by (try simp only); omega, by (try simp only); omega, by (try simp only); omega, by (try simp only); omega, by (try simp only); omega, by (try simp only); omega, by (try simp only); omega, by (try simp only); omega, by (try simp only); omega⟩
        have hnet := Ad.net_coin F1 F2 (by (try simp only); omega)
        obtain ⟨u1, a1, f1, p1, k1, o1, s1, hR1⟩ := Ad.res_fine F1
        obtain ⟨u2, a2, f2, p2, k2, o2, s2, hR2⟩ := Ad.res_fine F2
        obtain ⟨n1, hn1⟩ : ∃ x, Ad.net ⟨4, l, de, fr, co, av⟩ ⟨va, su, gr⟩ = x := ⟨_, rfl⟩
        obtain ⟨n2, hn2⟩ : ∃ x, Ad.net ⟨4, l, de, fr, co + t, av⟩ ⟨va, su, gr⟩ = x := ⟨_, rfl⟩
        rw [hn1] at hR1
        rw [hn2] at hR2
        simp only at hR1 hR2 hnet
        have hnet' : n2 ≤ n1 := by rw [← hn1, ← hn2]; exact hnet
        have C1 := adjust_c 4 l de fr co av none 0 0 va su gr _ u1 a1 f1 p1 k1 o1 s1 n1 0 hR1 F1.err
        have C2 := adjust_c 4 l de fr (co + t) av none 0 0 va su gr _ u2 a2 f2 p2 k2 o2 s2 n2 0 hR2 F2.err
        clear hnet hR1 hR2 hn1 hn2 F1 F2
        have w1' : IntKind.i64.wrap (1000000 - co) = 1000000 - co := by rw [IntKind.wrap_i64]; omega
        have w2' : IntKind.i64.wrap (1000000 - co + 1) = 1000000 - co + 1 := by rw [IntKind.wrap_i64]; omega
        have w3' : IntKind.i64.wrap (co + t) = co + t := by rw [IntKind.wrap_i64]; omega
        go_wp2_with fail
        refine wp_region_still_tail 10 (by kernel_rfl) (by kernel_rfl) ?_
        simp only [List.take_succ_cons, List.take_zero, List.drop_succ_cons, List.drop_zero]
        repeat (first | still_step | (refine wpStill_step (fun K hK => ?_); go_simp; (with_reducible refine ⟨_, CW.out _, hK _ ?_⟩); clear hK K))
        try refine wpStill_nil ?_
        clear w1' w2' w3' CW
        obtain ⟨wd, hwd⟩ : ∃ wd, wc.drew = wd := ⟨_, rfl⟩
        change wpList _ _ _ _ _ wc.drew
        rw [hwd]
        replace H7 : Hid (Has wd b7 _ _) := Lib.hid (by rw [← hwd]; exact H7.out.drew)
        replace H8 : Hid (Has wd (b7 + 1) _ _) := Lib.hid (by rw [← hwd]; exact H8.out.drew)
        replace H9 : Hid (Has wd b9 _ _) := Lib.hid (by rw [← hwd]; exact H9.out.drew)
        replace H10 : Hid (Has wd b10 _ _) := Lib.hid (by rw [← hwd]; exact H10.out.drew)
        replace HB : Hid (Below w.heap.size w wd) := Lib.hid (by rw [← hwd]; exact HB.out.drew)
        clear hwd d0 d1 d2 y0 y1 y2
        obtain ⟨y0, y1, y2⟩ := H9.out.rules
        go_upto_region 19 with (fail)
        obtain ⟨we, hwe⟩ : ∃ we, wd.setCell ⟨b9, 4, none⟩ (.int .i64 (co + t)) = we := ⟨_, rfl⟩
        rw [hwe]
        replace H7 : Hid (Has we b7 _ _) := Lib.hid (by rw [← hwe]; exact H7.out.far (by simp; omega) _)
        replace H8 : Hid (Has we (b7 + 1) _ _) := Lib.hid (by rw [← hwe]; exact H8.out.far (by simp; omega) _)
        replace H10 : Hid (Has we _ _ _) := Lib.hid (by rw [← hwe]; exact H10.out.far (by simp; omega) _)
        have H9' := H9.out.put 4 (.int .i64 (co + t))
        rw [hwe] at H9'
        simp only [List.setIfInBounds_toArray, List.set_cons_zero, List.set_cons_succ] at H9'
        replace H9 := Lib.hid H9'
        replace HB : Hid (Below w.heap.size w we) := Lib.hid (by rw [← hwe]; exact HB.out.setCell (by simp; omega) _)
        clear hwe H9' y0 y1 y2
        obtain ⟨d0, d1, d2⟩ := H7.out.rules
        obtain ⟨x0, x1, x2⟩ := H8.out.rules
        go_wp2_with fail
        refine (C1.out _).mono ?_
        rintro e w5 ⟨rfl, hb⟩
        replace H9 := Lib.hid (H9.out.below hb H9.out.lt)
        replace H10 := Lib.hid (H10.out.below hb H10.out.lt)
        replace HB : Hid (Below w.heap.size w w5) := Lib.hid (HB.out.trans (hb.mono HB.out.size))
        clear hb d0 d1 d2 x0 x1 x2 H7 H8 C1
        obtain ⟨d0, d1, d2⟩ := H9.out.rules
        obtain ⟨x0, x1, x2⟩ := H10.out.rules
        have hz5 := HB.out.size
        go_wp2_with fail
        refine (C2.out _).mono ?_
        rintro e w6 ⟨rfl, hb⟩
        have HA := Lib.hid ((Has.new w5 _ _).below hb (by simp))
        replace HB : Hid (Below w.heap.size w w6) := Lib.hid ((HB.out.alloc HB.out.size _).trans (hb.mono (by simp; omega)))
        clear hb d0 d1 d2 x0 x1 x2 H9 H10 C2
        obtain ⟨a0', a1', a2'⟩ := HA.out.rules
        have hz6 := HB.out.size
        go_wp2_with (first | (go_at_call 12; refine (awake16_any _).mono ?_; rintro e w4 ⟨rfl, hb4⟩))
        go_ret
        exact ⟨rfl, (HB.out.alloc HB.out.size _).trans (hb4.mono (by simp; omega))⟩
      · by_cases fl2 : 0 ≤ l
        · skip
          obtain ⟨y0, y1, y2⟩ := H9.out.rules
          obtain ⟨t0, t1⟩ := Am.within_bound num (1073741824 - l + 1) (by omega)
          obtain ⟨t, ht⟩ : ∃ t, Am.within num (1073741824 - l + 1) = t := ⟨_, rfl⟩
          rw [ht] at t0 t1
          have CW : Hid (∀ W, Calls Try.prog 13 #[.int .i64 num, .int .i64 (1073741824 - l + 1)] W fun e w' => e = .returned (.int .i64 t) ∧ w' = W) := Lib.hid fun W => by
            have := still_left (within_any num (1073741824 - l + 1) W (by omega) (by omega))
            rw [ht] at this
            exact this
          clear ht
          have F1 : Ad.Fine ⟨4, l, de, fr, co, av⟩ ⟨va, su, gr⟩ := ⟨rfl, by (try simp only); omega, by (try simp only); omega, by (try simp only); omega, by (try simp only); omega, by (try simp only); omega, by (try simp only); omega, by (try simp only); omega, by (try simp only); omega, by (try simp only); omega, by (try simp only); omega, by (try simp only); omega, by (try simp only); omega, by (try simp only); omega, by (try simp only); omega⟩
          have F2 : Ad.Fine ⟨4, l + t, de, fr, co, av⟩ ⟨va, su, gr⟩ := ⟨rfl, by (try simp only); omega, by (try simp only); omega, by (try simp only); omega, by (try simp only); omega, by (try simp only); omega, by (try simp only); omega, by (try simp only); omega, by (try simp only); omega, by (try simp only); omega, by (try simp only); omega, by (try simp only); omega, by (try simp only); omega, by (try simp only); omega, by (try simp only); omega⟩
          have hnet := Ad.net_lim F1 F2 fl2 (by (try simp only); omega)
          obtain ⟨u1, a1, f1, p1, k1, o1, s1, hR1⟩ := Ad.res_fine F1
          obtain ⟨u2, a2, f2, p2, k2, o2, s2, hR2⟩ := Ad.res_fine F2
          obtain ⟨n1, hn1⟩ : ∃ x, Ad.net ⟨4, l, de, fr, co, av⟩ ⟨va, su, gr⟩ = x := ⟨_, rfl⟩
          obtain ⟨n2, hn2⟩ : ∃ x, Ad.net ⟨4, l + t, de, fr, co, av⟩ ⟨va, su, gr⟩ = x := ⟨_, rfl⟩
          rw [hn1] at hR1
          rw [hn2] at hR2
          simp only at hR1 hR2 hnet
          have hnet' : n1 ≤ n2 := by rw [← hn1, ← hn2]; exact hnet
          have C1 := adjust_c 4 l de fr co av none 0 0 va su gr _ u1 a1 f1 p1 k1 o1 s1 n1 0 hR1 F1.err
          have C2 := adjust_c 4 (l + t) de fr co av none 0 0 va su gr _ u2 a2 f2 p2 k2 o2 s2 n2 0 hR2 F2.err
          clear hnet hR1 hR2 hn1 hn2 F1 F2
          have w1' : IntKind.i64.wrap (1073741824 - l) = 1073741824 - l := by rw [IntKind.wrap_i64]; omega
          have w2' : IntKind.i64.wrap (1073741824 - l + 1) = 1073741824 - l + 1 := by rw [IntKind.wrap_i64]; omega
          have w3' : IntKind.i64.wrap (l + t) = l + t := by rw [IntKind.wrap_i64]; omega
          go_wp2_with fail
          refine wp_region_still_tail 10 (by kernel_rfl) (by kernel_rfl) ?_
          simp only [List.take_succ_cons, List.take_zero, List.drop_succ_cons, List.drop_zero]
          repeat (first | still_step | (refine wpStill_step (fun K hK => ?_); go_simp; (with_reducible refine ⟨_, CW.out _, hK _ ?_⟩); clear hK K))
          try refine wpStill_nil ?_
          clear w1' w2' w3' CW
          obtain ⟨wd, hwd⟩ : ∃ wd, wc.drew = wd := ⟨_, rfl⟩
          change wpList _ _ _ _ _ wc.drew
          rw [hwd]
          replace H7 : Hid (Has wd b7 _ _) := Lib.hid (by rw [← hwd]; exact H7.out.drew)
          replace H8 : Hid (Has wd (b7 + 1) _ _) := Lib.hid (by rw [← hwd]; exact H8.out.drew)
          replace H9 : Hid (Has wd b9 _ _) := Lib.hid (by rw [← hwd]; exact H9.out.drew)
          replace H10 : Hid (Has wd b10 _ _) := Lib.hid (by rw [← hwd]; exact H10.out.drew)
          replace HB : Hid (Below w.heap.size w wd) := Lib.hid (by rw [← hwd]; exact HB.out.drew)
          clear hwd d0 d1 d2 y0 y1 y2
          obtain ⟨y0, y1, y2⟩ := H9.out.rules
          go_upto_region 19 with (fail)
          obtain ⟨we, hwe⟩ : ∃ we, wd.setCell ⟨b9, 1, none⟩ (.int .i64 (l + t)) = we := ⟨_, rfl⟩
          rw [hwe]
          replace H7 : Hid (Has we b7 _ _) := Lib.hid (by rw [← hwe]; exact H7.out.far (by simp; omega) _)
          replace H8 : Hid (Has we (b7 + 1) _ _) := Lib.hid (by rw [← hwe]; exact H8.out.far (by simp; omega) _)
          replace H10 : Hid (Has we _ _ _) := Lib.hid (by rw [← hwe]; exact H10.out.far (by simp; omega) _)
          have H9' := H9.out.put 1 (.int .i64 (l + t))
          rw [hwe] at H9'
          simp only [List.setIfInBounds_toArray, List.set_cons_zero, List.set_cons_succ] at H9'
          replace H9 := Lib.hid H9'
          replace HB : Hid (Below w.heap.size w we) := Lib.hid (by rw [← hwe]; exact HB.out.setCell (by simp; omega) _)
          clear hwe H9' y0 y1 y2
          obtain ⟨d0, d1, d2⟩ := H7.out.rules
          obtain ⟨x0, x1, x2⟩ := H8.out.rules
          go_wp2_with fail
          refine (C1.out _).mono ?_
          rintro e w5 ⟨rfl, hb⟩
          replace H9 := Lib.hid (H9.out.below hb H9.out.lt)
          replace H10 := Lib.hid (H10.out.below hb H10.out.lt)
          replace HB : Hid (Below w.heap.size w w5) := Lib.hid (HB.out.trans (hb.mono HB.out.size))
          clear hb d0 d1 d2 x0 x1 x2 H7 H8 C1
          obtain ⟨d0, d1, d2⟩ := H9.out.rules
          obtain ⟨x0, x1, x2⟩ := H10.out.rules
          have hz5 := HB.out.size
          go_wp2_with fail
          refine (C2.out _).mono ?_
          rintro e w6 ⟨rfl, hb⟩
          have HA := Lib.hid ((Has.new w5 _ _).below hb (by simp))
          replace HB : Hid (Below w.heap.size w w6) := Lib.hid ((HB.out.alloc HB.out.size _).trans (hb.mono (by simp; omega)))
          clear hb d0 d1 d2 x0 x1 x2 H9 H10 C2
          obtain ⟨a0', a1', a2'⟩ := HA.out.rules
          have hz6 := HB.out.size
          go_wp2_with (first | (go_at_call 12; refine (awake16_any _).mono ?_; rintro e w4 ⟨rfl, hb4⟩))
          go_ret
          exact ⟨rfl, (HB.out.alloc HB.out.size _).trans (hb4.mono (by simp; omega))⟩
        · obtain ⟨y0, y1, y2⟩ := H9.out.rules
          go_wp2_with (first | (go_at_call 12; refine (awake16_any _).mono ?_; rintro e w4 ⟨rfl, hb4⟩))
          go_ret
          exact ⟨rfl, HB.out.trans (hb4.mono HB.out.size)⟩
    · have hv' : (v != 4) = true := by rw [bne_iff_ne]; exact hv
      go_wp2_with (first | (go_at_call 12; refine (awake16_any _).mono ?_; rintro e w4 ⟨rfl, hb4⟩))
      go_ret
      exact ⟨rfl, HB.out.trans (hb4.mono HB.out.size)⟩

set_option maxRecDepth 100000 in
theorem lifted (os : Os) (started : os.Started) (H : Type) (enc : TypeId × Value → H) :
    ReturnsInHanded {} Try.checked os 5 .any (Rows.adjustMoreSpec.pre6 enc Try.prog Try.f5 Rows.adjustMoreRow.domain false) (Rows.adjustMoreSpec.post enc Try.prog Try.f5 false true false false) := by
  refine returnsInHanded_of_change (C := Try.checked) own started (by kernel_rfl) Try.func5
    (ChangeSpec.witness6 (enc := enc) (C := Try.checked) false ⟨#[], #[.slice none 0 0, .int .u8 0, .int .i64 0], []⟩ 8 (by kernel_rfl) (by kernel_rfl) (by kernel_rfl) (by kernel_rfl)) ?_
  intro W base args ds gs before hval0 hW hcnd _
  have hval : ∀ (j : Nat) t v, Try.f5.params[j]? = some t → args[j]? = some v → Value.okWide Try.prog W .any base t v := hval0
  have hW' := hW
  obtain ⟨p, q, hA0, hV, rfl, hfz, hnd⟩ := hW
  have hA : DataW.TrodAll enc Try.prog W 0 (fun _ => true) true Try.f5.params.toList args.toList ds p := hA0
  rw [Try.params5] at hA hval
  obtain ⟨v0, vs0, d0, ds0, p0, q0, hargs, rfl, rfl, h0, r0⟩ := trodAll_cons hA
  obtain ⟨v1, vs1, d1, ds1, p1, q1, rfl, rfl, rfl, h1, r1⟩ := trodAll_cons r0
  obtain ⟨v2, vs2, d2, ds2, p2, q2, rfl, rfl, rfl, h2, r2⟩ := trodAll_cons r1
  obtain ⟨rfl, rfl, rfl⟩ := trodAll_nil r2
  obtain rfl : args = #[v0, v1, v2] := by cases args; simp_all
  obtain ⟨rfl, rfl⟩ := trodVars_none hV
  have k0 := h0
  have lt0 : ∀ x ∈ p0, x.block < W.heap.size := by obtain ⟨m, hm⟩ := k0; exact DataW.trod_lt m _ _ _ hm
  obtain ⟨a0, len0, cap0, rfl⟩ := okWide_slice Try.underlying24 (hval 0 24 v0 rfl rfl)
  have r100 : Rd24 W [.slice a0 len0 cap0] := by obtain ⟨fuel, hf⟩ := h0; exact rd24 hf
  have k1 := h1
  have lt1 : ∀ x ∈ p1, x.block < W.heap.size := by obtain ⟨m, hm⟩ := k1; exact DataW.trod_lt m _ _ _ hm
  obtain ⟨a1, rfl⟩ := okWide_int Try.underlying5 (hval 1 5 v1 rfl rfl)
  have r101 : Rd5 W [.int .u8 a1] := by obtain ⟨fuel, hf⟩ := h1; exact rd5 hf
  have k2 := h2
  have lt2 : ∀ x ∈ p2, x.block < W.heap.size := by obtain ⟨m, hm⟩ := k2; exact DataW.trod_lt m _ _ _ hm
  obtain ⟨a2, rfl⟩ := okWide_int Try.underlying3 (hval 2 3 v2 rfl rfl)
  have r102 : Rd3 W [.int .i64 a2] := by obtain ⟨fuel, hf⟩ := h2; exact rd3 hf
  clear hA0 hval0
  refine (walk _ _ _ W r100 r101 r102).mono fun e W' ⟨he, bel⟩ => ?_
  subst he
  exact ⟨_, rfl, _, _, _, [], _, [], hW', trodAll_mk1 (shut_bool Try.underlying4 _), (trodAll_cons_mk (Below.trod laidOut (by kernel_rfl) (of_decide_eq_true (by kernel_rfl)) k0 bel lt0) (trodAll_cons_mk (Below.trod laidOut (by kernel_rfl) (of_decide_eq_true (by kernel_rfl)) k1 bel lt1) (trodAll_cons_mk (Below.trod laidOut (by kernel_rfl) (of_decide_eq_true (by kernel_rfl)) k2 bel lt2) trodAll_mk0))), rfl, bel.frame _, fun h => by cases h⟩

theorem over : Rows.adjustMoreRow.holds Try.pinned (OpenSpec.ofChange Rows.adjustMoreSpec) :=
  OpenClaim.holds_of_wide 5 Try.f5 rfl rfl rfl rfl rfl rfl rfl ⟨rfl, rfl, rfl, rfl, rfl⟩ rfl rfl rfl rfl rfl (by kernel_rfl) Try.func5 (by kernel_rfl)
    (of_decide_eq_true (by kernel_rfl)) (by unfold Func.isWrapper; first | (rw [if_pos (by decide +kernel)]; kernel_rfl) | (rw [if_neg (by decide +kernel)]; exact ⟨rfl, rfl⟩))
    (fun os started H enc _ => lifted os started H enc)

/-- the statement -/
theorem proved : Rows.AdjustMoreSaid := over
#print axioms proved
end Go.Proofs.Ytageedgbkaknnaa.adjustMore
