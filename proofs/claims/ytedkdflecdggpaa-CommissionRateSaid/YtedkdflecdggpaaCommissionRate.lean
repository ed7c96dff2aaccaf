/- The law CommissionRate: Rate returns the specified rate or error, for all scales. No condition. -/
import Derived.Test.YtedkdflecdggpaaRows
import Derived.Test.YtedkdflecdggpaaRead
import Derived.Test.YtedkdflecdggpaaCoAw
import Derived.Test.YtedkdflecdggpaaCoRr
import Derived.Test.YtedkdflecdggpaaCoYr
import Derived.Test.YtedkdflecdggpaaArgs24
import Derived.Test.YtedkdflecdggpaaPush
import Derived.Deep.RegionLaw
import Derived.Deep.CutBlock
import Derived.WalkKit
import Derived.ProofKit
import Derived.OpenShut
import Derived.ShutString
import Derived.ChangeOld
import Derived.Below
namespace Go.Proofs.Ytedkdflecdggpaa.commissionRate
open Go.ChangeShapes Go.WideShapes Go.ChangeAt Go.RowKit
set_option linter.unusedVariables false

theorem own : ownKnob Try.prog.godebug = none := by kernel_rfl
theorem laidOut : laidOutB Try.prog = true := by kernel_rfl



set_option maxHeartbeats 4000000 in
set_option maxRecDepth 100000 in
theorem walk (v0 : Value) (v1 : Value) (v2 : Value) (v3 : Value) (c4 : List Value) (w : World) (h0 : Rd22 w [v0]) (h1 : Rd3 w [v1]) (h2 : Rd23 w [v2]) (h3 : Rd3 w [v3]) (h4 : Rd25 w c4) :
    Calls Try.prog 3 #[v0, v1, v2, v3, .agg c4.toArray] w fun e w' => e = .returned (.bool true) ∧ Below w.heap.size w w' := by
  obtain ⟨A1, n1, c1, f1, g1, rfl, hn1, hc1, _, hp1, _⟩ := rd_slide h0
  obtain ⟨rat, rfl, _, _⟩ := rd_i64 h1
  obtain ⟨A, n, c, z, rfl, hn, _, _, hc, _⟩ := rd_ints h2
  obtain ⟨at', rfl, _, _⟩ := rd_i64 h3
  obtain ⟨_, _, rfl, r0, r1⟩ := h4
  obtain ⟨x0, rfl, _, _⟩ := rd_i64 r0
  obtain ⟨x1, rfl, _, _⟩ := rd_i64 r1
  have HC := Lib.hid hc
  have HP1 := Lib.hid hp1
  clear h0 h1 h2 h3 hc hp1 r0 r1
  by_cases hl1 : 60 < n1
  · go_enter Try.func3, Try.ntmps3
    go_wp2_with (first | (go_at_call 11; refine (awake24_any _).mono ?_; rintro e w99 ⟨rfl, hb99⟩))
    go_ret
    exact ⟨rfl, (Below.refl _ _).alloc (Nat.le_refl _) _ |>.trans (hb99.mono (by simp))⟩
  have hl1' : n1 ≤ 60 := by omega
  clear hl1
  obtain ⟨i0, hi0, hz0, hz1, hz2⟩ := info_parts slide_info
  have HI := Lib.hid hi0
  have HZ0 := Lib.hid hz0
  have HZ1 := Lib.hid hz1
  have HZ2 := Lib.hid hz2
  clear hi0 hz0 hz1 hz2
  obtain ⟨⟨s1, t1⟩, hs1⟩ : ∃ s, Co.rate n1 f1 g1 rat = s := ⟨_, rfl⟩
  have C1 : Hid (∀ W : World, Below w.heap.size w W → Calls Try.prog 12 #[.slice A1 n1 c1, .int .i64 rat] W (PairPost (s1, t1) W)) := Lib.hid fun W hb => by
    have := crate_any A1 n1 c1 f1 g1 rat W hn1 hc1 ((HP1.out.below hb).mono hb.size)
    rw [hs1] at this
    exact this
  have C2 : Hid (∀ W : World, Below w.heap.size w W → Calls Try.prog 13 #[.slice A1 n1 c1, .int .i64 rat] W (PairPost (s1, t1) W)) := Lib.hid fun W hb => by
    have := rrate_any A1 n1 c1 f1 g1 rat W hn1 ((HP1.out.below hb).mono hb.size)
    rw [hs1] at this
    exact this
  clear hs1 HP1
  have HB := Lib.hid ((Below.refl w.heap.size w).alloc (Nat.le_refl _) (.cells #[.int .i64 x0, .int .i64 x1] 25))
  have HX := Lib.hid (Has.new w #[.int .i64 x0, .int .i64 x1] 25)
  go_enter Try.func3, Try.ntmps3
  go_wp2_with fail
  refine (C1.out _ HB.out).mono ?_
  rintro e w1 ⟨rfl, hb⟩
  replace HX := Lib.hid (HX.out.below hb HX.out.lt)
  replace HB : Hid (Below w.heap.size w w1) := Lib.hid (HB.out.trans (hb.mono HB.out.size))
  clear hb
  go_wp2_with fail
  refine (C2.out _ HB.out).mono ?_
  rintro e w2 ⟨rfl, hb⟩
  replace HX := Lib.hid (HX.out.below hb HX.out.lt)
  replace HB : Hid (Below w.heap.size w w2) := Lib.hid (HB.out.trans (hb.mono HB.out.size))
  clear hb C1 C2
  have hz2 := HB.out.size
  have hx2 := HX.out.lt
  go_wp2_with fail
  refine (deck_new A n c z w2 hn ((HC.out.below HB.out).mono hz2)).mono ?_
  rintro e w3 ⟨rfl, hb, hd⟩
  replace HX := Lib.hid (HX.out.below hb HX.out.lt)
  replace HB : Hid (Below w.heap.size w w3) := Lib.hid (HB.out.trans (hb.mono HB.out.size))
  have HD := Lib.hid hd
  clear hb hd HC
  go_wp2_with fail
  refine (scale_any _ _ HD.out).mono ?_
  rintro e w4 ⟨g3, c3, ps, rfl, hl3, hl3', hc3, hg3, hg3', hp3, hps, _, hk2, hd2⟩
  replace HX := Lib.hid (HX.out.keeps hk2 (by omega))
  replace HB : Hid (Below w.heap.size w w4) := Lib.hid (HB.out.trans (hk2.below (by omega) HB.out.size))
  replace HD := Lib.hid hd2
  have HP3 := Lib.hid hp3
  clear hk2 hd2 hp3 hps
  go_wp2_with fail
  refine (upto_any _ 9000000 _ HD.out (by omega) (by omega)).mono ?_
  rintro e w5 ⟨k5, rfl, k50, k51, hk2, hd2⟩
  replace HX := Lib.hid (HX.out.keeps hk2 (by omega))
  replace HB : Hid (Below w.heap.size w w5) := Lib.hid (HB.out.trans (hk2.below (by omega) HB.out.size))
  replace HP3 := Lib.hid (HP3.out.keeps_ne hk2 fun ad h => by injection h with h; subst h; exact hg3)
  clear hk2 hd2 HD
  obtain ⟨m3, hm3⟩ : ∃ m, ps.length = m := ⟨_, rfl⟩
  have HM := Lib.hid hm3
  rw [hm3] at hl3 hl3' hc3 HP3 ⊢
  clear hm3
  obtain ⟨⟨s2, t2⟩, hs2⟩ : ∃ s, Co.rate m3 (fstOf ps) (sndOf ps) k5 = s := ⟨_, rfl⟩
  have HS2 := Lib.hid hs2
  clear hs2
  go_wp2_with fail
  refine (crate_any (some ⟨g3, 0, none⟩) m3 c3 (fstOf ps) (sndOf ps) _ w5 (by omega) hc3 HP3.out).mono ?_
  rw [HS2.out]
  rintro e w6 ⟨rfl, hb⟩
  replace HX := Lib.hid (HX.out.below hb HX.out.lt)
  replace HB : Hid (Below w.heap.size w w6) := Lib.hid (HB.out.trans (hb.mono HB.out.size))
  replace HP3 := Lib.hid ((HP3.out.below hb).mono hb.size)
  clear hb
  go_wp2_with fail
  refine (rrate_any (some ⟨g3, 0, none⟩) m3 c3 (fstOf ps) (sndOf ps) _ w6 (by omega) HP3.out).mono ?_
  rw [HS2.out]
  rintro e w7 ⟨rfl, hb⟩
  replace HX := Lib.hid (HX.out.below hb HX.out.lt)
  replace HB : Hid (Below w.heap.size w w7) := Lib.hid (HB.out.trans (hb.mono HB.out.size))
  replace HP3 := Lib.hid ((HP3.out.below hb).mono hb.size)
  clear hb HS2
  have HN7 : Hid (∀ j u, (cellsOf ps)[j]? = some u → w7.cell? ((⟨g3, 0, none⟩ : Addr).add j) = some u) := Lib.hid (Pairs.news (B := w7.heap.size) (by rw [HM.out]; exact HP3.out))
  have hz7 := HB.out.size
  have hg7 : g3 < w7.heap.size := by
    obtain ⟨b, o, e, hb, _⟩ := HP3.out.get (j := 0) (by omega)
    injection e with e
    injection e with e
    omega
  have HLc : Hid ((cellsOf ps).length = m3 * 2) := Lib.hid (by rw [cellsOf_length, HM.out])
  go_wp2_with ((at_builtin; refine wpList_append_lies _ rfl _ _ 22 rfl w7.heap.size 25 i0 _ 2 16 Try.underlying22 HI.out HZ0.out HZ1.out HZ2.out rfl (by omega) (.slice (some ⟨w7.heap.size, 0, none⟩) 0 0) 0 [] rfl (own_empty w7 _ _) ⟨g3, 0, none⟩ m3 c3 (cellsOf ps) rfl HLc.out (fun j u hu => (World.cell?_alloc_lt w7 _ _ (by rw [add_block]; exact hg7)).trans (HN7.out j u hu)) (fun u hu => by obtain ⟨z, rfl⟩ := cellsOf_int ps u hu; rfl) (by omega) (by unfold maxLen; omega) (by omega) (by simp) (w7.heap.size + 1) (by simp) ?_; intro g cap w8 hown hgrow hat hlt))
  simp only [Nat.zero_add, List.nil_append] at hown
  have HB8 : Hid (Below w.heap.size w w8) := Lib.hid ((HB.out.alloc hz7 _).grown hgrow (by simp; omega) (fun k hk => by simp [Value.ownBlock] at hk; omega))
  have HX8 : Hid (Has w8 w.heap.size #[.int .i64 x0, .int .i64 x1] 25) := Lib.hid ((hgrow.block w.heap.size (by simp; omega) (fun e => by simp [Value.ownBlock] at e; have := HX.out.lt; omega)).trans (HX.out.alloc _))
  have hg8 : w7.heap.size ≤ g := by
    rcases hat with h | h
    · simp [Value.ownBlock] at h; omega
    · omega
  have HO8 := Lib.hid hown
  clear hown hgrow hat HX HB HP3 HN7
  obtain ⟨k, hk⟩ : ∃ k : Nat, Am.within at' m3 = k := ⟨(Am.within at' m3).toNat, by have := Am.within_bound at' m3 (by omega); omega⟩
  have hkm : k < m3 := by have := Am.within_bound at' m3 (by omega); omega
  have HW := Lib.hid hk
  clear hk
  obtain ⟨v0, v1, v2⟩ := HX8.out.rules
  have hk0 : (0 : Int) ≤ k := by omega
  have hk1 : (k : Int) < m3 := by omega
  have hc0 := HO8.out.cellAt (k * 2) (by omega)
  have hc1 := HO8.out.cellAt (k * 2 + 1) (by omega)
  rw [cellsOf_get ps _ (by rw [HM.out]; omega)] at hc0 hc1
  have hf0 := HO8.out.frozenAt (k * 2)
  have hf1 := HO8.out.frozenAt (k * 2 + 1)
  obtain ⟨y0, hy0⟩ : ∃ y, pairAt (fstOf ps) (sndOf ps) (k * 2) = y := ⟨_, rfl⟩
  obtain ⟨y1, hy1⟩ : ∃ y, pairAt (fstOf ps) (sndOf ps) (k * 2 + 1) = y := ⟨_, rfl⟩
  rw [hy0] at hc0
  rw [hy1] at hc1
  clear hy0 hy1
  go_cut [] (fun wx => ∃ xs, wx.ownsRow w7.heap.size 25 2 (.slice (some ⟨g, 0, none⟩) m3 cap) m3 xs ∧ (∀ u ∈ xs, ∃ z : Int, u = .int .i64 z) ∧ Below w.heap.size w wx)
  case first =>
    go_region_law (first | (go_simp; go_at_call 17; refine (within_any _ _ _ (by omega) (by omega)).mono ?_; rintro e w' ⟨rfl, rfl⟩; rw [HW.out]))
    all_goals
      go_wp2_with fail
      go_meet
      case rel =>
        refine ⟨_, ((HO8.out.stored (k * 2) (.int .i64 x0)).1.stored (k * 2 + 1) (.int .i64 x1)).1.drew, fun u hu => ?_, ((HB8.out.setCell (by simp only; omega) _).setCell (by simp only; omega) _).drew⟩
        rcases List.mem_or_eq_of_mem_set hu with hu | rfl
        · rcases List.mem_or_eq_of_mem_set hu with hu | rfl
          · exact cellsOf_int ps u hu
          · exact ⟨_, rfl⟩
        · exact ⟨_, rfl⟩
  case rest =>
    obtain ⟨xs, ho, hxi, hbx⟩ := hcut
    have hcap := (own_is ho).2.2
    have HB := Lib.hid hbx
    obtain ⟨f4, g4, hp4⟩ := pairs_some ho hxi
    have HP4 := Lib.hid hp4
    clear ho hxi hbx hp4 HO8 HB8 HX8 v0 v1 v2 hc0 hc1 hf0 hf1
    obtain ⟨⟨s3, t3⟩, hs3⟩ : ∃ s, Co.rate m3 f4 g4 k5 = s := ⟨_, rfl⟩
    have HS3 := Lib.hid hs3
    clear hs3
    go_wp2_with fail
    refine (crate_any (some ⟨g, 0, none⟩) m3 cap f4 g4 _ wc (by omega) hcap HP4.out).mono ?_
    rw [HS3.out]
    rintro e w11 ⟨rfl, hb⟩
    replace HB : Hid (Below w.heap.size w w11) := Lib.hid (HB.out.trans (hb.mono HB.out.size))
    replace HP4 := Lib.hid ((HP4.out.below hb).mono hb.size)
    clear hb
    go_wp2_with fail
    refine (rrate_any (some ⟨g, 0, none⟩) m3 cap f4 g4 _ w11 (by omega) HP4.out).mono ?_
    rw [HS3.out]
    rintro e w12 ⟨rfl, hb⟩
    replace HB : Hid (Below w.heap.size w w12) := Lib.hid (HB.out.trans (hb.mono HB.out.size))
    clear hb HP4 HS3
    go_wp2_with (first | (go_at_call 11; refine (awake24_any _).mono ?_; rintro e w99 ⟨rfl, hb99⟩))
    go_ret
    exact ⟨rfl, HB.out.trans (hb99.mono HB.out.size)⟩

set_option maxRecDepth 100000 in
theorem lifted (os : Os) (started : os.Started) (H : Type) (enc : TypeId × Value → H) :
    ReturnsInHanded {} Try.checked os 3 .any (Rows.commissionRateSpec.pre6 enc Try.prog Try.f3 Rows.commissionRateRow.domain false) (Rows.commissionRateSpec.post enc Try.prog Try.f3 false true false false) := by
  refine returnsInHanded_of_change (C := Try.checked) own started (by kernel_rfl) Try.func3
    (ChangeSpec.witness6 (enc := enc) (C := Try.checked) false ⟨#[], #[.slice none 0 0, .int .i64 0, .slice none 0 0, .int .i64 0, .agg #[.int .i64 0, .int .i64 0]], []⟩ 8 (by kernel_rfl) (by kernel_rfl) (by kernel_rfl) (by kernel_rfl)) ?_
  intro W base args ds gs before hval0 hW hcnd _
  have hval : ∀ (j : Nat) t v, Try.f3.params[j]? = some t → args[j]? = some v → Value.okWide Try.prog W .any base t v := hval0
  have hW' := hW
  obtain ⟨p, q, hA0, hV, rfl, hfz, hnd⟩ := hW
  have hA : DataW.TrodAll enc Try.prog W 0 (fun _ => true) true Try.f3.params.toList args.toList ds p := hA0
  rw [Try.params3] at hA hval
  obtain ⟨v0, vs0, d0, ds0, p0, q0, hargs, rfl, rfl, h0, r0⟩ := trodAll_cons hA
  obtain ⟨v1, vs1, d1, ds1, p1, q1, rfl, rfl, rfl, h1, r1⟩ := trodAll_cons r0
  obtain ⟨v2, vs2, d2, ds2, p2, q2, rfl, rfl, rfl, h2, r2⟩ := trodAll_cons r1
  obtain ⟨v3, vs3, d3, ds3, p3, q3, rfl, rfl, rfl, h3, r3⟩ := trodAll_cons r2
  obtain ⟨v4, vs4, d4, ds4, p4, q4, rfl, rfl, rfl, h4, r4⟩ := trodAll_cons r3
  obtain ⟨rfl, rfl, rfl⟩ := trodAll_nil r4
  obtain rfl : args = #[v0, v1, v2, v3, v4] := by cases args; simp_all
  obtain ⟨rfl, rfl⟩ := trodVars_none hV
  have k0 := h0
  have lt0 : ∀ x ∈ p0, x.block < W.heap.size := by obtain ⟨m, hm⟩ := k0; exact DataW.trod_lt m _ _ _ hm
  obtain ⟨a0, len0, cap0, rfl⟩ := okWide_slice Try.underlying22 (hval 0 22 v0 rfl rfl)
  have r100 : Rd22 W [.slice a0 len0 cap0] := by obtain ⟨fuel, hf⟩ := h0; exact rd22 hf
  have k1 := h1
  have lt1 : ∀ x ∈ p1, x.block < W.heap.size := by obtain ⟨m, hm⟩ := k1; exact DataW.trod_lt m _ _ _ hm
  obtain ⟨a1, rfl⟩ := okWide_int Try.underlying3 (hval 1 3 v1 rfl rfl)
  have r101 : Rd3 W [.int .i64 a1] := by obtain ⟨fuel, hf⟩ := h1; exact rd3 hf
  have k2 := h2
  have lt2 : ∀ x ∈ p2, x.block < W.heap.size := by obtain ⟨m, hm⟩ := k2; exact DataW.trod_lt m _ _ _ hm
  obtain ⟨a2, len2, cap2, rfl⟩ := okWide_slice Try.underlying23 (hval 2 23 v2 rfl rfl)
  have r102 : Rd23 W [.slice a2 len2 cap2] := by obtain ⟨fuel, hf⟩ := h2; exact rd23 hf
  have k3 := h3
  have lt3 : ∀ x ∈ p3, x.block < W.heap.size := by obtain ⟨m, hm⟩ := k3; exact DataW.trod_lt m _ _ _ hm
  obtain ⟨a3, rfl⟩ := okWide_int Try.underlying3 (hval 3 3 v3 rfl rfl)
  have r103 : Rd3 W [.int .i64 a3] := by obtain ⟨fuel, hf⟩ := h3; exact rd3 hf
  have k4 := h4
  have lt4 : ∀ x ∈ p4, x.block < W.heap.size := by obtain ⟨m, hm⟩ := k4; exact DataW.trod_lt m _ _ _ hm
  obtain ⟨⟨c4⟩, rfl, _⟩ := okWide_struct Try.underlying25 (hval 4 25 v4 rfl rfl)
  have r104 : Rd25 W c4 := by obtain ⟨fuel, hf⟩ := h4; exact rd25 hf
  clear hA0 hval0
  refine (walk _ _ _ _ c4 W r100 r101 r102 r103 r104).mono fun e W' ⟨he, bel⟩ => ?_
  subst he
  exact ⟨_, rfl, _, _, _, [], _, [], hW', trodAll_mk1 (shut_bool Try.underlying4 _), (trodAll_cons_mk (Below.trod laidOut (by kernel_rfl) (of_decide_eq_true (by kernel_rfl)) k0 bel lt0) (trodAll_cons_mk (Below.trod laidOut (by kernel_rfl) (of_decide_eq_true (by kernel_rfl)) k1 bel lt1) (trodAll_cons_mk (Below.trod laidOut (by kernel_rfl) (of_decide_eq_true (by kernel_rfl)) k2 bel lt2) (trodAll_cons_mk (Below.trod laidOut (by kernel_rfl) (of_decide_eq_true (by kernel_rfl)) k3 bel lt3) (trodAll_cons_mk (Below.trod laidOut (by kernel_rfl) (of_decide_eq_true (by kernel_rfl)) k4 bel lt4) trodAll_mk0))))), rfl, bel.frame _, fun h => by cases h⟩

theorem over : Rows.commissionRateRow.holds Try.pinned (OpenSpec.ofChange Rows.commissionRateSpec) :=
  OpenClaim.holds_of_wide 3 Try.f3 rfl rfl rfl rfl rfl rfl rfl ⟨rfl, rfl, rfl, rfl, rfl⟩ rfl rfl rfl rfl rfl (by kernel_rfl) Try.func3 (by kernel_rfl)
    (of_decide_eq_true (by kernel_rfl)) (by unfold Func.isWrapper; first | (rw [if_pos (by decide +kernel)]; kernel_rfl) | (rw [if_neg (by decide +kernel)]; exact ⟨rfl, rfl⟩))
    (fun os started H enc _ => lifted os started H enc)

/-- the statement -/
theorem proved : Rows.CommissionRateSaid := over
#print axioms proved
end Go.Proofs.Ytedkdflecdggpaa.commissionRate
