/- The law AdjustSum: Sum returns the specified sums or error, for all lists. No condition. -/
import Derived.Test.YtageedgbkaknnaaRows
import Derived.Test.YtageedgbkaknnaaRead
import Derived.Test.YtageedgbkaknnaaSumL
import Derived.Deep.DeepCutAuto
import Derived.Deep.CutBlock
import Derived.WalkKit
import Derived.ProofKit
import Derived.OpenShut
import Derived.ShutString
import Derived.ChangeOld
import Derived.Below
namespace Go.Proofs.Ytageedgbkaknnaa.adjustSum
open Go.ChangeShapes Go.WideShapes Go.ChangeAt Go.RowKit
set_option linter.unusedVariables false

theorem own : ownKnob Try.prog.godebug = none := by kernel_rfl
theorem laidOut : laidOutB Try.prog = true := by kernel_rfl



set_option maxHeartbeats 4000000 in
set_option maxRecDepth 100000 in
theorem walk (v0 : Value) (v1 : Value) (w : World) (h0 : Rd42 w [v0]) (h1 : Rd43 w [v1]) :
    Calls Try.prog 8 #[v0, v1] w fun e w' => e = .returned (.bool true) ∧ Below w.heap.size w w' := by
  obtain ⟨A, n, c, f, rfl, hn, hc⟩ := rd_adjs h0
  obtain ⟨A1, n1, c1, F1, rfl, hn1, hc1, hF1⟩ := rd_lists h1
  obtain ⟨r0, r1, r2, r3, r4, r5, r6, r7, r8, er, C1, C2⟩ := nine_c A n c f hn
  have HC := Lib.hid hc
  have HC1 := Lib.hid hc1
  have HF1 := Lib.hid hF1
  clear h0 h1 hc hc1 hF1
  obtain ⟨i0, hi0, hz0, hz1, hz2⟩ := info_parts adj_full
  have HI := Lib.hid hi0
  have HZ0 := Lib.hid hz0
  have HZ1 := Lib.hid hz1
  have HZ2 := Lib.hid hz2
  clear hi0 hz0 hz1 hz2
  by_cases hbig : 100 < n ∨ 80 < n1
  · rcases Nat.lt_or_ge 100 n with hb | hb
    · have hb' : (100 : Int) < n := by omega
      go_enter Try.func8, Try.ntmps8
      go_wp2_with (first | (go_at_call 12; refine (awake16_any _).mono ?_; rintro e w4 ⟨rfl, hb4⟩))
      go_ret
      exact ⟨rfl, hb4⟩
    · have hb1 : (n : Int) ≤ 100 := by omega
      have hb' : (80 : Int) < n1 := by omega
      go_enter Try.func8, Try.ntmps8
      go_wp2_with (first | (go_at_call 12; refine (awake16_any _).mono ?_; rintro e w4 ⟨rfl, hb4⟩))
      go_ret
      exact ⟨rfl, hb4⟩
  have hb0 : n ≤ 100 := by omega
  have hb1 : n1 ≤ 80 := by omega
  have hb0' : (n : Int) ≤ 100 := by omega
  have hb1' : (n1 : Int) ≤ 80 := by omega
  clear hbig
  go_enter Try.func8, Try.ntmps8
  go_wp2_with fail
  refine (C1.out _ HC.out).mono ?_
  rintro e w1 ⟨rfl, hb⟩
  have HB := Lib.hid hb
  clear hb C1
  try simp only
  go_wp2_with fail
  have hs1 := HB.out.size
  refine (C2.out _ ((HC.out.below (HB.out.alloc hs1 _)).mono (by simp; omega))).mono ?_
  rintro e w2 ⟨rfl, hb⟩
  have HA := Lib.hid ((Has.new w1 _ _).below hb (by simp))
  replace HB : Hid (Below w.heap.size w w2) := Lib.hid ((HB.out.alloc hs1 _).trans (hb.mono (by simp; omega)))
  have hs2 : w1.heap.size < w2.heap.size := by have := hb.size; simp at this; omega
  clear hb C2
  try simp only
  go_upto_region 5 with (fail)
  have HS : Hid (SmSt w w1.heap.size w2.heap.size (w2.heap.size + 1) #[.int .i64 r0, .int .i64 r1, .int .i64 r2, .int .i64 r3, .int .i64 r4, .int .i64 r5, .int .i64 r6, .int .i64 r7, .int .i64 r8] (w2.alloc (.cells #[.int .i64 r0, .int .i64 r1, .int .i64 r2, .int .i64 r3, .int .i64 r4, .int .i64 r5, .int .i64 r6, .int .i64 r7, .int .i64 r8] 28))) := Lib.hid ⟨HA.out.alloc _, Has.new _ _ _, HB.out.alloc (by omega) _, by omega, by omega, by omega, by simp⟩
  obtain ⟨w3, hw3⟩ : ∃ W, (w2.alloc (.cells #[.int .i64 r0, .int .i64 r1, .int .i64 r2, .int .i64 r3, .int .i64 r4, .int .i64 r5, .int .i64 r6, .int .i64 r7, .int .i64 r8] 28)) = W := ⟨_, rfl⟩
  obtain ⟨BA, hBA⟩ : ∃ b, w1.heap.size = b := ⟨_, rfl⟩
  obtain ⟨BB, hBB⟩ : ∃ b, w2.heap.size = b := ⟨_, rfl⟩
  obtain ⟨base, hbase⟩ : ∃ b, BB + 1 = b := ⟨_, rfl⟩
  rw [hw3, hBA, hBB, hbase] at HS
  rw [hw3, hBA, hBB]
  clear hw3 hBA hBB hbase HA HB hs1 hs2
  go_wp2_with fail
  go_loopw [9, 10] (fun v i wr => ∃ (k : Nat) (F : Nat → Int), k ≤ n1 ∧ i = .int .i64 k ∧ Hid (wr.ownsRow base 28 9 v k (numsL (k * 9) F)) ∧ Hid (SmSt w BA BB base #[.int .i64 r0, .int .i64 r1, .int .i64 r2, .int .i64 r3, .int .i64 r4, .int .i64 r5, .int .i64 r6, .int .i64 r7, .int .i64 r8] wr)) (fun _ i _ => n1 - (intOf i).toNat)
  case atStart => exact ⟨0, fun _ => 0, Nat.zero_le _, rfl, Lib.hid ⟨rfl, .inl ⟨rfl, rfl⟩⟩, HS⟩
  case round =>
    clear HS
    obtain ⟨k, F, hk, rfl, HO, HS⟩ := hrel
    by_cases hlt : k < n1
    · obtain ⟨b, o, rfl, hbw, hcell⟩ := Cells.plain (HC1.out.below HS.out.bl) (by omega)
      have hc0 := hcell k hlt
      obtain ⟨Aj, nj, cj, zj, hFj, hnj, hcj⟩ := HF1.out k hlt
      rw [hFj] at hc0
      have hk0 : (0 : Int) ≤ k := by omega
      have hk1 : (k : Int) < n1 := by omega
      have HCJ := Lib.hid ((Cells.below hcj HS.out.bl).mono HS.out.bl.size)
      clear hcell hFj hcj
      go_wp2_with fail
      refine (made16_any Aj nj cj zj _ hnj HCJ.out).mono ?_
      rintro e w4 ⟨⟨v', l', de', fr', co', av'⟩, ⟨va', su', gr'⟩, rfl, _, _, hb⟩
      replace HO := Lib.hid (own_below HO.out hb)
      replace HS := Lib.hid (HS.out.next hb)
      clear hb HCJ hc0
      unfold Ad.Dec.agg Ad.Itm.agg
      simp only
      obtain ⟨⟨g, u, a, f', d, kk, o', s, t⟩, hR⟩ : ∃ R, Ad.res ⟨v', l', de', fr', co', av'⟩ ⟨va', su', gr'⟩ = R := ⟨_, rfl⟩
      obtain ⟨er', he⟩ : ∃ R, Ad.err ⟨v', l', de', fr', co', av'⟩ ⟨va', su', gr'⟩ = R := ⟨_, rfl⟩
      have CR := radjust_c v' l' de' fr' co' av' none 0 0 va' su' gr' g u a f' d kk o' s t er' hR he
      clear hR he
      go_wp2_with fail
      refine (CR.out _).mono ?_
      rintro e w5 ⟨rfl, hb⟩
      have hb2 : Below w4.heap.size w4 w5 := (((Below.refl _ _).alloc (Nat.le_refl _) _).alloc (by simp) _).trans (hb.mono (by simp; omega))
      replace HO := Lib.hid (own_below HO.out hb2)
      replace HS := Lib.hid (HS.out.next hb2)
      clear hb hb2 CR
      try simp only
      go_upto_region 11 with (fail)
      have hal : Below w5.heap.size w5 (w5.alloc (.cells #[.int .i64 g, .int .i64 u, .int .i64 a, .int .i64 f', .int .i64 d, .int .i64 kk, .int .i64 o', .int .i64 s, .int .i64 t] 28)) := (Below.refl _ _).alloc (Nat.le_refl _) _
      replace HO := Lib.hid (own_below HO.out hal)
      replace HS := Lib.hid (HS.out.next hal)
      have HY := Lib.hid (Has.new w5 #[.int .i64 g, .int .i64 u, .int .i64 a, .int .i64 f', .int .i64 d, .int .i64 kk, .int .i64 o', .int .i64 s, .int .i64 t] 28)
      obtain ⟨w6, hw6⟩ : ∃ W, (w5.alloc (.cells #[.int .i64 g, .int .i64 u, .int .i64 a, .int .i64 f', .int .i64 d, .int .i64 kk, .int .i64 o', .int .i64 s, .int .i64 t] 28)) = W := ⟨_, rfl⟩
      obtain ⟨by_, hby⟩ : ∃ b, w5.heap.size = b := ⟨_, rfl⟩
      rw [hw6] at HO HS HY
      rw [hby] at HY
      rw [hw6, hby]
      clear hal hw6 hby
      obtain ⟨y0, y1, y2⟩ := HY.out.rules
      have hbs := HS.out.bs
      have HN := Lib.hid (numsL_nine k F g u a f' d kk o' s t)
      go_wp2_with ((at_builtin; refine wpList_append_lies _ rfl _ _ 42 rfl base 28 i0 _ 9 72 Try.underlying42 HI.out HZ0.out HZ1.out HZ2.out rfl (by omega) u9 k (numsL (k * 9) F) rfl (HO.out.alloc _) ⟨w6.heap.size, 0, none⟩ 1 1 [.int .i64 g, .int .i64 u, .int .i64 a, .int .i64 f', .int .i64 d, .int .i64 kk, .int .i64 o', .int .i64 s, .int .i64 t] rfl rfl (World.news_of_block (cs := #[.int .i64 g, .int .i64 u, .int .i64 a, .int .i64 f', .int .i64 d, .int .i64 kk, .int .i64 o', .int .i64 s, .int .i64 t]) (t := 28) (fr := (0, 0)) (heap_alloc_new w6 _)) (by simp [Value.oneCell']) (by omega) (by unfold maxLen; omega) (by omega) (by simp; omega) (w6.heap.size + 1) (by simp) ?_; intro q cap w7 hown hgrow hat hlt2))
      have HO2 := Lib.hid hown
      have HS2 := Lib.hid ((HS.out.next ((Below.refl _ _).alloc (Nat.le_refl _) _)).over ((Below.refl base _).grown hgrow (by simp; omega) fun q hq => by obtain ⟨_, _, hg⟩ := own_form HO.out hq; exact hg))
      clear hown hgrow hat hlt2 y0 y1 y2
      go_wp2_with fail
      go_roundw
      case rel => exact ⟨k + 1, _, by omega, by go_num, Lib.hid (by rw [← HN.out]; simpa using HO2.out), HS2⟩
      case measure => simp [intOf]; omega
    · have hkn : k = n1 := by omega
      subst hkn
      have hdd : decide ((k : Int) < k) = false := by rw [decide_eq_false_iff_not]; omega
      have hlist : ∃ (Am : Option Addr) (cm : Nat) , u9 = .slice Am k cm ∧ Nums wr wr.heap.size Am (k * 9) F := by
        rcases HO.out.2 with ⟨hv, hv0⟩ | ⟨g, cap, cur, hv, hg, _, _, _, _, _⟩
        · exact ⟨none, 0, by rw [hv, hv0], by rw [hv0]; exact Cells.zero⟩
        · refine ⟨_, cap, hv, ?_⟩
          have ho2 := HO.out
          rw [hv] at ho2
          exact Cells.of_own ho2 (fun j => .int .i64 (F j)) fun j hj => by
            have e3 := numsL_get (k * 9) F j (by rw [← numsL_length (k * 9) F]; exact hj)
            rw [List.getElem?_eq_getElem hj] at e3
            injection e3
      obtain ⟨Am, cm, rfl, hnm⟩ := hlist
      obtain ⟨q0, q1, q2, q3, q4, q5, q6, q7, q8, eq, D1, D2⟩ := nine_c Am k cm F (by omega)
      have HNM := Lib.hid hnm
      clear hnm HO
      go_wp2_with fail
      refine (D1.out _ HNM.out).mono ?_
      rintro e w4 ⟨rfl, hb⟩
      replace HS := Lib.hid (HS.out.next hb)
      replace HNM := Lib.hid ((HNM.out.below hb).mono hb.size)
      clear hb D1
      try simp only
      go_upto_region 13 with (fail)
      have hal : Below w4.heap.size w4 (w4.alloc (.cells #[.int .i64 q0, .int .i64 q1, .int .i64 q2, .int .i64 q3, .int .i64 q4, .int .i64 q5, .int .i64 q6, .int .i64 q7, .int .i64 q8] 28)) := (Below.refl _ _).alloc (Nat.le_refl _) _
      replace HS := Lib.hid (HS.out.next hal)
      replace HNM := Lib.hid ((HNM.out.below hal).mono hal.size)
      have HQ := Lib.hid (Has.new w4 #[.int .i64 q0, .int .i64 q1, .int .i64 q2, .int .i64 q3, .int .i64 q4, .int .i64 q5, .int .i64 q6, .int .i64 q7, .int .i64 q8] 28)
      obtain ⟨w5, hw5⟩ : ∃ W, (w4.alloc (.cells #[.int .i64 q0, .int .i64 q1, .int .i64 q2, .int .i64 q3, .int .i64 q4, .int .i64 q5, .int .i64 q6, .int .i64 q7, .int .i64 q8] 28)) = W := ⟨_, rfl⟩
      obtain ⟨BC, hBC⟩ : ∃ b, w4.heap.size = b := ⟨_, rfl⟩
      rw [hw5] at HS HNM HQ
      rw [hBC] at HQ
      rw [hw5, hBC]
      clear hal hw5 hBC
      go_wp2_with fail
      refine (D2.out _ HNM.out).mono ?_
      rintro e w6 ⟨rfl, hb⟩
      replace HS := Lib.hid (HS.out.next hb)
      replace HQ := Lib.hid (HQ.out.below hb HQ.out.lt)
      clear hb D2 HNM
      try simp only
      go_upto_region 14 with (fail)
      have hal : Below w6.heap.size w6 (w6.alloc (.cells #[.int .i64 q0, .int .i64 q1, .int .i64 q2, .int .i64 q3, .int .i64 q4, .int .i64 q5, .int .i64 q6, .int .i64 q7, .int .i64 q8] 28)) := (Below.refl _ _).alloc (Nat.le_refl _) _
      replace HS := Lib.hid (HS.out.next hal)
      replace HQ := Lib.hid (HQ.out.below hal HQ.out.lt)
      have HQ2 := Lib.hid (Has.new w6 #[.int .i64 q0, .int .i64 q1, .int .i64 q2, .int .i64 q3, .int .i64 q4, .int .i64 q5, .int .i64 q6, .int .i64 q7, .int .i64 q8] 28)
      obtain ⟨w7, hw7⟩ : ∃ W, (w6.alloc (.cells #[.int .i64 q0, .int .i64 q1, .int .i64 q2, .int .i64 q3, .int .i64 q4, .int .i64 q5, .int .i64 q6, .int .i64 q7, .int .i64 q8] 28)) = W := ⟨_, rfl⟩
      obtain ⟨BD, hBD⟩ : ∃ b, w6.heap.size = b := ⟨_, rfl⟩
      rw [hw7] at HS HQ HQ2
      rw [hBD] at HQ2
      rw [hw7, hBD]
      clear hal hw7 hBD
      have HBE := Lib.hid HS.out.bl
      obtain ⟨a0, a1, a2⟩ := HS.out.ha.rules
      obtain ⟨b0, b1', b2⟩ := HS.out.hb.rules
      obtain ⟨c0, c1', c2⟩ := HQ.out.rules
      obtain ⟨d0, d1, d2⟩ := HQ2.out.rules
      clear HS HQ HQ2
      go_wp2_with (first | (go_at_call 12; refine (awake16_any _).mono ?_; rintro e w8 ⟨rfl, hb8⟩))
      go_ret
      exact ⟨rfl, HBE.out.trans (hb8.mono HBE.out.size)⟩

set_option maxRecDepth 100000 in
theorem lifted (os : Os) (started : os.Started) (H : Type) (enc : TypeId × Value → H) :
    ReturnsInHanded {} Try.checked os 8 .any (Rows.adjustSumSpec.pre6 enc Try.prog Try.f8 Rows.adjustSumRow.domain false) (Rows.adjustSumSpec.post enc Try.prog Try.f8 false true false false) := by
  refine returnsInHanded_of_change (C := Try.checked) own started (by kernel_rfl) Try.func8
    (ChangeSpec.witness6 (enc := enc) (C := Try.checked) false ⟨#[], #[.slice none 0 0, .slice none 0 0], []⟩ 8 (by kernel_rfl) (by kernel_rfl) (by kernel_rfl) (by kernel_rfl)) ?_
  intro W base args ds gs before hval0 hW hcnd _
  have hval : ∀ (j : Nat) t v, Try.f8.params[j]? = some t → args[j]? = some v → Value.okWide Try.prog W .any base t v := hval0
  have hW' := hW
  obtain ⟨p, q, hA0, hV, rfl, hfz, hnd⟩ := hW
  have hA : DataW.TrodAll enc Try.prog W 0 (fun _ => true) true Try.f8.params.toList args.toList ds p := hA0
  rw [Try.params8] at hA hval
  obtain ⟨v0, vs0, d0, ds0, p0, q0, hargs, rfl, rfl, h0, r0⟩ := trodAll_cons hA
  obtain ⟨v1, vs1, d1, ds1, p1, q1, rfl, rfl, rfl, h1, r1⟩ := trodAll_cons r0
  obtain ⟨rfl, rfl, rfl⟩ := trodAll_nil r1
  obtain rfl : args = #[v0, v1] := by cases args; simp_all
  obtain ⟨rfl, rfl⟩ := trodVars_none hV
  have k0 := h0
  have lt0 : ∀ x ∈ p0, x.block < W.heap.size := by obtain ⟨m, hm⟩ := k0; exact DataW.trod_lt m _ _ _ hm
  obtain ⟨a0, len0, cap0, rfl⟩ := okWide_slice Try.underlying42 (hval 0 42 v0 rfl rfl)
  have r100 : Rd42 W [.slice a0 len0 cap0] := by obtain ⟨fuel, hf⟩ := h0; exact rd42 hf
  have k1 := h1
  have lt1 : ∀ x ∈ p1, x.block < W.heap.size := by obtain ⟨m, hm⟩ := k1; exact DataW.trod_lt m _ _ _ hm
  obtain ⟨a1, len1, cap1, rfl⟩ := okWide_slice Try.underlying43 (hval 1 43 v1 rfl rfl)
  have r101 : Rd43 W [.slice a1 len1 cap1] := by obtain ⟨fuel, hf⟩ := h1; exact rd43 hf
  clear hA0 hval0
  refine (walk _ _ W r100 r101).mono fun e W' ⟨he, bel⟩ => ?_
  subst he
  exact ⟨_, rfl, _, _, _, [], _, [], hW', trodAll_mk1 (shut_bool Try.underlying4 _), (trodAll_cons_mk (Below.trod laidOut (by kernel_rfl) (of_decide_eq_true (by kernel_rfl)) k0 bel lt0) (trodAll_cons_mk (Below.trod laidOut (by kernel_rfl) (of_decide_eq_true (by kernel_rfl)) k1 bel lt1) trodAll_mk0)), rfl, bel.frame _, fun h => by cases h⟩

theorem over : Rows.adjustSumRow.holds Try.pinned (OpenSpec.ofChange Rows.adjustSumSpec) :=
  OpenClaim.holds_of_wide 8 Try.f8 rfl rfl rfl rfl rfl rfl rfl ⟨rfl, rfl, rfl, rfl, rfl⟩ rfl rfl rfl rfl rfl (by kernel_rfl) Try.func8 (by kernel_rfl)
    (of_decide_eq_true (by kernel_rfl)) (by unfold Func.isWrapper; first | (rw [if_pos (by decide +kernel)]; kernel_rfl) | (rw [if_neg (by decide +kernel)]; exact ⟨rfl, rfl⟩))
    (fun os started H enc _ => lifted os started H enc)

/-- the statement -/
theorem proved : Rows.AdjustSumSaid := over
#print axioms proved
end Go.Proofs.Ytageedgbkaknnaa.adjustSum
